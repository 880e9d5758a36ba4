/- The iterator search.tries yields the arcs that are tried. Conditions: at most 512 arcs are open. -/
import Derived.Test.YtdphhjibkjlmcaaL34
namespace Go.Eng.Lp
open Go.Eng Go.Proofs
set_option linter.all false
set_option maxRecDepth 100000
set_option maxHeartbeats 8000000

/-- An environment of one's own: nothing but the world ahead. -/
noncomputable def E0 (w : World) : Env := { P := Try.prog, M := fun _ => False, mu := fun _ => False, w0 := w, OB := OB, x := { nd := true } }

theorem own_of {w w' : World} {nt : Nat} {st : St} {a' : Act} (hR : RelS (E0 w) nt st a' w') {ps : List (Nat × Obj)} (h : ∀ p ∈ ps, w.heap[p.1]? = some p.2) : OwnStep w w' ps ps := by
  obtain ⟨η, g, _⟩ := hR
  exact ⟨g.os, g.tape, g.output, g.grow, fun b hb _ => g.keep b hb (fun h => h) (fun h => h), fun p hp => ⟨(g.keep p.1 (lt_of_heap (h p hp)) (fun h => h) (fun h => h)).trans (h p hp), .inl ⟨p.2, hp⟩⟩⟩

/-- A part of a body, walked by the executor in an environment of its own. -/
theorem piece {nt : Nat} {anns : List (St → LoopAnn)} {b : Code} {st0 target : St} {a : Act} {w0 w : World} {Q : Exit → Act → World → Prop} (hR : RelS (E0 w0) nt st0 a w) (hd : dstOk nt b = true) (hnr : noRange b = true)
    (hvc : vc (cfg {} [] nt) (par (cfg {} [] nt)) anns b 0 st0 (fun e st => match e with | .normal => Goal (∃ s : Unit, ent st target ∧ True) | _ => False))
    (hQ : ∀ a' w', RelS (E0 w0) nt target a' w' → Agree (dsts b) a a' → Q .normal a' w') : b.wpIn (Fw none) 0 Try.prog Q a w := by
  refine wpIn_mono (vc_sound (cfgOk x0 (ctr := []) trivial) (par_sound mixed (cfgOk x0 (ctr := []) trivial)) b 0 st0 _ a w (E0 w0) none rfl rfl (.inr hnr) hd hvc hR) ?_
  rintro e a' w' ⟨⟨xe, st', h1, h2, h3⟩, hag⟩
  subst h1
  cases xe with
  | normal =>
    obtain ⟨_, h4, _⟩ := h2.out
    exact hQ a' w' (ent_sound h4 h3) (hag (by intro h; cases h))
  | exit id => exact h2.elim
  | ret => exact h2.elim

theorem getD_put {a : Act} {t u : Nat} {v : Value} (h : t < a.tmps.size) : (a.put (some t) v).tmps.getD u undef = if u = t then v else a.tmps.getD u undef := by
  simp only [Act.put, Array.getD_eq_getD_getElem?]
  by_cases hu : u = t
  · subst hu; simp [h]
  · rw [if_neg hu, Array.getElem?_setIfInBounds_ne (Ne.symm hu)]

theorem size_put (a : Act) (t : Nat) (v : Value) : (a.put (some t) v).tmps.size = a.tmps.size := by simp [Act.put]
theorem defers_put (a : Act) (t : Nat) (v : Value) : (a.put (some t) v).defers = a.defers := rfl

section
variable {P : Program} {Q : Exit → Act → World → Prop} {a : Act} {w : World} {K : Act → World → Prop}

theorem op_val {o : Oper} {v : Value} (hnd : ∀ d, o.op ≠ .defer d) (hr : (execOp a.eval o).run P w = .ok (.value v) w) (h : K (a.put o.dst v) w) : o.wpIn (Fw none) 0 P a w K Q :=
  wpIn_of_run hnd hr h

theorem op_round {o : Oper} {l f : Nat} {tmps : Array Value} {assign body : Code} (hnd : ∀ d, o.op ≠ .defer d) (hr : (execOp a.eval o).run P w = .ok (.round l f tmps assign body) w)
    (h : RoundIn (Fw none) 0 P l f tmps assign body w fun e w' => ∃ v, e = .returned v ∧ K (a.put o.dst v) w') : o.wpIn (Fw none) 0 P a w K Q :=
  wpIn_of_run hnd hr ⟨fun h => (by cases h), RoundIn.mono h (fun e w' ⟨v, h1, h2⟩ => by subst h1; exact h2)⟩

theorem list_nil {ops : Array Oper} (h : Q .normal a w) : wpListIn (Fw none) 0 P ops Q [] a w := h

theorem list_step {ops : Array Oper} {o : Oper} {rest : List Oper} (hg : o.guard = none) (h : o.wpIn (Fw none) 0 P a w (wpListIn (Fw none) 0 P ops Q rest) Q) : wpListIn (Fw none) 0 P ops Q (o :: rest) a w := by
  have hw : Region.wanted o (yielded ops a.tmps) = true := by simp [Region.wanted, hg]
  simp only [wpListIn, hw, if_true]
  exact h
end

@[reducible] def isp125 : ISpec := { rd := [(0, 4, .sl ArcT)], e := ArcT, seq := fun x i => (triesK x.1).getD i (0, 0, ()), len := fun x => some (triesK x.1).length, nb := 1, pre := fun x => List.length (α := AA) x.1 ≤ 512 }

/-- The arcs' own values. -/
theorem arc_flat {V V' : View} {x : AA} {l : List Value} (h : Rep V ArcT x l) : Rep V' ArcT x l := by
  obtain ⟨l1, l2, e, h1, l3, l4, e2, h2, h3⟩ := h
  exact ⟨l1, l2, e, h1, l3, l4, e2, h2, h3⟩

/-- What stays in the iterator's slots. -/
structure Raw (a : Act) (y v : Value) (L i : Nat) : Prop where
  size : a.tmps.size = 85
  defers : a.defers = []
  s1 : a.tmps.getD 1 undef = y
  s74 : a.tmps.getD 74 undef = v
  s75 : a.tmps.getD 75 undef = .int .i64 L
  s76 : a.tmps.getD 76 undef = .int .i64 i

@[reducible] def stRaw (y : Value) (xs : List AA) (i : Nat) : St := [.slot 1 (.one (.v y)), .slot 74 (.one (.d (.sl ArcT) xs)), sI 75 xs.length, sI 76 i]

theorem raw_rel {a : Act} {y : Value} {xs : List AA} {i b c : Nat} {cur : Array Value} {w : World} (R : Raw a y (.slice (some ⟨b, 0, none⟩) xs.length c) xs.length i)
    (hb : w.heap[b]? = some (.cells cur 41 (0, 0))) (hrow : ∀ V, RowIn V ArcT xs c cur) : RelS (E0 w) 85 (stRaw y xs i) a w := by
  refine ⟨fun _ => none, {
    size := R.size, lim := by decide, defers := ⟨⟨[], R.defers, List.nodup_nil, fun _ h => by cases h⟩, fun _ h => by cases h⟩, os := rfl, tape := rfl, output := rfl, grow := Nat.le_refl _, keep := fun _ _ _ _ => rfl,
    own := fun k b n hk => (by cases hk), dis := fun b hb => hb.elim, inj := fun k k' b n n' hk => (by cases hk), old := fun b hb => hb.elim, obkeep := fun b i o _ h => h.elim, nd := fun _ => R.defers }, fun f hf => ?_⟩
  simp only [stRaw, List.mem_cons, List.not_mem_nil, or_false] at hf
  rcases hf with rfl | rfl | rfl | rfl
  · simp only [Fact.holds]; rw [sval_lt (by decide)]; exact R.s1
  · simp only [Fact.holds]; rw [sval_lt (by decide), R.s74]
    obtain ⟨h1, h2, h3, h4⟩ := hrow (vw (E0 w) (fun _ => none) w)
    refine ⟨_, ⟨some ⟨b, 0, none⟩, c, rfl, h2, h3, fun h => by (cases h), fun ad had hne => ?_⟩, .inr ⟨rfl, rfl⟩⟩
    cases had
    refine ⟨rfl, cur, ⟨fun h => h.elim id (fun ⟨_, h⟩ => by cases h), fun _ _ h => (by cases h), 41, (0, 0), hb⟩, ?_, fun j x hj => ?_⟩
    · have : ArcT.size = 2 := rfl
      rw [this] at h1 ⊢
      show 0 + xs.length * 2 ≤ cur.size
      omega
    · have := h4 j x (by rw [← hj])
      simpa using this
  · simp only [Fact.holds]; rw [sval_lt (by decide), R.s75]; exact RepV.mk1 rfl rfl
  · simp only [Fact.holds]; rw [sval_lt (by decide), R.s76]; exact RepV.mk1 rfl rfl

def jnAnn (os : List AA) : LoopAnn := { σ := Nat, pat := fun k => [sI 21 k, .slot 15 (.one .u), .slot 4 (.one (.o 15 (os.length + 2 + (joinK os k).length))), .row 15 41 ArcT ([(0, 0, ()), (2048, 2048, ())] ++ os ++ joinK os k)], inv := fun k => k ≤ os.length, meas := fun k => os.length - k }

theorem agree_get {c : Code} {a a' : Act} (h : Agree (dsts c) a a') {t : Nat} (ht : memN t (dsts c) = false) : a'.tmps.getD t undef = a.tmps.getD t undef := h t fun hm => by rw [memN_iff.2 hm] at ht; cases ht

theorem cell_inv {w : World} {b off : Nat} {v : Value} (h : w.cell? ⟨b, off, none⟩ = some v) : ∃ cur el f, w.heap[b]? = some (.cells cur el f) ∧ cur[off]? = some v := by
  unfold World.cell? at h
  simp only at h
  split at h
  · rename_i cur el f hh
    exact ⟨cur, el, f, hh, h⟩
  · cases h

/-- Three parts ahead of a fourth one. -/
theorem pre3 {nt : Nat} {anns : List (St → LoopAnn)} {x y z d : Code} {st0 target : St} {a : Act} {w0 w : World} {Q : Exit → Act → World → Prop} (hR : RelS (E0 w0) nt st0 a w) (hd : dstOk nt (.seq x (.seq y z)) = true) (hnr : noRange (.seq x (.seq y z)) = true)
    (hvc : vc (cfg {} [] nt) (par (cfg {} [] nt)) anns (.seq x (.seq y z)) 0 st0 (fun e st => match e with | .normal => Goal (∃ s : Unit, ent st target ∧ True) | _ => False))
    (hQ : ∀ a' w', RelS (E0 w0) nt target a' w' → d.wpIn (Fw none) 0 Try.prog Q a' w') : (Code.seq x (.seq y (.seq z d))).wpIn (Fw none) 0 Try.prog Q a w := by
  have hC := cfgOk x0 (ctr := []) (nt := nt) trivial
  simp only [dstOk, Bool.and_eq_true] at hd
  simp only [noRange, Bool.and_eq_true] at hnr
  refine wpIn_seq (wpIn_mono (vc_sound hC (par_sound mixed hC) x 0 st0 _ a w (E0 w0) none rfl rfl (.inr hnr.1) hd.1 hvc hR) ?_)
  rintro e a1 w1 ⟨⟨xe, st1, h1, h2, h3⟩, _⟩
  subst h1
  cases xe with
  | exit id => exact h2.elim
  | ret => exact h2.elim
  | normal =>
  have h2 : forceN _ _ := h2
  rw [forceN_eq] at h2
  refine wpIn_seq (wpIn_mono (vc_sound hC (par_sound mixed hC) y _ st1 _ a1 w1 (E0 w0) none rfl rfl (.inr hnr.2.1) hd.2.1 h2 h3) ?_)
  rintro e a2 w2 ⟨⟨xe, st2, h1, h2, h3⟩, _⟩
  subst h1
  cases xe with
  | exit id => exact h2.elim
  | ret => exact h2.elim
  | normal =>
  have h2 : forceN _ _ := h2
  rw [forceN_eq] at h2
  refine wpIn_seq (wpIn_mono (vc_sound hC (par_sound mixed hC) z _ st2 _ a2 w2 (E0 w0) none rfl rfl (.inr hnr.2.2) hd.2.2 h2 h3) ?_)
  rintro e a3 w3 ⟨⟨xe, st3, h1, h2, h3⟩, _⟩
  subst h1
  cases xe with
  | exit id => exact h2.elim
  | ret => exact h2.elim
  | normal =>
  obtain ⟨_, h4, _⟩ := h2.out
  exact hQ a3 w3 (ent_sound h4 h3)

noncomputable def b125 : Code := bodyOf Try.f57
noncomputable def a0' : Code := match b125 with | .seq x _ => x | c => c
noncomputable def a1' : Code := match b125 with | .seq _ (.seq x _) => x | c => c
noncomputable def a7' : Code := match b125 with | .seq _ (.seq _ (.seq x _)) => x | c => c
noncomputable def lp' : Code := match b125 with | .seq _ (.seq _ (.seq _ (.block _ (.loop x)))) => x | c => c
noncomputable def a8' : Code := match lp' with | .seq x _ => x | c => c
noncomputable def a9' : Code := match lp' with | .seq _ (.seq _ (.seq (.block _ (.seq x _)) _)) => x | c => c
noncomputable def a10' : Code := match lp' with | .seq _ (.seq _ (.seq (.block _ (.seq _ (.seq x _))) _)) => x | c => c
noncomputable def a11' : Code := match lp' with | .seq _ (.seq _ (.seq _ x)) => x | c => c

theorem body125 : (Try.f57.body : Option Code) = some (.seq a0' (.seq a1' (.seq a7' (.block 2 (.loop (.seq a8' (.seq (.cond (.tmp 77) .skip (.exit 2)) (.seq (.block 3 (.seq a9' (.seq a10' (.cond (.tmp 83) .ret .skip)))) a11')))))))) := rfl

theorem vcPre (y : Value) (os : List AA) (ho : os.length ≤ 512) : vc (cfg {} [] 85) (par (cfg {} [] 85)) [fun _ => jnAnn os] (.seq a0' (.seq a1' a7')) 0 [.slot 0 (.one (.po 4 (.sl ArcT) os)), .slot 1 (.one (.v y))]
    (fun e st => match e with | .normal => Goal (∃ s : Unit, ent st [.slot 1 (.one (.v y)), .slot 74 (.one (.o 60004 (triesK os).length)), .row 60004 41 ArcT (triesK os), sI 75 (triesK os).length, sI 76 0] ∧ True) | _ => False) := by
  have hj := fun k => joinK_len os k
  repeat' (intro hzz; (try (rename Two => hq; cases hq)); (try dsimp only at hzz); (try simp only [resTy, argTy, eqD, inR, big, wantOf, Bool.not_true, Bool.not_false, Bool.true_eq, decide_eq_true_eq, decide_eq_false_iff_not, Bool.not_eq_true', Bool.not_eq_false', Bool.and_eq_true, Prod.mk.injEq, and_true, true_and, Int.not_lt, Int.not_le, gt_iff_lt, ge_iff_le] at hzz); (try simp only [resTy, argTy, eqD, inR, big, wantOf, Bool.not_true, Bool.not_false, Bool.true_eq, decide_eq_true_eq, decide_eq_false_iff_not, Bool.not_eq_true', Bool.not_eq_false', Bool.and_eq_true, Prod.mk.injEq, and_true, true_and, Int.not_lt, Int.not_le, gt_iff_lt, ge_iff_le, List.length_append, List.length_cons, List.length_nil] at hzz); (try (revert hzz; intro _)))
  all_goals try (rename Unit => hq; clear hq)
  all_goals try ((with_reducible refine Held.mk ?_); (with_reducible (first | refine Frz.mk ?_ | refine And.intro (Frz.mk ?_) ?_ | refine And.intro ?_ (Frz.mk ?_))); repeat' first | exact True.intro | (change _ = _; with_reducible rfl) | refine And.intro ?_ ?_ | (with_reducible refine Frz.mk ?_))
  all_goals try (refine Held.mk ?_; (try dsimp only at *); (try simp only [resTy, argTy, eqD, inR, big, wantOf, Bool.not_true, Bool.not_false, Bool.true_eq, decide_eq_true_eq, decide_eq_false_iff_not, Bool.not_eq_true', Bool.not_eq_false', Bool.and_eq_true, Prod.mk.injEq, and_true, true_and, Int.not_lt, Int.not_le, gt_iff_lt, ge_iff_le] at *); (try simp only [resTy, argTy, eqD, inR, big, wantOf, Bool.not_true, Bool.not_false, Bool.true_eq, decide_eq_true_eq, decide_eq_false_iff_not, Bool.not_eq_true', Bool.not_eq_false', Bool.and_eq_true, Prod.mk.injEq, and_true, true_and, Int.not_lt, Int.not_le, gt_iff_lt, ge_iff_le, List.length_append, List.length_cons, List.length_nil] at *))
  all_goals try omega
  ·
    refine GHeld.mk ?_
    refine Exists.intro (0 : Nat) ?_
    refine And.intro (Leaf.mk ?_) ?_
    · repeat' first | exact True.intro | refine And.intro ?_ ?_
      all_goals try ((change _ = _ <;> try dsimp only) <;> try with_reducible rfl)
      all_goals try omega
      all_goals (first | exact (List.append_nil _).symm | (simp [joinK] <;> omega))
    exact Nat.zero_le _
  · rename_i k _ _ _ _
    have := hj k
    omega
  · rename_i k h1 h2 h3 h4
    have h4 : (os.getD k (0, 0, ())).2.1 = (os.getD (k + 1) (0, 0, ())).1 := h4
    have e : joinK os (k + 1) = joinK os k ++ [((os.getD k (0, 0, ())).1, (os.getD (k + 1) (0, 0, ())).2.1, ())] := by
      simp only [joinK]; rw [if_pos ⟨by omega, h4⟩]
    have el : (joinK os (k + 1)).length = (joinK os k).length + 1 := by rw [e]; simp
    refine GHeld.mk ?_
    refine Exists.intro (k + 1) ?_
    refine And.intro (Leaf.mk ?_) ?_
    · repeat' first | exact True.intro | refine And.intro ?_ ?_
      all_goals try ((change _ = _ <;> try dsimp only) <;> try with_reducible rfl)
      all_goals try omega
      all_goals (first | (rw [e, ← List.append_assoc]; rfl) | (rw [el]; simp only [List.length_append, List.length_cons, List.length_nil]; omega))
    exact ⟨by omega, by show os.length - (k + 1) < os.length - k; omega⟩
  · rename_i k h1 h2 h3 h4
    have e : joinK os (k + 1) = joinK os k := by
      simp only [joinK]; rw [if_neg (fun h => h4 h.2)]; exact List.append_nil _
    refine GHeld.mk ?_
    refine Exists.intro (k + 1) ?_
    refine And.intro (Leaf.mk ?_) ?_
    · repeat' first | exact True.intro | refine And.intro ?_ ?_
      all_goals try ((change _ = _ <;> try dsimp only) <;> try with_reducible rfl)
      all_goals try omega
      all_goals (first | (rw [e]; done) | (rw [e]; omega))
    exact ⟨by omega, by show os.length - (k + 1) < os.length - k; omega⟩
  · rename_i k h1 h2 h3
    have e : joinK os (k + 1) = joinK os k := by
      simp only [joinK]; rw [if_neg (fun h => by omega)]; exact List.append_nil _
    refine GHeld.mk ?_
    refine Exists.intro (k + 1) ?_
    refine And.intro (Leaf.mk ?_) ?_
    · repeat' first | exact True.intro | refine And.intro ?_ ?_
      all_goals try ((change _ = _ <;> try dsimp only) <;> try with_reducible rfl)
      all_goals try omega
      all_goals (first | (rw [e]; done) | (rw [e]; omega))
    exact ⟨by omega, by show os.length - (k + 1) < os.length - k; omega⟩
  · rename_i k h1 h2
    obtain rfl : k = os.length := by omega
    have el : (triesK os).length = os.length + 2 + (joinK os os.length).length := by simp only [triesK, List.length_append, List.length_cons, List.length_nil]; omega
    refine GHeld.mk ?_
    refine Exists.intro () ?_
    refine And.intro (Leaf.mk ?_) ?_
    · repeat' first | exact True.intro | refine And.intro ?_ ?_
      all_goals try ((change _ = _ <;> try dsimp only) <;> try with_reducible rfl)
      all_goals try omega
      all_goals (first | rfl | (rw [el]; omega))
    trivial

theorem vc8 (y : Value) (xs : List AA) (i : Nat) : vc (cfg {} [] 85) (par (cfg {} [] 85)) [] a8' 0 (stRaw y xs i)
    (fun e st => match e with | .normal => Goal (∃ s : Unit, ent st (.slot 77 (.one (.d .bool (decide ((i : Int) < xs.length)))) :: stRaw y xs i) ∧ True) | _ => False) := by
  repeat' (intro hzz; (try (rename Two => hq; cases hq)); (try dsimp only at hzz); (try simp only [resTy, argTy, eqD, inR, big, wantOf, Bool.not_true, Bool.not_false, Bool.true_eq, decide_eq_true_eq, decide_eq_false_iff_not, Bool.not_eq_true', Bool.not_eq_false', Bool.and_eq_true, Prod.mk.injEq, and_true, true_and, Int.not_lt, Int.not_le, gt_iff_lt, ge_iff_le] at hzz); (try (revert hzz; intro _)))
  all_goals try (rename Unit => hq; clear hq)
  all_goals try ((with_reducible refine Held.mk ?_); (with_reducible (first | refine Frz.mk ?_ | refine And.intro (Frz.mk ?_) ?_ | refine And.intro ?_ (Frz.mk ?_))); repeat' first | exact True.intro | (change _ = _; with_reducible rfl) | refine And.intro ?_ ?_ | (with_reducible refine Frz.mk ?_))
  all_goals try (refine Held.mk ?_; (try dsimp only at *); (try simp only [resTy, argTy, eqD, inR, big, wantOf, Bool.not_true, Bool.not_false, Bool.true_eq, decide_eq_true_eq, decide_eq_false_iff_not, Bool.not_eq_true', Bool.not_eq_false', Bool.and_eq_true, Prod.mk.injEq, and_true, true_and, Int.not_lt, Int.not_le, gt_iff_lt, ge_iff_le] at *))
  all_goals try omega
  ·
    refine GHeld.mk ?_
    refine Exists.intro () ?_
    refine And.intro (Leaf.mk ?_) ?_
    · repeat' first | exact True.intro | refine And.intro ?_ ?_
      all_goals try ((change _ = _ <;> try dsimp only) <;> try with_reducible rfl)
      all_goals try omega
      all_goals (rfl)
    trivial

theorem vc9 (y : Value) (xs : List AA) (i : Nat) (hi : i < xs.length) : vc (cfg {} [] 85) (par (cfg {} [] 85)) [] a9' 0 (stRaw y xs i)
    (fun e st => match e with | .normal => Goal (∃ s : Unit, ent st ([.slot 7 (.one (.p 60007 0)), .cell 60007 0 (.d I64 (xs.getD i (0, 0, ())).1), .cell 60007 1 (.d I64 (xs.getD i (0, 0, ())).2.1)] ++ stRaw y xs i) ∧ True) | _ => False) := by
  repeat' (intro hzz; (try (rename Two => hq; cases hq)); (try dsimp only at hzz); (try simp only [resTy, argTy, eqD, inR, big, wantOf, Bool.not_true, Bool.not_false, Bool.true_eq, decide_eq_true_eq, decide_eq_false_iff_not, Bool.not_eq_true', Bool.not_eq_false', Bool.and_eq_true, Prod.mk.injEq, and_true, true_and, Int.not_lt, Int.not_le, gt_iff_lt, ge_iff_le] at hzz); (try (revert hzz; intro _)))
  all_goals try (rename Unit => hq; clear hq)
  all_goals try ((with_reducible refine Held.mk ?_); (with_reducible (first | refine Frz.mk ?_ | refine And.intro (Frz.mk ?_) ?_ | refine And.intro ?_ (Frz.mk ?_))); repeat' first | exact True.intro | (change _ = _; with_reducible rfl) | refine And.intro ?_ ?_ | (with_reducible refine Frz.mk ?_))
  all_goals try (refine Held.mk ?_; (try dsimp only at *); (try simp only [resTy, argTy, eqD, inR, big, wantOf, Bool.not_true, Bool.not_false, Bool.true_eq, decide_eq_true_eq, decide_eq_false_iff_not, Bool.not_eq_true', Bool.not_eq_false', Bool.and_eq_true, Prod.mk.injEq, and_true, true_and, Int.not_lt, Int.not_le, gt_iff_lt, ge_iff_le] at *))
  all_goals try omega
  ·
    refine GHeld.mk ?_
    refine Exists.intro () ?_
    refine And.intro (Leaf.mk ?_) ?_
    · repeat' first | exact True.intro | refine And.intro ?_ ?_
      all_goals try ((change _ = _ <;> try dsimp only) <;> try with_reducible rfl)
      all_goals try omega
      all_goals (rfl)
    trivial

theorem vc11 (y : Value) (xs : List AA) (i : Nat) (hi : i < 10000) : vc (cfg {} [] 85) (par (cfg {} [] 85)) [] a11' 0 (stRaw y xs i)
    (fun e st => match e with | .normal => Goal (∃ s : Unit, ent st (stRaw y xs (i + 1)) ∧ True) | _ => False) := by
  repeat' (intro hzz; (try (rename Two => hq; cases hq)); (try dsimp only at hzz); (try simp only [resTy, argTy, eqD, inR, big, wantOf, Bool.not_true, Bool.not_false, Bool.true_eq, decide_eq_true_eq, decide_eq_false_iff_not, Bool.not_eq_true', Bool.not_eq_false', Bool.and_eq_true, Prod.mk.injEq, and_true, true_and, Int.not_lt, Int.not_le, gt_iff_lt, ge_iff_le] at hzz); (try (revert hzz; intro _)))
  all_goals try (rename Unit => hq; clear hq)
  all_goals try ((with_reducible refine Held.mk ?_); (with_reducible (first | refine Frz.mk ?_ | refine And.intro (Frz.mk ?_) ?_ | refine And.intro ?_ (Frz.mk ?_))); repeat' first | exact True.intro | (change _ = _; with_reducible rfl) | refine And.intro ?_ ?_ | (with_reducible refine Frz.mk ?_))
  all_goals try (refine Held.mk ?_; (try dsimp only at *); (try simp only [resTy, argTy, eqD, inR, big, wantOf, Bool.not_true, Bool.not_false, Bool.true_eq, decide_eq_true_eq, decide_eq_false_iff_not, Bool.not_eq_true', Bool.not_eq_false', Bool.and_eq_true, Prod.mk.injEq, and_true, true_and, Int.not_lt, Int.not_le, gt_iff_lt, ge_iff_le] at *))
  all_goals try omega
  ·
    refine GHeld.mk ?_
    refine Exists.intro () ?_
    refine And.intro (Leaf.mk ?_) ?_
    · repeat' first | exact True.intro | refine And.intro ?_ ?_
      all_goals try ((change _ = _ <;> try dsimp only) <;> try with_reducible rfl)
      all_goals try omega
      all_goals (rfl)
    trivial

theorem triesK_len {os : List AA} (h : os.length ≤ 512) : 2 ≤ (triesK os).length ∧ (triesK os).length ≤ 1026 := by
  have := joinK_len os os.length
  simp only [triesK, List.length_append, List.length_cons, List.length_nil]; omega

theorem raw_of {w w' : World} {a a' : Act} {c : Code} {y v : Value} {L i : Nat} {st : St} (R : Raw a y v L i) (hR : RelS (E0 w) 85 st a' w') (hag : Agree (dsts c) a a')
    (h : (memN 1 (dsts c) || (memN 74 (dsts c) || (memN 75 (dsts c) || memN 76 (dsts c)))) = false) : Raw a' y v L i := by
  simp only [Bool.or_eq_false_iff] at h
  obtain ⟨η, g, _⟩ := hR
  exact ⟨g.size, g.nd rfl, (agree_get hag h.1).trans R.s1, (agree_get hag h.2.1).trans R.s74, (agree_get hag h.2.2.1).trans R.s75, (agree_get hag h.2.2.2).trans R.s76⟩

theorem raw_put {a : Act} {y v u : Value} {L i t : Nat} (R : Raw a y v L i) (ht : (77 ≤ t ∧ t < 85)) : Raw (a.put (some t) u) y v L i := by
  have hs := R.size
  refine ⟨by rw [size_put]; exact hs, R.defers, ?_, ?_, ?_, ?_⟩ <;> rw [getD_put (by omega), if_neg (by omega)]
  · exact R.s1
  · exact R.s74
  · exact R.s75
  · exact R.s76

theorem ih125 : IHolds Try.prog 57 isp125 := by
  intro fv cv x l N J Jx W hnb hcv hpre hJ hJa hJxa hJN hY hJ0
  obtain ⟨p, rfl⟩ : ∃ p, fv = [p] := by
    match fv, hnb with
    | [p], _ => exact ⟨p, rfl⟩
  obtain ⟨os, u⟩ := x
  have hpre : os.length ≤ 512 := hpre
  obtain ⟨hL2, hL3⟩ := triesK_len hpre
  obtain ⟨V0, hV0, ⟨bp, off, hp0, ys, hrep, hylen, hcell⟩, _⟩ := (hJ 0 [] W hJ0).1
  have hp : p = .pointer (some ⟨bp, off, none⟩) := by simpa using hp0
  obtain ⟨y, hy⟩ : ∃ y, y = Value.func (.yield l) #[] #[] := ⟨_, rfl⟩
  refine callsIn_of_wp (F := Fw none) (n := 0) (fn := Try.f57) Try.func57 body125 trivial ?_
  rw [← hy]
  obtain ⟨a0, ha0⟩ : ∃ a0 : Act, a0 = { tmps := ([p] : List Value).toArray ++ #[y] ++ cv.toArray ++ Array.replicate (Try.f57.ntmps - (([p] : List Value).toArray ++ #[y] ++ cv.toArray).size) undef, defers := [] } := ⟨_, rfl⟩
  rw [← ha0]
  have hsz : a0.tmps.size = 85 := by
    have : Try.f57.ntmps = 85 := rfl
    rw [ha0]; simp [this]; omega
  have g0 : a0.tmps.getD 0 undef = p := by
    rw [ha0]
    simp only [Array.getD_eq_getD_getElem?]
    rw [Array.getElem?_append_left (by simp), Array.getElem?_append_left (by simp), Array.getElem?_append_left (by simp)]
    rfl
  have g1 : a0.tmps.getD 1 undef = y := by
    rw [ha0]
    simp only [Array.getD_eq_getD_getElem?]
    rw [Array.getElem?_append_left (by simp), Array.getElem?_append_left (by simp), Array.getElem?_append_right (by simp)]
    rfl
  have hd0 : a0.defers = [] := by rw [ha0]
  have hR0 : RelS (E0 W) 85 [.slot 0 (.one (.po 4 (.sl ArcT) os)), .slot 1 (.one (.v y))] a0 W := by
    refine ⟨fun _ => none, {
      size := hsz, lim := by decide, defers := ⟨⟨[], hd0, List.nodup_nil, fun _ h => by cases h⟩, fun _ h => by cases h⟩, os := rfl, tape := rfl, output := rfl, grow := Nat.le_refl _, keep := fun _ _ _ _ => rfl,
      own := fun k b n hk => (by cases hk), dis := fun b hb => hb.elim, inj := fun k k' b n n' hk => (by cases hk), old := fun b hb => hb.elim, obkeep := fun b i o _ h => h.elim, nd := fun _ => hd0 }, fun f hf => ?_⟩
    simp only [List.mem_cons, List.not_mem_nil, or_false] at hf
    rcases hf with rfl | rfl
    · simp only [Fact.holds]; rw [sval_lt (by decide), g0, hp]
      obtain ⟨v, rfl⟩ : ∃ v, ys = [v] := by
        match ys, hylen with
        | [v], _ => exact ⟨v, rfl⟩
      obtain ⟨cur, el, f, hb, hc⟩ := cell_inv (hcell 0 v rfl)
      have hlt := (Array.getElem?_eq_some_iff.1 hc).1
      refine ⟨⟨bp, off, none⟩, cur, rfl, rfl, ⟨fun h => h.elim id (fun ⟨_, h⟩ => by cases h), fun _ _ h => (by cases h), el, f, hb⟩, ?_, ?_⟩
      · show off + 4 + 1 ≤ cur.size
        simp only at hlt; omega
      · have e : (cur.toList.drop (off + 4)).take 1 = [v] := by
          have hc' : cur.toList[off + 4]? = some v := by simpa using hc
          rw [List.drop_eq_getElem_cons (by simpa using hlt)]
          rw [List.getElem?_eq_getElem (by simpa using hlt)] at hc'
          simp only [List.take_succ_cons, List.take_zero, List.cons.injEq, and_true]
          exact Option.some.inj hc'
        show Rep _ (.sl ArcT) os ((cur.toList.drop (off + 4)).take 1)
        rw [e]
        refine Rep.mono (fun b c h => ?_) _ _ _ hrep
        obtain ⟨el, f, h⟩ := hV0 b c h
        exact ⟨fun h => h.elim id (fun ⟨_, h⟩ => by cases h), fun _ _ h => (by cases h), el, f, h⟩
    · simp only [Fact.holds]; rw [sval_lt (by decide), g1]; rfl
  refine pre3 hR0 (by kernel_rfl) (by kernel_rfl) (vcPre y os hpre) fun a1 w1 hR1 => ?_
  obtain ⟨b, c, cur, hbW, hbk, hrow, R1, hown⟩ : ∃ (b c : Nat) (cur : Array Value), W.heap.size ≤ b ∧ w1.heap[b]? = some (.cells cur 41 (0, 0)) ∧ (∀ V, RowIn V ArcT (triesK os) c cur) ∧ Raw a1 y (.slice (some ⟨b, 0, none⟩) (triesK os).length c) (triesK os).length 0 ∧
      OwnStep W w1 [] [(b, .cells cur 41 (0, 0))] := by
    obtain ⟨η, g, H⟩ := hR1
    have h1 := H (.slot 1 (.one (.v y))) (by simp)
    have h74 := H (.slot 74 (.one (.o 60004 (triesK os).length))) (by simp)
    have hr := H (.row 60004 41 ArcT (triesK os)) (by simp)
    have h75 := H (sI 75 (triesK os).length) (by simp)
    have h76 := H (sI 76 0) (by simp)
    simp only [Fact.holds] at h1 h74 h75 h76
    rw [sval_lt (by decide)] at h1 h74 h75 h76
    rcases h74 with ⟨_, h, _⟩ | ⟨b, c, k1, k2, k3⟩
    · omega
    rcases hr with ⟨h, _⟩ | ⟨b', c', cur, q0, q1, q2, q3⟩
    · rw [k1] at h; cases h
    rw [k1] at q1
    obtain ⟨rfl, rfl⟩ : b = b' ∧ c = c' := by simpa using q1
    have q0 : W.heap.size ≤ b := q0.elim id (fun h => h.elim)
    refine ⟨b, c, cur, q0, q2, fun V => ⟨q3.1, q3.2.1, q3.2.2.1, fun i x hx => arc_flat (q3.2.2.2 i x hx)⟩, ⟨g.size, g.nd rfl, h1, k2, holds_int h75, holds_int h76⟩, ?_⟩
    exact ⟨g.os, g.tape, g.output, g.grow, fun b hb _ => g.keep b hb (fun h => h) (fun h => h), fun p hp => by
      simp only [List.mem_singleton] at hp
      subst hp
      exact ⟨q2, .inr q0⟩⟩
  obtain ⟨L, hL⟩ : ∃ L, L = (triesK os).length := ⟨_, rfl⟩
  obtain ⟨sv, hsv⟩ : ∃ sv, sv = Value.slice (some ⟨b, 0, none⟩) L c := ⟨_, rfl⟩
  obtain ⟨ps, hps⟩ : ∃ ps : List (Nat × Obj), ps = [(b, .cells cur 41 (0, 0))] := ⟨_, rfl⟩
  rw [← hL, ← hsv] at R1
  rw [← hps] at hown
  have hJ1 : J 0 ps w1 := hJa 0 [] ps W w1 hJ0 hown
  refine wpIn_block (wp_loop_rel (fun n a w => ∃ i, J i ps w ∧ n = L - i ∧ i ≤ L ∧ Raw a y sv L i) ⟨0, hJ1, rfl, Nat.zero_le _, R1⟩ ?_)
  rintro n a w ⟨i, hJi, rfl, hi, R⟩
  have hpins : ∀ {i w}, J i ps w → ∀ p ∈ ps, w.heap[p.1]? = some p.2 := fun h => (hJ _ _ _ h).2
  have hbk : ∀ {i w}, J i ps w → w.heap[b]? = some (.cells cur 41 (0, 0)) := fun h => hpins h (b, .cells cur 41 (0, 0)) (by rw [hps]; simp)
  have rel : ∀ {a w i}, Raw a y sv L i → J i ps w → RelS (E0 w) 85 (stRaw y (triesK os) i) a w := fun R h => by
    refine raw_rel (c := c) ?_ (hbk h) hrow
    rw [← hL, ← hsv]; exact R
  refine wpIn_seq (piece (rel R hJi) (by kernel_rfl) (by kernel_rfl) (vc8 y (triesK os) i) fun a1 w1 hR1 hag1 => ?_)
  have R1 := raw_of R hR1 hag1 (by kernel_rfl)
  have hJ1 := hJa i ps ps w w1 hJi (own_of hR1 (hpins hJi))
  have h77 : a1.eval (.tmp 77) = .bool (decide ((i : Int) < (triesK os).length)) := by
    obtain ⟨η, g, H⟩ := hR1
    have h := H (.slot 77 (.one (.d .bool (decide ((i : Int) < (triesK os).length))))) (by simp)
    simp only [Fact.holds] at h
    rw [sval_lt (by decide)] at h
    exact holds_bool h
  by_cases hiL : i < L
  case neg =>
    have hfalse : decide ((i : Int) < (triesK os).length) = false := decide_eq_false (by omega)
    rw [hfalse] at h77
    refine wpIn_seq (wpIn_cond_false h77 (wpIn_exit ?_))
    have : i = L := by omega
    subst this
    exact ⟨R1.defers, .tuple #[], results_run (fn := Try.f57) (vs := []) rfl, ⟨_, rfl⟩, .inl ⟨i, ps, by rw [hL], hJ1⟩⟩
  have htrue : decide ((i : Int) < (triesK os).length) = true := decide_eq_true (by omega)
  rw [htrue] at h77
  refine wpIn_seq (wpIn_cond_true h77 (wpIn_skip ?_))
  refine wpIn_seq (wpIn_block (wpIn_seq (piece (rel R1 hJ1) (by kernel_rfl) (by kernel_rfl) (vc9 y (triesK os) i (by omega)) fun a2 w2 hR2 hag2 => ?_)))
  have R2 := raw_of R1 hR2 hag2 (by kernel_rfl)
  have hJ2 := hJa i ps ps w1 w2 hJ1 (own_of hR2 (hpins hJ1))
  obtain ⟨b7, h7, hl7⟩ : ∃ b7, a2.tmps.getD 7 undef = .pointer (some ⟨b7, 0, none⟩) ∧ (loadVar 41 ⟨b7, 0, none⟩).run Try.prog w2 = .ok (.agg #[.int .i64 ((triesK os).getD i (0, 0, ())).1, .int .i64 ((triesK os).getD i (0, 0, ())).2.1]) w2 := by
    obtain ⟨η, g, H⟩ := hR2
    have h7 := H (.slot 7 (.one (.p 60007 0))) (by simp)
    have c0 := H (.cell 60007 0 (.d I64 ((triesK os).getD i (0, 0, ())).1)) (by simp)
    have c1 := H (.cell 60007 1 (.d I64 ((triesK os).getD i (0, 0, ())).2.1)) (by simp)
    simp only [Fact.holds] at h7
    rw [sval_lt (by decide)] at h7
    obtain ⟨b7, n7, k1, k2⟩ := h7
    obtain ⟨b', c', cur0, el0, v0, _, q1, q2, q3, _, q4⟩ := c0
    obtain ⟨b'', c'', cur1, el1, v1, _, r1, r2, r3, _, r4⟩ := c1
    rw [k1] at q1 r1
    obtain ⟨rfl, rfl⟩ : b7 = b' ∧ n7 = c' := by simpa using q1
    obtain ⟨rfl, rfl⟩ : b7 = b'' ∧ n7 = c'' := by simpa using r1
    rw [q2] at r2
    simp only [Option.some.injEq, Obj.cells.injEq] at r2
    obtain ⟨rfl, _, _⟩ := r2
    have e0 : v0 = .int .i64 ((triesK os).getD i (0, 0, ())).1 := holds_int (E := E0 w1) (η := η) (w := w2) q4
    have e1 : v1 = .int .i64 ((triesK os).getD i (0, 0, ())).2.1 := holds_int (E := E0 w1) (η := η) (w := w2) r4
    refine ⟨b7, k2, ?_⟩
    refine run_loadVar_agg row41 rfl (cs := [.int .i64 ((triesK os).getD i (0, 0, ())).1, .int .i64 ((triesK os).getD i (0, 0, ())).2.1]) rfl (fun j v hj => ?_)
    rw [add_none, cell_of q2]
    match j, hj with
    | 0, hj => rw [← e0] at hj; have : v0 = v := by simpa using hj
               rw [← this]; exact q3
    | 1, hj => rw [← e1] at hj; have : v1 = v := by simpa using hj
               rw [← this]; exact r3
  obtain ⟨fl, tl, al, bl, hrun, hround⟩ := hY i ps w2 hJ2 (fun L' hL' => by
    have : (triesK os).length = L' := by simpa using hL'
    omega)
  have ev : ∀ (a : Act) (t : Nat), a.eval (.tmp t) = a.tmps.getD t undef := fun a t => rfl
  have hsz2 := R2.size
  refine wpIn_seq (wpIn_region_list ?_)
  refine list_step rfl (op_val (v := y) (by intro d h; cases h) ?_ ?_)
  · simp [execOp, ev, R2.s1]
  have R3 := raw_put (u := y) (t := 80) R2 (by decide)
  have h7' : (a2.put (some 80) y).tmps.getD 7 undef = .pointer (some ⟨b7, 0, none⟩) := by rw [getD_put (by omega), if_neg (by decide)]; exact h7
  have h80 : (a2.put (some 80) y).tmps.getD 80 undef = y := by rw [getD_put (by omega), if_pos rfl]
  obtain ⟨a3, ha3⟩ : ∃ a3, a3 = a2.put (some 80) y := ⟨_, rfl⟩
  show wpListIn _ _ _ _ _ _ (a2.put (some 80) y) w2
  rw [← ha3] at R3 h7' h80 ⊢
  obtain ⟨ag, hag⟩ : ∃ ag, ag = Value.agg #[.int .i64 ((triesK os).getD i (0, 0, ())).1, .int .i64 ((triesK os).getD i (0, 0, ())).2.1] := ⟨_, rfl⟩
  rw [← hag] at hl7
  have hsz3 := R3.size
  refine list_step rfl (op_val (v := ag) (by intro d h; cases h) ?_ ?_)
  · simp [execOp, ev, h7', Instr.loadAt, Instr.sureAddr, hl7]
  have R4 := raw_put (u := ag) (t := 81) R3 (by decide)
  have h80' : (a3.put (some 81) ag).tmps.getD 80 undef = y := by rw [getD_put (by omega), if_neg (by decide)]; exact h80
  have h81 : (a3.put (some 81) ag).tmps.getD 81 undef = ag := by rw [getD_put (by omega), if_pos rfl]
  obtain ⟨a4, ha4⟩ : ∃ a4, a4 = a3.put (some 81) ag := ⟨_, rfl⟩
  show wpListIn _ _ _ _ _ _ (a3.put (some 81) ag) w2
  rw [← ha4] at R4 h80' h81 ⊢
  have hsz4 := R4.size
  refine list_step rfl (op_round (l := l) (f := fl) (tmps := tl) (assign := al) (body := bl) (by intro d h; cases h) ?_ (RoundIn.mono hround ?_))
  · simp [execOp, resolve, Deferred.ofValue, ev, h80', h81, hy, invoke, callFunc, hag]
    exact hrun
  rintro e w3 (⟨rfl, hJ3⟩ | ⟨rfl, hJx3⟩)
  · refine ⟨.bool true, rfl, ?_⟩
    have R5 := raw_put (u := .bool true) (t := 82) R4 (by decide)
    have h82 : (a4.put (some 82) (.bool true)).tmps.getD 82 undef = .bool true := by rw [getD_put (by omega), if_pos rfl]
    obtain ⟨a5, ha5⟩ : ∃ a5, a5 = a4.put (some 82) (.bool true) := ⟨_, rfl⟩
    show wpListIn _ _ _ _ _ _ (a4.put (some 82) (.bool true)) w3
    rw [← ha5] at R5 h82 ⊢
    have hsz5 := R5.size
    refine list_step rfl (op_val (v := .bool false) (by intro d h; cases h) ?_ (list_nil ?_))
    · simp [execOp, ev, h82, Op.unary]
    have R6 := raw_put (u := .bool false) (t := 83) R5 (by decide)
    have h83 : (a5.put (some 83) (.bool false)).eval (.tmp 83) = .bool false := by rw [ev, getD_put (by omega), if_pos rfl]
    obtain ⟨a6, ha6⟩ : ∃ a6, a6 = a5.put (some 83) (.bool false) := ⟨_, rfl⟩
    show Code.wpIn _ _ _ _ _ (a5.put (some 83) (.bool false)) w3
    rw [← ha6] at R6 h83 ⊢
    refine wpIn_cond_false h83 (wpIn_skip ?_)
    have R6' : RelS (E0 w3) 85 (stRaw y (triesK os) i) a6 w3 := by
      refine raw_rel (c := c) ?_ (hbk hJ3) hrow
      rw [← hL, ← hsv]; exact R6
    refine piece R6' (by kernel_rfl) (by kernel_rfl) (vc11 y (triesK os) i (by omega)) fun a7 w7 hR7 hag7 => ?_
    refine ⟨L - (i + 1), by omega, i + 1, hJa (i + 1) ps ps w3 w7 hJ3 (own_of hR7 (hpins hJ3)), rfl, by omega, ?_⟩
    obtain ⟨η, g, H⟩ := hR7
    have h76 := H (sI 76 ((i + 1 : Nat) : Int)) (by simp)
    simp only [Fact.holds] at h76
    rw [sval_lt (by decide)] at h76
    exact ⟨g.size, g.nd rfl, (agree_get hag7 (by kernel_rfl)).trans R6.s1, (agree_get hag7 (by kernel_rfl)).trans R6.s74, (agree_get hag7 (by kernel_rfl)).trans R6.s75, holds_int h76⟩
  · refine ⟨.bool false, rfl, ?_⟩
    have R5 := raw_put (u := .bool false) (t := 82) R4 (by decide)
    have h82 : (a4.put (some 82) (.bool false)).tmps.getD 82 undef = .bool false := by rw [getD_put (by omega), if_pos rfl]
    obtain ⟨a5, ha5⟩ : ∃ a5, a5 = a4.put (some 82) (.bool false) := ⟨_, rfl⟩
    show wpListIn _ _ _ _ _ _ (a4.put (some 82) (.bool false)) w3
    rw [← ha5] at R5 h82 ⊢
    have hsz5 := R5.size
    refine list_step rfl (op_val (v := .bool true) (by intro d h; cases h) ?_ (list_nil ?_))
    · simp [execOp, ev, h82, Op.unary]
    have R6 := raw_put (u := .bool true) (t := 83) R5 (by decide)
    have h83 : (a5.put (some 83) (.bool true)).eval (.tmp 83) = .bool true := by rw [ev, getD_put (by omega), if_pos rfl]
    refine wpIn_cond_true h83 (wpIn_ret ?_)
    exact ⟨R6.defers, .tuple #[], results_run (fn := Try.f57) (vs := []) rfl, ⟨_, rfl⟩, .inr ⟨i, ps, hJx3⟩⟩

theorem enters125 : Enters Try.prog 57 := ⟨Try.f57, Try.func57, by kernel_rfl, by kernel_rfl⟩

end Go.Eng.Lp
