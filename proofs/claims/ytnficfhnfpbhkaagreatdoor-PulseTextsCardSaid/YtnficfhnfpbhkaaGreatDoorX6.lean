/- The iterator of strings.SplitSeq at a blank yields the pieces of the text. Conditions: its own variables lie where its value says. -/
import Derived.Test.YtnficfhnfpbhkaaGreatDoorX5
namespace Go.Eng.Pu
open Go.Eng Go.Proofs Go.Lib
set_option linter.all false
set_option maxRecDepth 100000
set_option maxHeartbeats 8000000

/-! ### Parts of a body -/

/-- An environment of one's own: nothing but the world ahead. -/
noncomputable def E0 (w : World) : Env := { P := Tryz.prog, M := fun _ => False, mu := fun _ => False, w0 := w, OB := OB, x := { nd := true } }

theorem own_of {w w' : World} {nt : Nat} {st : St} {a' : Act} (hR : RelS (E0 w) nt st a' w') {ps : List (Nat × Obj)} (h : ∀ p ∈ ps, w.heap[p.1]? = some p.2) : OwnStep w w' ps ps := by
  obtain ⟨η, g, _⟩ := hR
  exact ⟨g.os, g.tape, g.output, g.grow, fun b hb _ => g.keep b hb (fun h => h) (fun h => h), fun p hp => ⟨(g.keep p.1 (lt_of_heap (h p hp)) (fun h => h) (fun h => h)).trans (h p hp), .inl ⟨p.2, hp⟩⟩⟩

/-- A part of a body, walked by the executor in an environment of its own. -/
theorem piece {ctr : List (Nat × Spec)} (hctr : All ctr) {nt : Nat} {anns : List (St → LoopAnn)} {b : Code} {st0 target : St} {a : Act} {w0 w : World} {Q : Exit → Act → World → Prop} (hR : RelS (E0 w0) nt st0 a w) (hd : dstOk nt b = true) (hnr : noRange b = true)
    (hvc : vc (cfg {} ctr nt) (par (cfg {} ctr nt)) anns b 0 st0 (fun e st => match e with | .normal => Goal (∃ s : Unit, ent st target ∧ True) | _ => False))
    (hQ : ∀ a' w', RelS (E0 w0) nt target a' w' → Agree (dsts b) a a' → Q .normal a' w') : b.wpIn (Fw none) 0 Tryz.prog Q a w := by
  refine wpIn_mono (vc_sound (cfgOk (X := {}) trivial hctr) (par_sound mixed (cfgOk (X := {}) trivial hctr)) b 0 st0 _ a w (E0 w0) none rfl rfl (.inr hnr) hd hvc hR) ?_
  rintro e a' w' ⟨⟨xe, st', h1, h2, h3⟩, hag⟩
  subst h1
  cases xe with
  | normal =>
    obtain ⟨_, h4, _⟩ := h2.out
    exact hQ a' w' (ent_sound h4 h3) (hag (by intro h; cases h))
  | exit id => exact h2.elim
  | ret => exact h2.elim

theorem oper_q {P : Program} {o : Oper} {a : Act} {w : World} {K : Act → World → Prop} {Q Q' : Exit → Act → World → Prop} (h : ∀ c a w, Q (.panic c) a w = Q' (.panic c) a w) (h2 : LetsOut Q = LetsOut Q') : o.wpIn (Fw none) 0 P a w K Q = o.wpIn (Fw none) 0 P a w K Q' := by
  have e : ∀ r, o.uponIn (Fw none) 0 P a K Q r = o.uponIn (Fw none) 0 P a K Q' r := by
    intro r
    unfold Oper.uponIn
    split <;> simp only [h, h2]
  unfold Oper.wpIn
  rw [e]

/-- The first operations of a region by the executor, the others by hand. -/
theorem list_app {P : Program} {ops : Array Oper} {Q : Exit → Act → World → Prop} {l2 : List Oper} : ∀ (l1 : List Oper) (a : Act) (w : World),
    wpListIn (Fw none) 0 P ops (fun e a w => match e with | .normal => wpListIn (Fw none) 0 P ops Q l2 a w | e => Q e a w) l1 a w → wpListIn (Fw none) 0 P ops Q (l1 ++ l2) a w
  | [], a, w, h => h
  | o :: l1, a, w, h => by
    simp only [wpListIn, List.cons_append] at h ⊢
    split
    · rename_i hw
      rw [if_pos hw] at h
      refine Oper.wpIn_mono (list_app l1) ?_
      rw [← oper_q (Q := fun e a w => match e with | .normal => wpListIn (Fw none) 0 P ops Q l2 a w | e => Q e a w) (Q' := Q) (fun _ _ _ => rfl) rfl]
      exact h
    · rename_i hw
      rw [if_neg hw] at h
      exact ⟨h.1, list_app l1 _ _ h.2⟩

/-! ### The iterator's code -/

noncomputable def b76 : Code := bodyOf Tryz.f76
noncomputable def p0 : Code := match b76 with | .seq (.seq x _) _ => x | c => c
noncomputable def sA0 : Code := match b76 with | .seq (.seq _ (.cond _ x _)) _ => x | c => c
noncomputable def lb : Code := match b76 with | .seq _ (.seq (.block _ (.loop (.block _ x))) _) => x | c => c
noncomputable def p5 : Code := match lb with | .seq x _ => x | c => c
noncomputable def p6 : Code := match lb with | .seq _ (.seq (.seq x _) _) => x | c => c
noncomputable def p7 : Code := match lb with | .seq _ (.seq _ (.seq x _)) => x | c => c
noncomputable def p8 : Code := match lb with | .seq _ (.seq _ (.seq _ (.seq (.seq x _) _))) => x | c => c
noncomputable def p9 : Code := match lb with | .seq _ (.seq _ (.seq _ (.seq _ x))) => x | c => c
noncomputable def p10 : Code := match b76 with | .seq _ (.seq _ x) => x | c => c

theorem body76 : (Tryz.f76.body : Option Code) = some (.seq (.seq p0 (.cond (.tmp 11) sA0 .skip)) (.seq (.block 2 (.loop (.block 3 (.seq p5 (.seq (.seq p6 (.cond (.tmp 33) (.exit 2) .skip)) (.seq p7 (.seq (.seq p8 (.cond (.tmp 42) .ret .skip)) p9))))))) p10)) := rfl

@[reducible] def st4 (y : Value) (cur : ByteArray) : St := [.slot 0 (.one (.v y)), .slot 1 (.one (.pd .str (bA [32]))), .slot 2 (.one (.pd .str cur)), .slot 3 (.one (.pd I64 0))]

abbrev fIdx (s : ByteArray) : Int := Lib.indexByte s.data.toList 32
@[reducible] def sIndex : Spec := { pats := [.dat .str, .dat .str], res := [{ t := I64 }], pre := fun x => x.2.1 = bA [32], f := fun x => (fIdx x.1, ()) }
/-- strings.Index of a blank -/
theorem hIndex : Ok 78 sIndex := by
  refine ⟨?_, Tryz.f78, Tryz.func78, by kernel_rfl, by kernel_rfl⟩
  rintro w M ⟨(s : ByteArray), (p : ByteArray), _⟩ vs bs hM ⟨v, vs', rfl, hv, u, us, rfl, hu, rfl, rfl⟩ (hp : p = bA [32])
  obtain rfl := v_str hv
  obtain rfl := v_str hu
  subst hp
  refine (Tryz.strings_Index_one s 32 w).mono ?_
  rintro e w' ⟨rfl, rfl⟩
  exact ⟨[.int .i64 _], none, rfl, post_same, _, _, rfl, RepV.mk1 rfl rfl, rfl, rfl⟩

abbrev cIx : List (Nat × Spec) := [(78, sIndex)]
theorem cIx_ok : All cIx := ⟨hIndex, trivial⟩

theorem vcP0 (y : Value) (cur : ByteArray) : vc (cfg {} cIx 52) (par (cfg {} cIx 52)) [] p0 0 (st4 y cur)
    (fun e st => match e with | .normal => Goal (∃ s : Unit, ent st (.slot 11 (.one (.d .bool false)) :: st4 y cur) ∧ True) | _ => False) := by
  repeat' (intro hzz; (try (rename Two => hq; cases hq)); (try dsimp only at hzz); (try simp only [resTy, argTy, eqD, inR, big, wantOf, Bool.not_true, Bool.not_false, Bool.true_eq, decide_eq_true_eq, decide_eq_false_iff_not, Bool.not_eq_true', Bool.not_eq_false', Bool.and_eq_true, Prod.mk.injEq, and_true, true_and, Int.not_lt, Int.not_le, gt_iff_lt, ge_iff_le] at hzz); (try (revert hzz; intro _)))
  all_goals try (rename Unit => hq; clear hq)
  all_goals try ((with_reducible refine Held.mk ?_); (with_reducible (first | refine Frz.mk ?_ | refine And.intro (Frz.mk ?_) ?_ | refine And.intro ?_ (Frz.mk ?_))); repeat' first | exact True.intro | (change _ = _; with_reducible rfl) | refine And.intro ?_ ?_ | (with_reducible refine Frz.mk ?_))
  all_goals try (refine Held.mk ?_; (try dsimp only at *); (try simp only [resTy, argTy, eqD, inR, big, wantOf, Bool.not_true, Bool.not_false, Bool.true_eq, decide_eq_true_eq, decide_eq_false_iff_not, Bool.not_eq_true', Bool.not_eq_false', Bool.and_eq_true, Prod.mk.injEq, and_true, true_and, Int.not_lt, Int.not_le, gt_iff_lt, ge_iff_le] at *))
  all_goals try omega
  ·
    refine GHeld.mk ?_
    refine Exists.intro () ?_
    refine And.intro (Leaf.mk ?_) ?_
    · repeat' first | exact True.intro | refine And.intro ?_ ?_
      all_goals try ((change _ = _ <;> try dsimp only) <;> try with_reducible rfl)
      all_goals try omega
      all_goals (first | rfl | exact h32 | (rw [h32]; done))
    trivial

theorem vcP5 (y : Value) (cur : ByteArray) : vc (cfg {} cIx 52) (par (cfg {} cIx 52)) [] p5 0 (st4 y cur)
    (fun e st => match e with | .normal => Goal (∃ s : Unit, ent st (sI 7 (fIdx cur) :: st4 y cur) ∧ True) | _ => False) := by
  repeat' (intro hzz; (try (rename Two => hq; cases hq)); (try dsimp only at hzz); (try simp only [resTy, argTy, eqD, inR, big, wantOf, Bool.not_true, Bool.not_false, Bool.true_eq, decide_eq_true_eq, decide_eq_false_iff_not, Bool.not_eq_true', Bool.not_eq_false', Bool.and_eq_true, Prod.mk.injEq, and_true, true_and, Int.not_lt, Int.not_le, gt_iff_lt, ge_iff_le] at hzz); (try (revert hzz; intro _)))
  all_goals try (rename Unit => hq; clear hq)
  all_goals try ((with_reducible refine Held.mk ?_); (with_reducible (first | refine Frz.mk ?_ | refine And.intro (Frz.mk ?_) ?_ | refine And.intro ?_ (Frz.mk ?_))); repeat' first | exact True.intro | (change _ = _; with_reducible rfl) | refine And.intro ?_ ?_ | (with_reducible refine Frz.mk ?_))
  all_goals try (refine Held.mk ?_; (try dsimp only at *); (try simp only [resTy, argTy, eqD, inR, big, wantOf, Bool.not_true, Bool.not_false, Bool.true_eq, decide_eq_true_eq, decide_eq_false_iff_not, Bool.not_eq_true', Bool.not_eq_false', Bool.and_eq_true, Prod.mk.injEq, and_true, true_and, Int.not_lt, Int.not_le, gt_iff_lt, ge_iff_le] at *))
  all_goals try omega
  ·
    refine GHeld.mk ?_
    refine Exists.intro () ?_
    refine And.intro (Leaf.mk ?_) ?_
    · repeat' first | exact True.intro | refine And.intro ?_ ?_
      all_goals try ((change _ = _ <;> try dsimp only) <;> try with_reducible rfl)
      all_goals try omega
      all_goals (first | rfl | exact h32 | (rw [h32]; done))
    trivial

theorem vcP6 (y : Value) (cur : ByteArray) (n : Int) : vc (cfg {} cIx 52) (par (cfg {} cIx 52)) [] p6 0 (sI 7 n :: st4 y cur)
    (fun e st => match e with | .normal => Goal (∃ s : Unit, ent st (.slot 33 (.one (.d .bool (decide (n < 0)))) :: sI 7 n :: st4 y cur) ∧ True) | _ => False) := by
  repeat' (intro hzz; (try (rename Two => hq; cases hq)); (try dsimp only at hzz); (try simp only [resTy, argTy, eqD, inR, big, wantOf, Bool.not_true, Bool.not_false, Bool.true_eq, decide_eq_true_eq, decide_eq_false_iff_not, Bool.not_eq_true', Bool.not_eq_false', Bool.and_eq_true, Prod.mk.injEq, and_true, true_and, Int.not_lt, Int.not_le, gt_iff_lt, ge_iff_le] at hzz); (try (revert hzz; intro _)))
  all_goals try (rename Unit => hq; clear hq)
  all_goals try ((with_reducible refine Held.mk ?_); (with_reducible (first | refine Frz.mk ?_ | refine And.intro (Frz.mk ?_) ?_ | refine And.intro ?_ (Frz.mk ?_))); repeat' first | exact True.intro | (change _ = _; with_reducible rfl) | refine And.intro ?_ ?_ | (with_reducible refine Frz.mk ?_))
  all_goals try (refine Held.mk ?_; (try dsimp only at *); (try simp only [resTy, argTy, eqD, inR, big, wantOf, Bool.not_true, Bool.not_false, Bool.true_eq, decide_eq_true_eq, decide_eq_false_iff_not, Bool.not_eq_true', Bool.not_eq_false', Bool.and_eq_true, Prod.mk.injEq, and_true, true_and, Int.not_lt, Int.not_le, gt_iff_lt, ge_iff_le] at *))
  all_goals try omega
  ·
    refine GHeld.mk ?_
    refine Exists.intro () ?_
    refine And.intro (Leaf.mk ?_) ?_
    · repeat' first | exact True.intro | refine And.intro ?_ ?_
      all_goals try ((change _ = _ <;> try dsimp only) <;> try with_reducible rfl)
      all_goals try omega
      all_goals (first | rfl | exact h32 | (rw [h32]; done))
    trivial

theorem vcP7 (y : Value) (cur : ByteArray) (n : Nat) (hn : n < cur.size) (hs : cur.size ≤ 1000000) : vc (cfg {} cIx 52) (par (cfg {} cIx 52)) [] p7 0 (sI 7 n :: st4 y cur)
    (fun e st => match e with | .normal => Goal (∃ s : Unit, ent st (.slot 8 (.one (.d .str (cur.extract 0 n))) :: sI 7 n :: st4 y cur) ∧ True) | _ => False) := by
  repeat' (intro hzz; (try (rename Two => hq; cases hq)); (try dsimp only at hzz); (try simp only [resTy, argTy, eqD, inR, big, wantOf, Bool.not_true, Bool.not_false, Bool.true_eq, decide_eq_true_eq, decide_eq_false_iff_not, Bool.not_eq_true', Bool.not_eq_false', Bool.and_eq_true, Prod.mk.injEq, and_true, true_and, Int.not_lt, Int.not_le, gt_iff_lt, ge_iff_le] at hzz); (try (revert hzz; intro _)))
  all_goals try (rename Unit => hq; clear hq)
  all_goals try ((with_reducible refine Held.mk ?_); (with_reducible (first | refine Frz.mk ?_ | refine And.intro (Frz.mk ?_) ?_ | refine And.intro ?_ (Frz.mk ?_))); repeat' first | exact True.intro | (change _ = _; with_reducible rfl) | refine And.intro ?_ ?_ | (with_reducible refine Frz.mk ?_))
  all_goals try (refine Held.mk ?_; (try dsimp only at *); (try simp only [resTy, argTy, eqD, inR, big, wantOf, Bool.not_true, Bool.not_false, Bool.true_eq, decide_eq_true_eq, decide_eq_false_iff_not, Bool.not_eq_true', Bool.not_eq_false', Bool.and_eq_true, Prod.mk.injEq, and_true, true_and, Int.not_lt, Int.not_le, gt_iff_lt, ge_iff_le] at *))
  all_goals try omega
  ·
    refine GHeld.mk ?_
    refine Exists.intro () ?_
    refine And.intro (Leaf.mk ?_) ?_
    · repeat' first | exact True.intro | refine And.intro ?_ ?_
      all_goals try ((change _ = _ <;> try dsimp only) <;> try with_reducible rfl)
      all_goals try omega
      all_goals (first | rfl | exact h32 | (rw [h32]; done))
    trivial

noncomputable def ops9 : List Oper := match p9 with | .region _ x _ => x.toList | _ => []
theorem vcP9 (y : Value) (cur : ByteArray) (n : Nat) (hn : n < cur.size) (hs : cur.size ≤ 1000000) (ops : Array Oper) : runOps (cfg {} cIx 52) ops (ops9.take 6) (sI 7 n :: st4 y cur)
    (fun st => Goal (∃ s : Unit, ent st (.slot 48 (.one (.d .str (cur.extract (n + 1) cur.size))) :: st4 y cur) ∧ True)) := by
  have h32 : ((bA [32]).size : Int) = 1 := rfl
  repeat' (intro hzz; (try (rename Two => hq; cases hq)); (try dsimp only at hzz); (try simp only [resTy, argTy, eqD, inR, big, wantOf, Bool.not_true, Bool.not_false, Bool.true_eq, decide_eq_true_eq, decide_eq_false_iff_not, Bool.not_eq_true', Bool.not_eq_false', Bool.and_eq_true, Prod.mk.injEq, and_true, true_and, Int.not_lt, Int.not_le, gt_iff_lt, ge_iff_le] at hzz); (try simp only [resTy, argTy, eqD, inR, big, wantOf, Bool.not_true, Bool.not_false, Bool.true_eq, decide_eq_true_eq, decide_eq_false_iff_not, Bool.not_eq_true', Bool.not_eq_false', Bool.and_eq_true, Prod.mk.injEq, and_true, true_and, Int.not_lt, Int.not_le, gt_iff_lt, ge_iff_le, h32] at hzz); (try (revert hzz; intro _)))
  all_goals try (rename Unit => hq; clear hq)
  all_goals try ((with_reducible refine Held.mk ?_); (with_reducible (first | refine Frz.mk ?_ | refine And.intro (Frz.mk ?_) ?_ | refine And.intro ?_ (Frz.mk ?_))); repeat' first | exact True.intro | (change _ = _; with_reducible rfl) | refine And.intro ?_ ?_ | (with_reducible refine Frz.mk ?_))
  all_goals try (refine Held.mk ?_; (try dsimp only at *); (try simp only [resTy, argTy, eqD, inR, big, wantOf, Bool.not_true, Bool.not_false, Bool.true_eq, decide_eq_true_eq, decide_eq_false_iff_not, Bool.not_eq_true', Bool.not_eq_false', Bool.and_eq_true, Prod.mk.injEq, and_true, true_and, Int.not_lt, Int.not_le, gt_iff_lt, ge_iff_le] at *); (try simp only [resTy, argTy, eqD, inR, big, wantOf, Bool.not_true, Bool.not_false, Bool.true_eq, decide_eq_true_eq, decide_eq_false_iff_not, Bool.not_eq_true', Bool.not_eq_false', Bool.and_eq_true, Prod.mk.injEq, and_true, true_and, Int.not_lt, Int.not_le, gt_iff_lt, ge_iff_le, h32] at *))
  all_goals try omega
  ·
    refine GHeld.mk ?_
    refine Exists.intro () ?_
    refine And.intro (Leaf.mk ?_) ?_
    · repeat' first | exact True.intro | refine And.intro ?_ ?_
      all_goals try ((change _ = _ <;> try dsimp only) <;> try with_reducible rfl)
      all_goals try omega
      all_goals (first | rfl | exact h32 | (rw [h32]; done))
    trivial

end Go.Eng.Pu
