/- The iterator coefficients$1 yields the section's five numbers. Conditions: none. -/
import Derived.Test.YtdphhjibkjlmcaaF2
import Derived.Test.YtdphhjibkjlmcaaL35
namespace Go.Eng.Lp
open Go.Eng Go.Proofs
set_option linter.all false
set_option maxRecDepth 100000
set_option maxHeartbeats 8000000

noncomputable def b71 : Code := bodyOf Try.f71
noncomputable def cc0 : Code := match b71 with | .seq x _ => x | c => c
noncomputable def clp : Code := match b71 with | .seq _ (.block _ (.loop x)) => x | c => c
noncomputable def cc1 : Code := match clp with | .seq x _ => x | c => c
noncomputable def cc2 : Code := match clp with | .seq _ (.seq _ (.seq (.block _ (.seq x _)) _)) => x | c => c
noncomputable def cc3 : Code := match clp with | .seq _ (.seq _ (.seq (.block _ (.seq _ (.seq x _))) _)) => x | c => c
noncomputable def cc4 : Code := match clp with | .seq _ (.seq _ (.seq _ x)) => x | c => c

theorem body71 : (Try.f71.body : Option Code) = some (.seq cc0 (.block 0 (.loop (.seq cc1 (.seq (.cond (.tmp 12) .skip (.exit 0)) (.seq (.block 1 (.seq cc2 (.seq cc3 (.cond (.tmp 20) .ret .skip)))) cc4)))))) := rfl

@[reducible] def stC (y : Value) (xs : List Int) (i : Nat) : St := [.slot 0 (.one (.v y)), .slot 9 (.one (.d (.sl I64) xs)), sI 10 xs.length, sI 11 i]

theorem vcC0 (y : Value) (x : SecD) : vc (cfg {} [] 22) (par (cfg {} [] 22)) [] cc0 0 [.slot 0 (.one (.v y)), .slot 1 (.one (.pd SecT x))]
    (fun e st => match e with | .normal => Goal (∃ s : Unit, ent st [.slot 0 (.one (.v y)), .slot 9 (.one (.o 9 5)), .row 9 3 I64 (coefL x), sI 10 5, sI 11 0] ∧ True) | _ => False) := by
  obtain ⟨⟨(b0 : Int), (b1 : Int), (b2 : Int), _⟩, ⟨(a1 : Int), (a2 : Int), _⟩, _⟩ := x
  repeat' (intro hzz; (try (rename Two => hq; cases hq)); (try dsimp only at hzz); (try simp only [resTy, argTy, eqD, inR, big, wantOf, Bool.not_true, Bool.not_false, Bool.true_eq, decide_eq_true_eq, decide_eq_false_iff_not, Bool.not_eq_true', Bool.not_eq_false', Bool.and_eq_true, Prod.mk.injEq, and_true, true_and, Int.not_lt, Int.not_le, gt_iff_lt, ge_iff_le] at hzz); (try (revert hzz; intro _)))
  all_goals try (rename Unit => hq; clear hq)
  all_goals try ((with_reducible refine Held.mk ?_); (with_reducible (first | refine Frz.mk ?_ | refine And.intro (Frz.mk ?_) ?_ | refine And.intro ?_ (Frz.mk ?_))); repeat' first | exact True.intro | (change _ = _; with_reducible rfl) | refine And.intro ?_ ?_ | (with_reducible refine Frz.mk ?_))
  all_goals try (refine Held.mk ?_; (try dsimp only at *); (try simp only [resTy, argTy, eqD, inR, big, wantOf, Bool.not_true, Bool.not_false, Bool.true_eq, decide_eq_true_eq, decide_eq_false_iff_not, Bool.not_eq_true', Bool.not_eq_false', Bool.and_eq_true, Prod.mk.injEq, and_true, true_and, Int.not_lt, Int.not_le, gt_iff_lt, ge_iff_le] at *))
  all_goals try omega
  · exact ⟨show 0 < 3 from by decide, show 0 < 2 from by decide, show 3 + 2 ≤ 2147483648 from by decide⟩
  ·
    refine GHeld.mk ?_
    refine Exists.intro () ?_
    refine And.intro (Leaf.mk ?_) ?_
    · repeat' first | exact True.intro | refine And.intro ?_ ?_
      all_goals try ((change _ = _ <;> try dsimp only) <;> try with_reducible rfl)
      all_goals try omega
      all_goals (rfl)
    trivial

theorem vcC1 (y : Value) (xs : List Int) (i : Nat) : vc (cfg {} [] 22) (par (cfg {} [] 22)) [] cc1 0 (stC y xs i)
    (fun e st => match e with | .normal => Goal (∃ s : Unit, ent st (.slot 12 (.one (.d .bool (decide ((i : Int) < xs.length)))) :: stC y xs i) ∧ True) | _ => False) := by
  repeat' (intro hzz; (try (rename Two => hq; cases hq)); (try dsimp only at hzz); (try simp only [resTy, argTy, eqD, inR, big, wantOf, Bool.not_true, Bool.not_false, Bool.true_eq, decide_eq_true_eq, decide_eq_false_iff_not, Bool.not_eq_true', Bool.not_eq_false', Bool.and_eq_true, Prod.mk.injEq, and_true, true_and, Int.not_lt, Int.not_le, gt_iff_lt, ge_iff_le] at hzz); (try (revert hzz; intro _)))
  all_goals try (rename Unit => hq; clear hq)
  all_goals try ((with_reducible refine Held.mk ?_); (with_reducible (first | refine Frz.mk ?_ | refine And.intro (Frz.mk ?_) ?_ | refine And.intro ?_ (Frz.mk ?_))); repeat' first | exact True.intro | (change _ = _; with_reducible rfl) | refine And.intro ?_ ?_ | (with_reducible refine Frz.mk ?_))
  all_goals try (refine Held.mk ?_; (try dsimp only at *); (try simp only [resTy, argTy, eqD, inR, big, wantOf, Bool.not_true, Bool.not_false, Bool.true_eq, decide_eq_true_eq, decide_eq_false_iff_not, Bool.not_eq_true', Bool.not_eq_false', Bool.and_eq_true, Prod.mk.injEq, and_true, true_and, Int.not_lt, Int.not_le, gt_iff_lt, ge_iff_le] at *))
  all_goals try omega
  ·
    refine GHeld.mk ?_
    refine Exists.intro () ?_
    refine And.intro (Leaf.mk ?_) ?_
    · repeat' first | exact True.intro | refine And.intro ?_ ?_
      all_goals try ((change _ = _ <;> try dsimp only) <;> try with_reducible rfl)
      all_goals try omega
      all_goals (rfl)
    trivial

theorem vcC2 (y : Value) (xs : List Int) (i : Nat) (hi : i < xs.length) : vc (cfg {} [] 22) (par (cfg {} [] 22)) [] cc2 0 (stC y xs i)
    (fun e st => match e with | .normal => Goal (∃ s : Unit, ent st ([sI 3 i, sI 4 (xs.getD i 0)] ++ stC y xs i) ∧ True) | _ => False) := by
  repeat' (intro hzz; (try (rename Two => hq; cases hq)); (try dsimp only at hzz); (try simp only [resTy, argTy, eqD, inR, big, wantOf, Bool.not_true, Bool.not_false, Bool.true_eq, decide_eq_true_eq, decide_eq_false_iff_not, Bool.not_eq_true', Bool.not_eq_false', Bool.and_eq_true, Prod.mk.injEq, and_true, true_and, Int.not_lt, Int.not_le, gt_iff_lt, ge_iff_le] at hzz); (try (revert hzz; intro _)))
  all_goals try (rename Unit => hq; clear hq)
  all_goals try ((with_reducible refine Held.mk ?_); (with_reducible (first | refine Frz.mk ?_ | refine And.intro (Frz.mk ?_) ?_ | refine And.intro ?_ (Frz.mk ?_))); repeat' first | exact True.intro | (change _ = _; with_reducible rfl) | refine And.intro ?_ ?_ | (with_reducible refine Frz.mk ?_))
  all_goals try (refine Held.mk ?_; (try dsimp only at *); (try simp only [resTy, argTy, eqD, inR, big, wantOf, Bool.not_true, Bool.not_false, Bool.true_eq, decide_eq_true_eq, decide_eq_false_iff_not, Bool.not_eq_true', Bool.not_eq_false', Bool.and_eq_true, Prod.mk.injEq, and_true, true_and, Int.not_lt, Int.not_le, gt_iff_lt, ge_iff_le] at *))
  all_goals try omega
  ·
    refine GHeld.mk ?_
    refine Exists.intro () ?_
    refine And.intro (Leaf.mk ?_) ?_
    · repeat' first | exact True.intro | refine And.intro ?_ ?_
      all_goals try ((change _ = _ <;> try dsimp only) <;> try with_reducible rfl)
      all_goals try omega
      all_goals (rfl)
    trivial

theorem vcC4 (y : Value) (xs : List Int) (i : Nat) (hi : i < 10000) : vc (cfg {} [] 22) (par (cfg {} [] 22)) [] cc4 0 (stC y xs i)
    (fun e st => match e with | .normal => Goal (∃ s : Unit, ent st (stC y xs (i + 1)) ∧ True) | _ => False) := by
  repeat' (intro hzz; (try (rename Two => hq; cases hq)); (try dsimp only at hzz); (try simp only [resTy, argTy, eqD, inR, big, wantOf, Bool.not_true, Bool.not_false, Bool.true_eq, decide_eq_true_eq, decide_eq_false_iff_not, Bool.not_eq_true', Bool.not_eq_false', Bool.and_eq_true, Prod.mk.injEq, and_true, true_and, Int.not_lt, Int.not_le, gt_iff_lt, ge_iff_le] at hzz); (try (revert hzz; intro _)))
  all_goals try (rename Unit => hq; clear hq)
  all_goals try ((with_reducible refine Held.mk ?_); (with_reducible (first | refine Frz.mk ?_ | refine And.intro (Frz.mk ?_) ?_ | refine And.intro ?_ (Frz.mk ?_))); repeat' first | exact True.intro | (change _ = _; with_reducible rfl) | refine And.intro ?_ ?_ | (with_reducible refine Frz.mk ?_))
  all_goals try (refine Held.mk ?_; (try dsimp only at *); (try simp only [resTy, argTy, eqD, inR, big, wantOf, Bool.not_true, Bool.not_false, Bool.true_eq, decide_eq_true_eq, decide_eq_false_iff_not, Bool.not_eq_true', Bool.not_eq_false', Bool.and_eq_true, Prod.mk.injEq, and_true, true_and, Int.not_lt, Int.not_le, gt_iff_lt, ge_iff_le] at *))
  all_goals try omega
  ·
    refine GHeld.mk ?_
    refine Exists.intro () ?_
    refine And.intro (Leaf.mk ?_) ?_
    · repeat' first | exact True.intro | refine And.intro ?_ ?_
      all_goals try ((change _ = _ <;> try dsimp only) <;> try with_reducible rfl)
      all_goals try omega
      all_goals (rfl)
    trivial

/-- What stays in the iterator's slots. -/
structure RawC (a : Act) (y v : Value) (L i : Nat) : Prop where
  size : a.tmps.size = 22
  defers : a.defers = []
  s0 : a.tmps.getD 0 undef = y
  s9 : a.tmps.getD 9 undef = v
  s10 : a.tmps.getD 10 undef = .int .i64 L
  s11 : a.tmps.getD 11 undef = .int .i64 i

theorem rawC_rel {a : Act} {y : Value} {xs : List Int} {i b c : Nat} {cur : Array Value} {w : World} (R : RawC a y (.slice (some ⟨b, 0, none⟩) xs.length c) xs.length i)
    (hb : w.heap[b]? = some (.cells cur 3 (0, 0))) (hrow : ∀ V, RowIn V I64 xs c cur) : RelS (E0 w) 22 (stC y xs i) a w := by
  refine ⟨fun _ => none, {
    size := R.size, lim := by decide, defers := ⟨⟨[], R.defers, List.nodup_nil, fun _ h => by cases h⟩, fun _ h => by cases h⟩, os := rfl, tape := rfl, output := rfl, grow := Nat.le_refl _, keep := fun _ _ _ _ => rfl,
    own := fun k b n hk => (by cases hk), dis := fun b hb => hb.elim, inj := fun k k' b n n' hk => (by cases hk), old := fun b hb => hb.elim, obkeep := fun b i o _ h => h.elim, nd := fun _ => R.defers }, fun f hf => ?_⟩
  simp only [stC, List.mem_cons, List.not_mem_nil, or_false] at hf
  rcases hf with rfl | rfl | rfl | rfl
  · simp only [Fact.holds]; rw [sval_lt (by decide)]; exact R.s0
  · simp only [Fact.holds]; rw [sval_lt (by decide), R.s9]
    obtain ⟨h1, h2, h3, h4⟩ := hrow (vw (E0 w) (fun _ => none) w)
    refine ⟨_, ⟨some ⟨b, 0, none⟩, c, rfl, h2, h3, fun h => by (cases h), fun ad had hne => ?_⟩, .inr ⟨rfl, rfl⟩⟩
    cases had
    refine ⟨rfl, cur, ⟨fun h => h.elim id (fun ⟨_, h⟩ => by cases h), fun _ _ h => (by cases h), 3, (0, 0), hb⟩, ?_, fun j x hj => ?_⟩
    · have : I64.size = 1 := rfl
      rw [this] at h1 ⊢
      show 0 + xs.length * 1 ≤ cur.size
      omega
    · have := h4 j x (by rw [← hj])
      simpa using this
  · simp only [Fact.holds]; rw [sval_lt (by decide), R.s10]; exact RepV.mk1 rfl rfl
  · simp only [Fact.holds]; rw [sval_lt (by decide), R.s11]; exact RepV.mk1 rfl rfl

theorem rawC_of {w w' : World} {a a' : Act} {c : Code} {y v : Value} {L i : Nat} {st : St} (R : RawC a y v L i) (hR : RelS (E0 w) 22 st a' w') (hag : Agree (dsts c) a a')
    (h : (memN 0 (dsts c) || (memN 9 (dsts c) || (memN 10 (dsts c) || memN 11 (dsts c)))) = false) : RawC a' y v L i := by
  simp only [Bool.or_eq_false_iff] at h
  obtain ⟨η, g, _⟩ := hR
  exact ⟨g.size, g.nd rfl, (agree_get hag h.1).trans R.s0, (agree_get hag h.2.1).trans R.s9, (agree_get hag h.2.2.1).trans R.s10, (agree_get hag h.2.2.2).trans R.s11⟩

theorem rawC_put {a : Act} {y v u : Value} {L i t : Nat} (R : RawC a y v L i) (ht : (12 ≤ t ∧ t < 22)) : RawC (a.put (some t) u) y v L i := by
  have hs := R.size
  refine ⟨by rw [size_put]; exact hs, R.defers, ?_, ?_, ?_, ?_⟩ <;> rw [getD_put (by omega), if_neg (by omega)]
  · exact R.s0
  · exact R.s9
  · exact R.s10
  · exact R.s11

theorem ih71 : IHolds Try.prog 71 isp71 := by
  intro fv cv x l N J Jx W hnb hcv hpre hJ hJa hJxa hJN hY hJ0
  obtain rfl : fv = [] := by
    match fv, hnb with
    | [], _ => rfl
  obtain ⟨sx, u⟩ := x
  obtain ⟨V0, hV0, ⟨bp, off, hp0, ys, hrep, hylen, hcell⟩, _⟩ := (hJ 0 [] W hJ0).1
  obtain ⟨p, cr, rfl⟩ : ∃ p cr, cv = p :: cr := by
    match cv, hp0 with
    | p :: cr, _ => exact ⟨p, cr, rfl⟩
  have hp : p = .pointer (some ⟨bp, off, none⟩) := by simpa using hp0
  obtain ⟨y, hy⟩ : ∃ y, y = Value.func (.yield l) #[] #[] := ⟨_, rfl⟩
  refine callsIn_of_wp (F := Fw none) (n := 0) (fn := Try.f71) Try.func71 body71 trivial ?_
  rw [← hy]
  obtain ⟨a0, ha0⟩ : ∃ a0 : Act, a0 = { tmps := ([] : List Value).toArray ++ #[y] ++ (p :: cr).toArray ++ Array.replicate (Try.f71.ntmps - (([] : List Value).toArray ++ #[y] ++ (p :: cr).toArray).size) undef, defers := [] } := ⟨_, rfl⟩
  rw [← ha0]
  have hcr : cr.length + 1 ≤ 16 := hcv
  have hsz : a0.tmps.size = 22 := by
    have : Try.f71.ntmps = 22 := rfl
    rw [ha0]; simp [this]; omega
  have g0 : a0.tmps.getD 0 undef = y := by
    rw [ha0]
    simp only [Array.getD_eq_getD_getElem?]
    rw [Array.getElem?_append_left (by simp), Array.getElem?_append_left (by simp), Array.getElem?_append_right (by simp)]
    rfl
  have g1 : a0.tmps.getD 1 undef = p := by
    rw [ha0]
    simp only [Array.getD_eq_getD_getElem?]
    rw [Array.getElem?_append_left (by simp), Array.getElem?_append_right (by simp)]
    rfl
  have hd0 : a0.defers = [] := by rw [ha0]
  have hR0 : RelS (E0 W) 22 [.slot 0 (.one (.v y)), .slot 1 (.one (.pd SecT sx))] a0 W := by
    refine ⟨fun _ => none, {
      size := hsz, lim := by decide, defers := ⟨⟨[], hd0, List.nodup_nil, fun _ h => by cases h⟩, fun _ h => by cases h⟩, os := rfl, tape := rfl, output := rfl, grow := Nat.le_refl _, keep := fun _ _ _ _ => rfl,
      own := fun k b n hk => (by cases hk), dis := fun b hb => hb.elim, inj := fun k k' b n n' hk => (by cases hk), old := fun b hb => hb.elim, obkeep := fun b i o _ h => h.elim, nd := fun _ => hd0 }, fun f hf => ?_⟩
    simp only [List.mem_cons, List.not_mem_nil, or_false] at hf
    rcases hf with rfl | rfl
    · simp only [Fact.holds]; rw [sval_lt (by decide), g0]; rfl
    · simp only [Fact.holds]; rw [sval_lt (by decide), g1, hp]
      obtain ⟨y0, y1, y2, y3, y4, rfl⟩ : ∃ y0 y1 y2 y3 y4, ys = [y0, y1, y2, y3, y4] := by
        match ys, hylen with
        | [y0, y1, y2, y3, y4], _ => exact ⟨y0, y1, y2, y3, y4, rfl⟩
      obtain ⟨cur, el, f, hb, hc0⟩ := cell_inv (hcell 0 y0 rfl)
      have hat : ∀ j v, [y0, y1, y2, y3, y4][j]? = some v → cur.toList[off + j]? = some v := by
        intro j v hj
        obtain ⟨cur', el', f', hb', hc'⟩ := cell_inv (hcell j v hj)
        have : cur' = cur := by
          have := hb'.symm.trans hb
          simp only [Option.some.injEq, Obj.cells.injEq] at this
          exact this.1
        subst this
        simpa using hc'
      have h4 := hat 4 y4 rfl
      have hlt : off + 4 < cur.toList.length := (List.getElem?_eq_some_iff.1 h4).1
      refine ⟨⟨bp, off, none⟩, cur, rfl, rfl, ⟨fun h => h.elim id (fun ⟨_, h⟩ => by cases h), fun _ _ h => (by cases h), el, f, hb⟩, ?_, ?_⟩
      · show off + 5 ≤ cur.size
        simp only [Array.length_toList] at hlt; omega
      · have e : (cur.toList.drop off).take 5 = [y0, y1, y2, y3, y4] := by
          refine List.ext_getElem? fun j => ?_
          rw [List.getElem?_take]
          split
          · rename_i hj
            rw [List.getElem?_drop]
            have hj' : j < [y0, y1, y2, y3, y4].length := hj
            rw [hat j _ (List.getElem?_eq_getElem hj'), List.getElem?_eq_getElem hj']
          · rename_i hj
            rw [List.getElem?_eq_none (by simp; omega)]
        show Rep _ SecT sx ((cur.toList.drop off).take 5)
        rw [e]
        refine Rep.mono (fun b c h => ?_) _ _ _ hrep
        obtain ⟨el, f, h⟩ := hV0 b c h
        exact ⟨fun h => h.elim id (fun ⟨_, h⟩ => by cases h), fun _ _ h => (by cases h), el, f, h⟩
  refine wpIn_seq (piece hR0 (by kernel_rfl) (by kernel_rfl) (vcC0 y sx) fun a1 w1 hR1 _ => ?_)
  obtain ⟨b, c, cur, hbW, hbk, hrow, R1, hown⟩ : ∃ (b c : Nat) (cur : Array Value), W.heap.size ≤ b ∧ w1.heap[b]? = some (.cells cur 3 (0, 0)) ∧ (∀ V, RowIn V I64 (coefL sx) c cur) ∧ RawC a1 y (.slice (some ⟨b, 0, none⟩) (coefL sx).length c) (coefL sx).length 0 ∧
      OwnStep W w1 [] [(b, .cells cur 3 (0, 0))] := by
    obtain ⟨η, g, H⟩ := hR1
    have h0 := H (.slot 0 (.one (.v y))) (by simp)
    have h9 := H (.slot 9 (.one (.o 9 5))) (by simp)
    have hr := H (.row 9 3 I64 (coefL sx)) (by simp)
    have h10 := H (sI 10 5) (by simp)
    have h11 := H (sI 11 0) (by simp)
    simp only [Fact.holds] at h0 h9 h10 h11
    rw [sval_lt (by decide)] at h0 h9 h10 h11
    rcases h9 with ⟨_, h, _⟩ | ⟨b, c, k1, k2, k3⟩
    · omega
    rcases hr with ⟨h, _⟩ | ⟨b', c', cur, q0, q1, q2, q3⟩
    · rw [k1] at h; cases h
    rw [k1] at q1
    obtain ⟨rfl, rfl⟩ : b = b' ∧ c = c' := by simpa using q1
    have q0 : W.heap.size ≤ b := q0.elim id (fun h => h.elim)
    refine ⟨b, c, cur, q0, q2, fun V => ⟨q3.1, q3.2.1, q3.2.2.1, fun i x hx => ?_⟩, ⟨g.size, g.nd rfl, h0, k2, holds_int h10, holds_int h11⟩, ?_⟩
    · have := q3.2.2.2 i x hx
      simpa only [Rep] using this
    exact ⟨g.os, g.tape, g.output, g.grow, fun b hb _ => g.keep b hb (fun h => h) (fun h => h), fun p hp => by
      simp only [List.mem_singleton] at hp
      subst hp
      exact ⟨q2, .inr q0⟩⟩
  obtain ⟨L, hL⟩ : ∃ L, L = (coefL sx).length := ⟨_, rfl⟩
  have hL5 : L = 5 := hL
  obtain ⟨sv, hsv⟩ : ∃ sv, sv = Value.slice (some ⟨b, 0, none⟩) L c := ⟨_, rfl⟩
  obtain ⟨ps, hps⟩ : ∃ ps : List (Nat × Obj), ps = [(b, .cells cur 3 (0, 0))] := ⟨_, rfl⟩
  rw [← hL, ← hsv] at R1
  rw [← hps] at hown
  have hJ1 : J 0 ps w1 := hJa 0 [] ps W w1 hJ0 hown
  refine wpIn_block (wp_loop_rel (fun n a w => ∃ i, J i ps w ∧ n = L - i ∧ i ≤ L ∧ RawC a y sv L i) ⟨0, hJ1, rfl, Nat.zero_le _, R1⟩ ?_)
  rintro n a w ⟨i, hJi, rfl, hi, R⟩
  have hpins : ∀ {i w}, J i ps w → ∀ p ∈ ps, w.heap[p.1]? = some p.2 := fun h => (hJ _ _ _ h).2
  have hbk : ∀ {i w}, J i ps w → w.heap[b]? = some (.cells cur 3 (0, 0)) := fun h => hpins h (b, .cells cur 3 (0, 0)) (by rw [hps]; simp)
  have rel : ∀ {a w i}, RawC a y sv L i → J i ps w → RelS (E0 w) 22 (stC y (coefL sx) i) a w := fun R h => by
    refine rawC_rel (c := c) ?_ (hbk h) hrow
    rw [← hL, ← hsv]; exact R
  refine wpIn_seq (piece (rel R hJi) (by kernel_rfl) (by kernel_rfl) (vcC1 y (coefL sx) i) fun a1 w1 hR1 hag1 => ?_)
  have R1 := rawC_of R hR1 hag1 (by kernel_rfl)
  have hJ1 := hJa i ps ps w w1 hJi (own_of hR1 (hpins hJi))
  have h12 : a1.eval (.tmp 12) = .bool (decide ((i : Int) < (coefL sx).length)) := by
    obtain ⟨η, g, H⟩ := hR1
    have h := H (.slot 12 (.one (.d .bool (decide ((i : Int) < (coefL sx).length))))) (by simp)
    simp only [Fact.holds] at h
    rw [sval_lt (by decide)] at h
    exact holds_bool h
  by_cases hiL : i < L
  case neg =>
    have hfalse : decide ((i : Int) < (coefL sx).length) = false := decide_eq_false (by omega)
    rw [hfalse] at h12
    refine wpIn_seq (wpIn_cond_false h12 (wpIn_exit ?_))
    have : i = L := by omega
    subst this
    exact ⟨R1.defers, .tuple #[], results_run (fn := Try.f71) (vs := []) rfl, ⟨_, rfl⟩, .inl ⟨i, ps, by rw [hL5], hJ1⟩⟩
  have htrue : decide ((i : Int) < (coefL sx).length) = true := decide_eq_true (by omega)
  rw [htrue] at h12
  refine wpIn_seq (wpIn_cond_true h12 (wpIn_skip ?_))
  refine wpIn_seq (wpIn_block (wpIn_seq (piece (rel R1 hJ1) (by kernel_rfl) (by kernel_rfl) (vcC2 y (coefL sx) i (by omega)) fun a2 w2 hR2 hag2 => ?_)))
  have R2 := rawC_of R1 hR2 hag2 (by kernel_rfl)
  have hJ2 := hJa i ps ps w1 w2 hJ1 (own_of hR2 (hpins hJ1))
  obtain ⟨h3, h4⟩ : a2.tmps.getD 3 undef = .int .i64 i ∧ a2.tmps.getD 4 undef = .int .i64 ((coefL sx).getD i 0) := by
    obtain ⟨η, g, H⟩ := hR2
    have h3 := H (sI 3 i) (by simp)
    have h4 := H (sI 4 ((coefL sx).getD i 0)) (by simp)
    simp only [Fact.holds] at h3 h4
    rw [sval_lt (by decide)] at h3 h4
    exact ⟨holds_int h3, holds_int h4⟩
  obtain ⟨fl, tl, al, bl, hrun, hround⟩ := hY i ps w2 hJ2 (fun L' hL' => by
    have : (5 : Nat) = L' := by simpa using hL'
    omega)
  have ev : ∀ (a : Act) (t : Nat), a.eval (.tmp t) = a.tmps.getD t undef := fun a t => rfl
  have hsz2 := R2.size
  refine wpIn_seq (wpIn_region_list ?_)
  refine list_step rfl (op_val (v := y) (by intro d h; cases h) ?_ ?_)
  · simp [execOp, ev, R2.s0]
  have R3 := rawC_put (u := y) (t := 16) R2 (by decide)
  have h3' : (a2.put (some 16) y).tmps.getD 3 undef = .int .i64 i := by rw [getD_put (by omega), if_neg (by decide)]; exact h3
  have h4' : (a2.put (some 16) y).tmps.getD 4 undef = .int .i64 ((coefL sx).getD i 0) := by rw [getD_put (by omega), if_neg (by decide)]; exact h4
  have h16 : (a2.put (some 16) y).tmps.getD 16 undef = y := by rw [getD_put (by omega), if_pos rfl]
  obtain ⟨a3, ha3⟩ : ∃ a3, a3 = a2.put (some 16) y := ⟨_, rfl⟩
  show wpListIn _ _ _ _ _ _ (a2.put (some 16) y) w2
  rw [← ha3] at R3 h3' h4' h16 ⊢
  have hsz3 := R3.size
  refine list_step rfl (op_val (v := .int .i64 i) (by intro d h; cases h) ?_ ?_)
  · simp [execOp, ev, h3']
  have R4 := rawC_put (u := .int .i64 i) (t := 17) R3 (by decide)
  have h16' : (a3.put (some 17) (.int .i64 i)).tmps.getD 16 undef = y := by rw [getD_put (by omega), if_neg (by decide)]; exact h16
  have h4'' : (a3.put (some 17) (.int .i64 i)).tmps.getD 4 undef = .int .i64 ((coefL sx).getD i 0) := by rw [getD_put (by omega), if_neg (by decide)]; exact h4'
  have h17 : (a3.put (some 17) (.int .i64 i)).tmps.getD 17 undef = .int .i64 i := by rw [getD_put (by omega), if_pos rfl]
  obtain ⟨a4, ha4⟩ : ∃ a4, a4 = a3.put (some 17) (.int .i64 i) := ⟨_, rfl⟩
  show wpListIn _ _ _ _ _ _ (a3.put (some 17) (.int .i64 i)) w2
  rw [← ha4] at R4 h16' h4'' h17 ⊢
  have hsz4 := R4.size
  refine list_step rfl (op_val (v := .int .i64 ((coefL sx).getD i 0)) (by intro d h; cases h) ?_ ?_)
  · simp [execOp, ev, h4'']
  have R5 := rawC_put (u := .int .i64 ((coefL sx).getD i 0)) (t := 18) R4 (by decide)
  obtain ⟨a5, ha5⟩ : ∃ a5, a5 = a4.put (some 18) (.int .i64 ((coefL sx).getD i 0)) := ⟨_, rfl⟩
  have h16'' : a5.tmps.getD 16 undef = y := by rw [ha5, getD_put (by omega), if_neg (by decide)]; exact h16'
  have h17' : a5.tmps.getD 17 undef = .int .i64 i := by rw [ha5, getD_put (by omega), if_neg (by decide)]; exact h17
  have h18 : a5.tmps.getD 18 undef = .int .i64 ((coefL sx).getD i 0) := by rw [ha5, getD_put (by omega), if_pos rfl]
  show wpListIn _ _ _ _ _ _ (a4.put (some 18) (.int .i64 ((coefL sx).getD i 0))) w2
  rw [← ha5] at R5 ⊢
  have hsz5 := R5.size
  refine list_step rfl (op_round (l := l) (f := fl) (tmps := tl) (assign := al) (body := bl) (by intro d h; cases h) ?_ (RoundIn.mono hround ?_))
  · simp [execOp, resolve, Deferred.ofValue, ev, h16'', h17', h18, hy, invoke, callFunc]
    exact hrun
  rintro e w3 (⟨rfl, hJ3⟩ | ⟨rfl, hJx3⟩)
  · refine ⟨.bool true, rfl, ?_⟩
    have R6 := rawC_put (u := .bool true) (t := 19) R5 (by decide)
    have h19 : (a5.put (some 19) (.bool true)).tmps.getD 19 undef = .bool true := by rw [getD_put (by omega), if_pos rfl]
    obtain ⟨a6, ha6⟩ : ∃ a6, a6 = a5.put (some 19) (.bool true) := ⟨_, rfl⟩
    show wpListIn _ _ _ _ _ _ (a5.put (some 19) (.bool true)) w3
    rw [← ha6] at R6 h19 ⊢
    have hsz6 := R6.size
    refine list_step rfl (op_val (v := .bool false) (by intro d h; cases h) ?_ (list_nil ?_))
    · simp [execOp, ev, h19, Op.unary]
    have R7 := rawC_put (u := .bool false) (t := 20) R6 (by decide)
    have h20 : (a6.put (some 20) (.bool false)).eval (.tmp 20) = .bool false := by rw [ev, getD_put (by omega), if_pos rfl]
    obtain ⟨a7, ha7⟩ : ∃ a7, a7 = a6.put (some 20) (.bool false) := ⟨_, rfl⟩
    show Code.wpIn _ _ _ _ _ (a6.put (some 20) (.bool false)) w3
    rw [← ha7] at R7 h20 ⊢
    refine wpIn_cond_false h20 (wpIn_skip ?_)
    have R7' : RelS (E0 w3) 22 (stC y (coefL sx) i) a7 w3 := by
      refine rawC_rel (c := c) ?_ (hbk hJ3) hrow
      rw [← hL, ← hsv]; exact R7
    refine piece R7' (by kernel_rfl) (by kernel_rfl) (vcC4 y (coefL sx) i (by omega)) fun a8 w8 hR8 hag8 => ?_
    refine ⟨L - (i + 1), by omega, i + 1, hJa (i + 1) ps ps w3 w8 hJ3 (own_of hR8 (hpins hJ3)), rfl, by omega, ?_⟩
    obtain ⟨η, g, H⟩ := hR8
    have h11 := H (sI 11 ((i + 1 : Nat) : Int)) (by simp)
    simp only [Fact.holds] at h11
    rw [sval_lt (by decide)] at h11
    exact ⟨g.size, g.nd rfl, (agree_get hag8 (by kernel_rfl)).trans R7.s0, (agree_get hag8 (by kernel_rfl)).trans R7.s9, (agree_get hag8 (by kernel_rfl)).trans R7.s10, holds_int h11⟩
  · refine ⟨.bool false, rfl, ?_⟩
    have R6 := rawC_put (u := .bool false) (t := 19) R5 (by decide)
    have h19 : (a5.put (some 19) (.bool false)).tmps.getD 19 undef = .bool false := by rw [getD_put (by omega), if_pos rfl]
    obtain ⟨a6, ha6⟩ : ∃ a6, a6 = a5.put (some 19) (.bool false) := ⟨_, rfl⟩
    show wpListIn _ _ _ _ _ _ (a5.put (some 19) (.bool false)) w3
    rw [← ha6] at R6 h19 ⊢
    have hsz6 := R6.size
    refine list_step rfl (op_val (v := .bool true) (by intro d h; cases h) ?_ (list_nil ?_))
    · simp [execOp, ev, h19, Op.unary]
    have R7 := rawC_put (u := .bool true) (t := 20) R6 (by decide)
    have h20 : (a6.put (some 20) (.bool true)).eval (.tmp 20) = .bool true := by rw [ev, getD_put (by omega), if_pos rfl]
    refine wpIn_cond_true h20 (wpIn_ret ?_)
    exact ⟨R7.defers, .tuple #[], results_run (fn := Try.f71) (vs := []) rfl, ⟨_, rfl⟩, .inr ⟨i, ps, hJx3⟩⟩

theorem enters71 : Enters Try.prog 71 := ⟨Try.f71, Try.func71, by kernel_rfl, by kernel_rfl⟩

end Go.Eng.Lp
