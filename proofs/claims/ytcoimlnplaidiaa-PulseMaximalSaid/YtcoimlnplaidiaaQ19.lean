/- The law PulseStates, walked. Conditions: none. -/
import Derived.Test.YtcoimlnplaidiaaQ17
import Derived.Test.YtcoimlnplaidiaaQ18
namespace Go.Eng.Pu
open Go.Eng Go.Proofs
set_option linter.all false
set_option maxRecDepth 100000
set_option maxHeartbeats 8000000

def atErr (L : Int) (xs : List Int) (s n : Int) : Int := if opErr L xs s = 0 then (if 0 ≤ n ∧ n ≤ 1000000000 then 0 else 2) else opErr L xs s
def atV (L : Int) (xs : List Int) (s n : Int) : Int := if atErr L xs s n = 0 then atI L xs s n else 0

@[reducible] def sPAt : Spec := { pats := [.dat Reg0, .dat I64, .dat I64], res := [{ t := I64 }, { t := I64 }], pre := fun x => pLen (List.length (α := Int) x.1.2.1), f := fun x => (atV x.1.1 x.1.2.1 x.2.1 x.2.2.1, atErr x.1.1 x.1.2.1 x.2.1 x.2.2.1, ()) }

theorem atErr_eq (L : Int) (xs : List Int) (s n : Int) : firstI [opErr L xs s, cond (decide (0 ≤ n ∧ n ≤ 1000000000)) 0 2] = atErr L xs s n := by
  rw [first2]
  unfold atErr
  by_cases h : opErr L xs s = 0 <;> by_cases h2 : 0 ≤ n ∧ n ≤ 1000000000 <;> simp [h, h2]

theorem atErr_zero {L : Int} {xs : List Int} {s n : Int} (h : atErr L xs s n = 0) : opErr L xs s = 0 ∧ 0 ≤ n ∧ n ≤ 1000000000 := by
  unfold atErr at h
  split at h
  · rename_i h1
    split at h
    · rename_i h2; exact ⟨h1, h2⟩
    · cases h
  · rename_i h1; exact absurd h h1

/-- pulse.StateAt -/
theorem h49 : Ok 49 sPAt := by
  refine mk (ctr := [(83, sOpen), (84, sFirst), (85, sUnless), (86, sWithin), (120, sAt)]) ⟨h83, h84, h85, h86, h120, trivial⟩ (nt := 29) Try.func49 rfl rfl rfl rfl (by kernel_rfl) (by kernel_rfl) (fun _ => []) ?_
  rintro ⟨⟨(L : Int), (xs : List Int), _⟩, (s : Int), (n : Int), _⟩ (hl : pLen xs.length)
  have e := atErr_eq L xs s n
  repeat' (intro hzz; (try (rename Two => hq; cases hq)); (try dsimp only at hzz); (try simp only [resTy, argTy, eqD, inR, big, wantOf, Bool.not_true, Bool.not_false, Bool.true_eq, decide_eq_true_eq, decide_eq_false_iff_not, Bool.not_eq_true', Bool.not_eq_false', Bool.and_eq_true, Prod.mk.injEq, and_true, true_and, Int.not_lt, Int.not_le, gt_iff_lt, ge_iff_le] at hzz); (try simp only [resTy, argTy, eqD, inR, big, wantOf, Bool.not_true, Bool.not_false, Bool.true_eq, decide_eq_true_eq, decide_eq_false_iff_not, Bool.not_eq_true', Bool.not_eq_false', Bool.and_eq_true, Prod.mk.injEq, and_true, true_and, Int.not_lt, Int.not_le, gt_iff_lt, ge_iff_le, fWithin] at hzz); (try (first | contradiction | (exfalso; omega))); (try (revert hzz; intro _)))
  all_goals try (rename Unit => hq; clear hq)
  all_goals try ((with_reducible refine Held.mk ?_); (with_reducible (first | refine Frz.mk ?_ | refine And.intro (Frz.mk ?_) ?_ | refine And.intro ?_ (Frz.mk ?_))); repeat' first | exact True.intro | (change _ = _; with_reducible rfl) | refine And.intro ?_ ?_ | (with_reducible refine Frz.mk ?_))
  all_goals try (refine Held.mk ?_; (try dsimp only at *); (try simp only [resTy, argTy, eqD, inR, big, wantOf, Bool.not_true, Bool.not_false, Bool.true_eq, decide_eq_true_eq, decide_eq_false_iff_not, Bool.not_eq_true', Bool.not_eq_false', Bool.and_eq_true, Prod.mk.injEq, and_true, true_and, Int.not_lt, Int.not_le, gt_iff_lt, ge_iff_le] at *); (try simp only [resTy, argTy, eqD, inR, big, wantOf, Bool.not_true, Bool.not_false, Bool.true_eq, decide_eq_true_eq, decide_eq_false_iff_not, Bool.not_eq_true', Bool.not_eq_false', Bool.and_eq_true, Prod.mk.injEq, and_true, true_and, Int.not_lt, Int.not_le, gt_iff_lt, ge_iff_le, fWithin] at *))
  all_goals try omega
  · simp [pLen]
  · rename_i h
    have h : ¬ atErr L xs s n = 0 := by rw [← e]; exact h
    refine ⟨(if_neg h).symm, ?_⟩
    exact e
  · rename_i h
    have h : atErr L xs s n = 0 := by rw [← e]; exact h
    obtain ⟨h1, h2⟩ := atErr_zero h
    exact ⟨(op_pSt hl h1).1, h2⟩
  · rename_i h
    have h : atErr L xs s n = 0 := by rw [← e]; exact h
    exact ⟨(if_pos h).symm, h.symm⟩

@[reducible] def sPSigns : Spec := { pats := [.dat Reg0, .dat I64], res := [{ t := .sl I64 }, { t := I64 }], pre := fun x => pLen (List.length (α := Int) x.1.2.1), f := fun x => ((if opErr x.1.1 x.1.2.1 x.2.1 = 0 then tab (sgI x.1.1 x.1.2.1 x.2.1) (most x.1.1).toNat else []), opErr x.1.1 x.1.2.1 x.2.1, ()) }

/-- pulse.Signs -/
theorem h50 : Ok 50 sPSigns := by
  refine mk (ctr := [(83, sOpen), (95, sSigns)]) ⟨h83, h95, trivial⟩ (nt := 20) Try.func50 rfl rfl rfl rfl (by kernel_rfl) (by kernel_rfl) (fun _ => []) ?_
  rintro ⟨⟨(L : Int), (xs : List Int), _⟩, (s : Int), _⟩ (hl : pLen xs.length)
  repeat' (intro hzz; (try (rename Two => hq; cases hq)); (try dsimp only at hzz); (try simp only [resTy, argTy, eqD, inR, big, wantOf, Bool.not_true, Bool.not_false, Bool.true_eq, decide_eq_true_eq, decide_eq_false_iff_not, Bool.not_eq_true', Bool.not_eq_false', Bool.and_eq_true, Prod.mk.injEq, and_true, true_and, Int.not_lt, Int.not_le, gt_iff_lt, ge_iff_le] at hzz); (try (first | contradiction | (exfalso; omega))); (try (revert hzz; intro _)))
  all_goals try (rename Unit => hq; clear hq)
  all_goals try ((with_reducible refine Held.mk ?_); (with_reducible (first | refine Frz.mk ?_ | refine And.intro (Frz.mk ?_) ?_ | refine And.intro ?_ (Frz.mk ?_))); repeat' first | exact True.intro | (change _ = _; with_reducible rfl) | refine And.intro ?_ ?_ | (with_reducible refine Frz.mk ?_))
  all_goals try (refine Held.mk ?_; (try dsimp only at *); (try simp only [resTy, argTy, eqD, inR, big, wantOf, Bool.not_true, Bool.not_false, Bool.true_eq, decide_eq_true_eq, decide_eq_false_iff_not, Bool.not_eq_true', Bool.not_eq_false', Bool.and_eq_true, Prod.mk.injEq, and_true, true_and, Int.not_lt, Int.not_le, gt_iff_lt, ge_iff_le] at *))
  all_goals try omega
  · rename_i h; exact (if_neg h).symm
  · rename_i h; exact (op_pSt hl h).1
  · rename_i h; exact ⟨(if_pos h).symm, h.symm⟩

@[reducible] def sLaw8 : Spec := { pats := [.dat Reg0, .dat I64, .dat I64], res := [{ t := .bool }], pre := fun _ => True, f := fun _ => (true, ()) }

/-- PulseStates -/
theorem h8 : Ok 8 sLaw8 := by
  refine mk (ctr := [(17, sAwake), (19, sCopy), (49, sPAt), (50, sPSigns), (23, sStartR), (25, sWithin), (26, sInts), (51, sRSigns), (52, sRAt)]) ⟨h17, h19, h49, h50, h23, h25, h26, h51, h52, trivial⟩ (nt := 84) Try.func8 rfl rfl rfl rfl (by kernel_rfl) (by kernel_rfl) (fun _ => []) ?_
  rintro ⟨⟨(L : Int), (xs : List Int), _⟩, (s : Int), (n : Int), _⟩ _
  by_cases ho : opErr L xs s = 0
  · have hP : (xs.length : Int) ≤ 12 → pSt L xs s := fun h => (op_pSt (pLen12 h) ho).1
    have hM : (xs.length : Int) ≤ 12 → (most L).toNat ≤ 255 := fun h => by have := P2_in (chk_zero (hP h).1).1; unfold most; omega
    by_cases hn : 0 ≤ n ∧ n ≤ 1000000000
    · have e1 : atErr L xs s n = 0 := by unfold atErr; rw [if_pos ho, if_pos hn]
      have e2 : atV L xs s n = atI L xs s n := by unfold atV; rw [if_pos e1]
      repeat' (intro hzz; (try (rename Two => hq; cases hq)); (try dsimp only at hzz); (try simp only [resTy, argTy, eqD, inR, big, wantOf, Bool.not_true, Bool.not_false, Bool.true_eq, decide_eq_true_eq, decide_eq_false_iff_not, Bool.not_eq_true', Bool.not_eq_false', Bool.and_eq_true, Prod.mk.injEq, and_true, true_and, Int.not_lt, Int.not_le, gt_iff_lt, ge_iff_le] at hzz); (try simp only [resTy, argTy, eqD, inR, big, wantOf, Bool.not_true, Bool.not_false, Bool.true_eq, decide_eq_true_eq, decide_eq_false_iff_not, Bool.not_eq_true', Bool.not_eq_false', Bool.and_eq_true, Prod.mk.injEq, and_true, true_and, Int.not_lt, Int.not_le, gt_iff_lt, ge_iff_le, fWithin, ho, e1, e2, hn, if_true] at hzz); (try (first | contradiction | (exfalso; omega))); (try (revert hzz; intro _)))
      all_goals try (rename Unit => hq; clear hq)
      all_goals try ((with_reducible refine Held.mk ?_); (with_reducible (first | refine Frz.mk ?_ | refine And.intro (Frz.mk ?_) ?_ | refine And.intro ?_ (Frz.mk ?_))); repeat' first | exact True.intro | (change _ = _; with_reducible rfl) | refine And.intro ?_ ?_ | (with_reducible refine Frz.mk ?_))
      all_goals try (refine Held.mk ?_; (try dsimp only at *); (try simp only [resTy, argTy, eqD, inR, big, wantOf, Bool.not_true, Bool.not_false, Bool.true_eq, decide_eq_true_eq, decide_eq_false_iff_not, Bool.not_eq_true', Bool.not_eq_false', Bool.and_eq_true, Prod.mk.injEq, and_true, true_and, Int.not_lt, Int.not_le, gt_iff_lt, ge_iff_le] at *); (try simp only [resTy, argTy, eqD, inR, big, wantOf, Bool.not_true, Bool.not_false, Bool.true_eq, decide_eq_true_eq, decide_eq_false_iff_not, Bool.not_eq_true', Bool.not_eq_false', Bool.and_eq_true, Prod.mk.injEq, and_true, true_and, Int.not_lt, Int.not_le, gt_iff_lt, ge_iff_le, fWithin, ho, e1, e2, hn, if_true] at *))
      all_goals try omega
      all_goals first | exact ⟨pLen12 (by assumption), by omega⟩ | exact pLen12 (by assumption) | exact hP (by assumption) | rfl | (have := hM (by assumption); constructor <;> (rw [tab_len]; unfold pLen; omega))
    · have e1 : atErr L xs s n = 2 := by unfold atErr; rw [if_pos ho, if_neg hn]
      have e2 : atV L xs s n = 0 := by unfold atV; rw [if_neg (by rw [e1]; decide)]
      repeat' (intro hzz; (try (rename Two => hq; cases hq)); (try dsimp only at hzz); (try simp only [resTy, argTy, eqD, inR, big, wantOf, Bool.not_true, Bool.not_false, Bool.true_eq, decide_eq_true_eq, decide_eq_false_iff_not, Bool.not_eq_true', Bool.not_eq_false', Bool.and_eq_true, Prod.mk.injEq, and_true, true_and, Int.not_lt, Int.not_le, gt_iff_lt, ge_iff_le] at hzz); (try simp only [resTy, argTy, eqD, inR, big, wantOf, Bool.not_true, Bool.not_false, Bool.true_eq, decide_eq_true_eq, decide_eq_false_iff_not, Bool.not_eq_true', Bool.not_eq_false', Bool.and_eq_true, Prod.mk.injEq, and_true, true_and, Int.not_lt, Int.not_le, gt_iff_lt, ge_iff_le, fWithin, ho, e1, e2, hn, if_true] at hzz); (try (first | contradiction | (exfalso; omega))); (try (revert hzz; intro _)))
      all_goals try (rename Unit => hq; clear hq)
      all_goals try ((with_reducible refine Held.mk ?_); (with_reducible (first | refine Frz.mk ?_ | refine And.intro (Frz.mk ?_) ?_ | refine And.intro ?_ (Frz.mk ?_))); repeat' first | exact True.intro | (change _ = _; with_reducible rfl) | refine And.intro ?_ ?_ | (with_reducible refine Frz.mk ?_))
      all_goals try (refine Held.mk ?_; (try dsimp only at *); (try simp only [resTy, argTy, eqD, inR, big, wantOf, Bool.not_true, Bool.not_false, Bool.true_eq, decide_eq_true_eq, decide_eq_false_iff_not, Bool.not_eq_true', Bool.not_eq_false', Bool.and_eq_true, Prod.mk.injEq, and_true, true_and, Int.not_lt, Int.not_le, gt_iff_lt, ge_iff_le] at *); (try simp only [resTy, argTy, eqD, inR, big, wantOf, Bool.not_true, Bool.not_false, Bool.true_eq, decide_eq_true_eq, decide_eq_false_iff_not, Bool.not_eq_true', Bool.not_eq_false', Bool.and_eq_true, Prod.mk.injEq, and_true, true_and, Int.not_lt, Int.not_le, gt_iff_lt, ge_iff_le, fWithin, ho, e1, e2, hn, if_true] at *))
      all_goals try omega
      all_goals first | exact ⟨pLen12 (by assumption), by omega⟩ | exact pLen12 (by assumption) | exact hP (by assumption) | rfl | (have := hM (by assumption); constructor <;> (rw [tab_len]; unfold pLen; omega))
  · have e1 : atErr L xs s n = opErr L xs s := by unfold atErr; rw [if_neg ho]
    have e2 : atV L xs s n = 0 := by unfold atV; rw [if_neg (by rw [e1]; exact ho)]
    repeat' (intro hzz; (try (rename Two => hq; cases hq)); (try dsimp only at hzz); (try simp only [resTy, argTy, eqD, inR, big, wantOf, Bool.not_true, Bool.not_false, Bool.true_eq, decide_eq_true_eq, decide_eq_false_iff_not, Bool.not_eq_true', Bool.not_eq_false', Bool.and_eq_true, Prod.mk.injEq, and_true, true_and, Int.not_lt, Int.not_le, gt_iff_lt, ge_iff_le] at hzz); (try simp only [resTy, argTy, eqD, inR, big, wantOf, Bool.not_true, Bool.not_false, Bool.true_eq, decide_eq_true_eq, decide_eq_false_iff_not, Bool.not_eq_true', Bool.not_eq_false', Bool.and_eq_true, Prod.mk.injEq, and_true, true_and, Int.not_lt, Int.not_le, gt_iff_lt, ge_iff_le, fWithin, ho, e1, e2, if_false] at hzz); (try (first | contradiction | (exfalso; omega))); (try (revert hzz; intro _)))
    all_goals try (rename Unit => hq; clear hq)
    all_goals try ((with_reducible refine Held.mk ?_); (with_reducible (first | refine Frz.mk ?_ | refine And.intro (Frz.mk ?_) ?_ | refine And.intro ?_ (Frz.mk ?_))); repeat' first | exact True.intro | (change _ = _; with_reducible rfl) | refine And.intro ?_ ?_ | (with_reducible refine Frz.mk ?_))
    all_goals try (refine Held.mk ?_; (try dsimp only at *); (try simp only [resTy, argTy, eqD, inR, big, wantOf, Bool.not_true, Bool.not_false, Bool.true_eq, decide_eq_true_eq, decide_eq_false_iff_not, Bool.not_eq_true', Bool.not_eq_false', Bool.and_eq_true, Prod.mk.injEq, and_true, true_and, Int.not_lt, Int.not_le, gt_iff_lt, ge_iff_le] at *); (try simp only [resTy, argTy, eqD, inR, big, wantOf, Bool.not_true, Bool.not_false, Bool.true_eq, decide_eq_true_eq, decide_eq_false_iff_not, Bool.not_eq_true', Bool.not_eq_false', Bool.and_eq_true, Prod.mk.injEq, and_true, true_and, Int.not_lt, Int.not_le, gt_iff_lt, ge_iff_le, fWithin, ho, e1, e2, if_false] at *))
    all_goals try omega
    all_goals first | exact ⟨pLen12 (by assumption), by omega⟩ | exact pLen12 (by assumption) | rfl

end Go.Eng.Pu
