/- pulsed: the examples. Conditions: none. -/
import Derived.Test.YtcoimlnplaidiaaDoorWC14
namespace Go.Eng.Pu
open Go.Eng Go.Proofs
set_option linter.all false
set_option maxRecDepth 100000
set_option maxHeartbeats 8000000

/-- pulsed -/
theorem h77 : Ok 10 sPulsed := by
  refine mk (ctr := [(24, sListW), (23, sTwo), (18, sExc), (20, sUnf), (9, sSameN)]) ⟨h30n, h82, h31n, h53n, h34n, trivial⟩ (nt := 48) Tryd.func10 rfl rfl rfl rfl (by kernel_rfl) (by kernel_rfl) (fun _ => []) ?_
  rintro _ _
  have p2 : pLen 2 := by decide
  obtain ⟨A, hA⟩ : ∃ A, lsL [(1082130432, 0, ()), (3212836864, 1073741824, ())] = A := ⟨_, rfl⟩
  obtain ⟨B, hB⟩ : ∃ B, lsL [(3225419776, 3221225472, ()), (1084227584, 3221225472, ()), (3231711232, 1073741824, ())] = B := ⟨_, rfl⟩
  obtain ⟨C, hC⟩ : ∃ C, lsL [(1082130432, 0, ()), (3212836864, 1073741824, ()), (0, 0, ())] = C := ⟨_, rfl⟩
  have e1 : exE A 2 [1, 2] 1 = 0 := hA ▸ ex_ok.1
  have e2 : exR A 2 [1, 2] 1 = B := hA ▸ hB ▸ ex_ok.2.1
  have e3 : ufE B 2 [1, 2] 1 = 0 := hB ▸ ex_ok.2.2.1
  have e4 : ufR B 2 [1, 2] 1 = C := hB ▸ hC ▸ ex_ok.2.2.2
  repeat' (intro hzz; (try (rename Two => hq; cases hq)); (try dsimp only at hzz); (try simp only [resTy, argTy, eqD, inR, big, wantOf, Bool.not_true, Bool.not_false, Bool.true_eq, decide_eq_true_eq, decide_eq_false_iff_not, Bool.not_eq_true', Bool.not_eq_false', Bool.and_eq_true, Prod.mk.injEq, and_true, true_and, Int.not_lt, Int.not_le, gt_iff_lt, ge_iff_le] at hzz); (try simp only [resTy, argTy, eqD, inR, big, wantOf, Bool.not_true, Bool.not_false, Bool.true_eq, decide_eq_true_eq, decide_eq_false_iff_not, Bool.not_eq_true', Bool.not_eq_false', Bool.and_eq_true, Prod.mk.injEq, and_true, true_and, Int.not_lt, Int.not_le, gt_iff_lt, ge_iff_le, hA, hB, hC, e1, e2, e3, e4] at hzz); (try (first | contradiction | (exfalso; omega))); (try (revert hzz; intro _)))
  all_goals try (rename Unit => hq; clear hq)
  all_goals try ((with_reducible refine Held.mk ?_); (with_reducible (first | refine Frz.mk ?_ | refine And.intro (Frz.mk ?_) ?_ | refine And.intro ?_ (Frz.mk ?_))); repeat' first | exact True.intro | (change _ = _; with_reducible rfl) | refine And.intro ?_ ?_ | (with_reducible refine Frz.mk ?_))
  all_goals try (refine Held.mk ?_; (try dsimp only at *); (try simp only [resTy, argTy, eqD, inR, big, wantOf, Bool.not_true, Bool.not_false, Bool.true_eq, decide_eq_true_eq, decide_eq_false_iff_not, Bool.not_eq_true', Bool.not_eq_false', Bool.and_eq_true, Prod.mk.injEq, and_true, true_and, Int.not_lt, Int.not_le, gt_iff_lt, ge_iff_le] at *); (try simp only [resTy, argTy, eqD, inR, big, wantOf, Bool.not_true, Bool.not_false, Bool.true_eq, decide_eq_true_eq, decide_eq_false_iff_not, Bool.not_eq_true', Bool.not_eq_false', Bool.and_eq_true, Prod.mk.injEq, and_true, true_and, Int.not_lt, Int.not_le, gt_iff_lt, ge_iff_le, hA, hB, hC, e1, e2, e3, e4] at *))
  all_goals try omega
  · decide
  · decide
  · decide
  · exact ⟨Nat.le_trans (Nat.le_of_eq (congrArg List.length ex_ok.2.1)) (by decide +kernel), ex_ok.2.1, exR_ok _ _ _ _⟩
  · decide
  · exact ⟨Nat.le_trans (Nat.le_of_eq (congrArg List.length ex_ok.2.2.2)) (by decide +kernel), ex_ok.2.2.2, ufR_ok _ _ _ _⟩

end Go.Eng.Pu
