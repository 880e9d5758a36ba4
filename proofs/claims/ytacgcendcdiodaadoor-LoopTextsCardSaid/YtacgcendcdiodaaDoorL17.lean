/- Contract of awake: the closed examples hold. Conditions: none. -/
import Derived.Test.YtacgcendcdiodaaDoorL16
namespace Go.Eng.Lp
open Go.Eng Go.Proofs
set_option linter.all false
set_option maxRecDepth 100000
set_option maxHeartbeats 8000000

theorem aw1 : fValueAt [0, 8192] 1000 1024 = ((0, -524288, 0, ()), 0) := by kernel_rfl
theorem aw2 : (fArcBall [0, 8192] 1000 0 2048).1.2.2.1 = 823657 := by kernel_rfl
theorem aw2e : (fArcBall [0, 8192] 1000 0 2048).2 = 0 := by kernel_rfl
theorem aw3 : fEchoes [0, 8192] 1000 100 5 = ([100, 50, 25, 13, 7], 0) := by kernel_rfl
theorem aw4 : fMinors [[500, 400], [300, 200]] = ([500, 280000], 0) := by kernel_rfl

@[reducible] def sAwake : Spec := { pats := [], res := [{ t := .bool }], pre := fun _ => True, f := fun _ => (true, ()) }

/-- awake -/
theorem h16 : Ok 4 sAwake := by
  refine mk (ctr := [(12, sOne), (11, sValueAt), (13, sArcBall), (14, sEchoes), (15, sMinors), (16, sInts)]) ⟨h76, h22, h24, h33, h41, h37, trivial⟩ (nt := 67) Tryd.func4 rfl rfl rfl rfl (by kernel_rfl) (by kernel_rfl) (fun _ => []) ?_
  rintro _ _
  repeat' (intro hzz; (try (rename Two => hq; cases hq)); (try dsimp only at hzz); (try simp only [resTy, argTy, eqD, inR, big, wantOf, Bool.not_true, Bool.not_false, Bool.true_eq, decide_eq_true_eq, decide_eq_false_iff_not, Bool.not_eq_true', Bool.not_eq_false', Bool.and_eq_true, Prod.mk.injEq, and_true, true_and, Int.not_lt, Int.not_le, gt_iff_lt, ge_iff_le] at hzz); (try simp only [resTy, argTy, eqD, inR, big, wantOf, Bool.not_true, Bool.not_false, Bool.true_eq, decide_eq_true_eq, decide_eq_false_iff_not, Bool.not_eq_true', Bool.not_eq_false', Bool.and_eq_true, Prod.mk.injEq, and_true, true_and, Int.not_lt, Int.not_le, gt_iff_lt, ge_iff_le, aw1, aw2, aw2e, aw3, aw4, Ty.beq] at hzz); (try (revert hzz; intro _)))
  all_goals try (rename Unit => hq; clear hq)
  all_goals try ((with_reducible refine Held.mk ?_); (with_reducible (first | refine Frz.mk ?_ | refine And.intro (Frz.mk ?_) ?_ | refine And.intro ?_ (Frz.mk ?_))); repeat' first | exact True.intro | (change _ = _; with_reducible rfl) | refine And.intro ?_ ?_ | (with_reducible refine Frz.mk ?_))
  all_goals try (refine Held.mk ?_; (try dsimp only at *); (try simp only [resTy, argTy, eqD, inR, big, wantOf, Bool.not_true, Bool.not_false, Bool.true_eq, decide_eq_true_eq, decide_eq_false_iff_not, Bool.not_eq_true', Bool.not_eq_false', Bool.and_eq_true, Prod.mk.injEq, and_true, true_and, Int.not_lt, Int.not_le, gt_iff_lt, ge_iff_le] at *); (try simp only [resTy, argTy, eqD, inR, big, wantOf, Bool.not_true, Bool.not_false, Bool.true_eq, decide_eq_true_eq, decide_eq_false_iff_not, Bool.not_eq_true', Bool.not_eq_false', Bool.and_eq_true, Prod.mk.injEq, and_true, true_and, Int.not_lt, Int.not_le, gt_iff_lt, ge_iff_le, aw1, aw2, aw2e, aw3, aw4, Ty.beq] at *))
  · exact pLen2 (by decide)
  · exact pLen2 (by decide)
  all_goals (rename_i h; exfalso; simp at h)

end Go.Eng.Lp
