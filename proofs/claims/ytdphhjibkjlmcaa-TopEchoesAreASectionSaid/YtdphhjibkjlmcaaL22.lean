/- Contracts of IsClear of the program and of the reference; the law LoopClear returns true. Conditions: none. -/
import Derived.Test.YtdphhjibkjlmcaaL21
namespace Go.Eng.Lp
open Go.Eng Go.Proofs
set_option linter.all false
set_option maxRecDepth 100000
set_option maxHeartbeats 8000000

def fClear (x y r : Int) : Bool := decide (((-1000000000000000 ≤ x ∧ x ≤ 1000000000000000) ∧ (-1000000000000000 ≤ y ∧ y ≤ 1000000000000000) ∧ (0 ≤ r ∧ r ≤ 1000000000000000)) ∧ (r < (y.natAbs : Int) ∨ x + r < 1048576))
@[reducible] def sClear : Spec := { pats := [.dat Ball], res := [{ t := .bool }], pre := fun _ => True, f := fun x => (fClear x.1.1 x.1.2.1 x.1.2.2.1, ()) }

/-- IsClear -/
theorem h31 : Ok 65 sClear := by
  refine mk (ctr := [(25, sSmall), (26, sWithin), (44, sSize)]) ⟨h83, h89, h90, trivial⟩ (nt := 33) Try.func65 rfl rfl rfl rfl (by kernel_rfl) (by kernel_rfl) (fun _ => []) ?_
  rintro ⟨⟨(x : Int), (y : Int), (r : Int), _⟩, _⟩ _
  repeat' (intro hzz; (try (rename Two => hq; cases hq)); (try dsimp only at hzz); (try simp only [resTy, argTy, eqD, inR, big, wantOf, Bool.not_true, Bool.not_false, Bool.true_eq, decide_eq_true_eq, decide_eq_false_iff_not, Bool.not_eq_true', Bool.not_eq_false', Bool.and_eq_true, Prod.mk.injEq, and_true, true_and, Int.not_lt, Int.not_le, gt_iff_lt, ge_iff_le] at hzz); (try simp only [resTy, argTy, eqD, inR, big, wantOf, Bool.not_true, Bool.not_false, Bool.true_eq, decide_eq_true_eq, decide_eq_false_iff_not, Bool.not_eq_true', Bool.not_eq_false', Bool.and_eq_true, Prod.mk.injEq, and_true, true_and, Int.not_lt, Int.not_le, gt_iff_lt, ge_iff_le, pSmall, fWithin, pSize, fSize, fClear] at hzz); (try (revert hzz; intro _)))
  all_goals try (rename Unit => hq; clear hq)
  all_goals try ((with_reducible refine Held.mk ?_); (with_reducible (first | refine Frz.mk ?_ | refine And.intro (Frz.mk ?_) ?_ | refine And.intro ?_ (Frz.mk ?_))); repeat' first | exact True.intro | (change _ = _; with_reducible rfl) | refine And.intro ?_ ?_ | (with_reducible refine Frz.mk ?_))
  all_goals try (refine Held.mk ?_; (try dsimp only at *); (try simp only [resTy, argTy, eqD, inR, big, wantOf, Bool.not_true, Bool.not_false, Bool.true_eq, decide_eq_true_eq, decide_eq_false_iff_not, Bool.not_eq_true', Bool.not_eq_false', Bool.and_eq_true, Prod.mk.injEq, and_true, true_and, Int.not_lt, Int.not_le, gt_iff_lt, ge_iff_le] at *); (try simp only [resTy, argTy, eqD, inR, big, wantOf, Bool.not_true, Bool.not_false, Bool.true_eq, decide_eq_true_eq, decide_eq_false_iff_not, Bool.not_eq_true', Bool.not_eq_false', Bool.and_eq_true, Prod.mk.injEq, and_true, true_and, Int.not_lt, Int.not_le, gt_iff_lt, ge_iff_le, pSmall, fWithin, pSize, fSize, fClear] at *))
  all_goals try omega
  all_goals first
    | (symm; simp only [decide_eq_true_eq]; omega)
    | (symm; simp only [decide_eq_false_iff_not]; omega)
    | (simp only [decide_eq_decide]; omega)
    | trace_state

@[reducible] def sLoopClear : Spec := { pats := [.dat Ball], res := [{ t := .bool }], pre := fun _ => True, f := fun _ => (true, ()) }

end Go.Eng.Lp
