/- Contracts: quotients rounded down. Conditions: each contract's own. -/
import Derived.Test.YtcoimlnplaidiaaQ2
namespace Go.Eng.Pu
open Go.Eng Go.Proofs
set_option linter.all false
set_option maxRecDepth 100000
set_option maxHeartbeats 8000000

@[reducible] def sFloor : Spec := { pats := [.dat I64, .dat I64], res := [{ t := I64 }], pre := fun x => 0 < x.2.1 ∧ -9000000000000000000 ≤ x.1 ∧ x.1 ≤ (9000000000000000000 : Int), f := fun x => (x.1 / x.2.1, ()) }

/-- base.Floor -/
theorem h124 : Ok 124 sFloor := by
  refine mk (ctr := []) trivial (nt := 16) Try.func124 rfl rfl rfl rfl (by kernel_rfl) (by kernel_rfl) (fun _ => []) ?_
  rintro ⟨(n : Int), (b : Int), _⟩ ⟨(h1 : 0 < b), (h2 : -9000000000000000000 ≤ n), (h3 : n ≤ 9000000000000000000)⟩
  repeat' (intro hzz; (try (rename Two => hq; cases hq)); (try dsimp only at hzz); (try simp only [resTy, argTy, eqD, inR, big, wantOf, Bool.not_true, Bool.not_false, Bool.true_eq, decide_eq_true_eq, decide_eq_false_iff_not, Bool.not_eq_true', Bool.not_eq_false', Bool.and_eq_true, Prod.mk.injEq, and_true, true_and, Int.not_lt, Int.not_le, gt_iff_lt, ge_iff_le] at hzz); (try (revert hzz; intro _)))
  all_goals try (rename Unit => hq; clear hq)
  all_goals try ((with_reducible refine Held.mk ?_); (with_reducible (first | refine Frz.mk ?_ | refine And.intro (Frz.mk ?_) ?_ | refine And.intro ?_ (Frz.mk ?_))); repeat' first | exact True.intro | (change _ = _; with_reducible rfl) | refine And.intro ?_ ?_ | (with_reducible refine Frz.mk ?_))
  all_goals try (refine Held.mk ?_; (try dsimp only at *); (try simp only [resTy, argTy, eqD, inR, big, wantOf, Bool.not_true, Bool.not_false, Bool.true_eq, decide_eq_true_eq, decide_eq_false_iff_not, Bool.not_eq_true', Bool.not_eq_false', Bool.and_eq_true, Prod.mk.injEq, and_true, true_and, Int.not_lt, Int.not_le, gt_iff_lt, ge_iff_le] at *))
  all_goals have hd := tdiv_in (b := b) h2 h3
  · omega
  · omega
  · omega
  · rename_i h; exact tdiv_neg h1 h
  · rename_i h; exact tdiv_pos h1 h

end Go.Eng.Pu
