/- Contracts: whether a register is maximal, the reference's. Conditions: each contract's own. -/
import Derived.Test.YtcoimlnplaidiaaQ10
import Derived.Test.YtcoimlnplaidiaaQ24
namespace Go.Eng.Pu
open Go.Eng Go.Proofs
set_option linter.all false
set_option maxRecDepth 100000
set_option maxHeartbeats 8000000

@[reducible] def sRIsMax : Spec := { pats := [.dat Reg0], res := [{ t := .bool }], pre := fun x => chk x.1.1 x.1.2.1 = 0 ∧ pLen (List.length (α := Int) x.1.2.1), f := fun x => (decide ((per x.1.1 x.1.2.1 1 : Int) = most x.1.1), ()) }

/-- ref.IsMaximal -/
theorem h64 : Ok 64 sRIsMax := by
  refine mk (ctr := [(24, sRPer), (68, sMost)]) ⟨h24, h68, trivial⟩ (nt := 8) Try.func64 rfl rfl rfl rfl (by kernel_rfl) (by kernel_rfl) (fun _ => []) ?_
  rintro ⟨⟨(L : Int), (xs : List Int), _⟩, _⟩ ⟨(hc : chk L xs = 0), (hl : pLen xs.length)⟩
  have h1 := one_pSt hc hl
  have h2 := (chk_zero hc).1
  repeat' (intro hzz; (try (rename Two => hq; cases hq)); (try dsimp only at hzz); (try simp only [resTy, argTy, eqD, inR, big, wantOf, Bool.not_true, Bool.not_false, Bool.true_eq, decide_eq_true_eq, decide_eq_false_iff_not, Bool.not_eq_true', Bool.not_eq_false', Bool.and_eq_true, Prod.mk.injEq, and_true, true_and, Int.not_lt, Int.not_le, gt_iff_lt, ge_iff_le] at hzz); (try (first | contradiction | (exfalso; omega))); (try (revert hzz; intro _)))
  all_goals try (rename Unit => hq; clear hq)
  all_goals try ((with_reducible refine Held.mk ?_); (with_reducible (first | refine Frz.mk ?_ | refine And.intro (Frz.mk ?_) ?_ | refine And.intro ?_ (Frz.mk ?_))); repeat' first | exact True.intro | (change _ = _; with_reducible rfl) | refine And.intro ?_ ?_ | (with_reducible refine Frz.mk ?_))
  all_goals try (refine Held.mk ?_; (try dsimp only at *); (try simp only [resTy, argTy, eqD, inR, big, wantOf, Bool.not_true, Bool.not_false, Bool.true_eq, decide_eq_true_eq, decide_eq_false_iff_not, Bool.not_eq_true', Bool.not_eq_false', Bool.and_eq_true, Prod.mk.injEq, and_true, true_and, Int.not_lt, Int.not_le, gt_iff_lt, ge_iff_le] at *))
  all_goals try omega

end Go.Eng.Pu
