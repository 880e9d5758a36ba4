/- Contracts: a start, copied; what is unfolded by transforms. Conditions: each contract's own. -/
import Derived.Test.YtcoimlnplaidiaaQ55
namespace Go.Eng.Pu
open Go.Eng Go.Proofs
set_option linter.all false
set_option maxRecDepth 100000
set_option maxHeartbeats 8000000

@[reducible] def sStartL : Spec := { pats := [.dat StartT'], res := [{ t := StartT' }], pre := fun x => pLen (List.length (α := Int) x.1.1.2.1) ∧ List.length (α := Int) x.1.1.2.1 ≤ 2000000000, f := fun x => (x.1, ()) }

/-- start -/
theorem h70 : Ok 70 sStartL := by
  refine mk (ctr := [(19, sCopy)]) ⟨h19, trivial⟩ (nt := 8) Try.func70 rfl rfl rfl rfl (by kernel_rfl) (by kernel_rfl) (fun _ => []) ?_
  rintro ⟨⟨⟨(L : Int), (ts : List Int), _⟩, (s : Int), _⟩, _⟩ ⟨(h1 : pLen ts.length), (h2 : ts.length ≤ 2000000000)⟩
  repeat' (intro hzz; (try (rename Two => hq; cases hq)); (try dsimp only at hzz); (try simp only [resTy, argTy, eqD, inR, big, wantOf, Bool.not_true, Bool.not_false, Bool.true_eq, decide_eq_true_eq, decide_eq_false_iff_not, Bool.not_eq_true', Bool.not_eq_false', Bool.and_eq_true, Prod.mk.injEq, and_true, true_and, Int.not_lt, Int.not_le, gt_iff_lt, ge_iff_le] at hzz); (try (first | contradiction | (exfalso; omega))); (try (revert hzz; intro _)))
  all_goals try (rename Unit => hq; clear hq)
  all_goals try ((with_reducible refine Held.mk ?_); (with_reducible (first | refine Frz.mk ?_ | refine And.intro (Frz.mk ?_) ?_ | refine And.intro ?_ (Frz.mk ?_))); repeat' first | exact True.intro | (change _ = _; with_reducible rfl) | refine And.intro ?_ ?_ | (with_reducible refine Frz.mk ?_))
  all_goals try (refine Held.mk ?_; (try dsimp only at *); (try simp only [resTy, argTy, eqD, inR, big, wantOf, Bool.not_true, Bool.not_false, Bool.true_eq, decide_eq_true_eq, decide_eq_false_iff_not, Bool.not_eq_true', Bool.not_eq_false', Bool.and_eq_true, Prod.mk.injEq, and_true, true_and, Int.not_lt, Int.not_le, gt_iff_lt, ge_iff_le] at *))
  all_goals try omega
  exact ⟨h1, h2⟩

theorem uwR_ok (xs : CL) (L : Int) (ts : List Int) (s p w n : Int) : okC (uwR xs L ts s p w n) := by
  unfold uwR
  repeat' split
  all_goals first | exact tL_ok _ | exact okC_nil

theorem uwR_len (xs : CL) (L : Int) (ts : List Int) (s p w n : Int) : (uwR xs L ts s p w n).length ≤ 1024 := by
  unfold uwR
  split
  · rename_i h
    repeat' split
    all_goals first | exact Nat.zero_le _ | skip
    have a := tL_len (uwL p w n (lP xs) (sgL L ts s))
    have b : (uwL p w n (lP xs) (sgL L ts s)).length = (lP xs).length := tab_len _ _
    have c := lP_len h
    have d := (lE_ok h).2.1
    omega
  · exact Nat.zero_le _

end Go.Eng.Pu
