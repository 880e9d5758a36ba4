/- Contracts at the examples of the document. Conditions: each contract's own. -/
import Derived.Test.YtnficfhnfpbhkaaGreatDoorQ11
namespace Go.Eng.Pu
open Go.Eng Go.Proofs
set_option linter.all false
set_option maxRecDepth 100000
set_option maxHeartbeats 8000000

/-! ### The examples of the document, walked as they are -/

@[reducible] def xF4 : Xt := { fuel := 4 }
theorem xF4_ok : Its xF4.its := True.intro
@[reducible] def xF8 : Xt := { fuel := 8 }
theorem xF8_ok : Its xF8.its := True.intro

abbrev rawA : List (Nat × Nat × Unit) := [(1082130432, 0, ()), (3212836864, 1073741824, ())]
abbrev rawB : List (Nat × Nat × Unit) := [(3225419776, 3221225472, ()), (1084227584, 3221225472, ()), (3231711232, 1073741824, ())]
abbrev cA : List (Nat × Nat) := [(1082130432, 0), (3212836864, 1073741824)]
abbrev cB : List (Nat × Nat) := [(3225419776, 3221225472), (1084227584, 3221225472), (3231711232, 1073741824)]

@[reducible] def sListC : Spec := { pats := [.dat (.sl RawT)], res := [{ t := .sl C64 }], pre := fun x => x.1 = rawA ∨ x.1 = rawB, f := fun x => ((show List (Nat × Nat × Unit) from x.1).map (fun y => (y.1, y.2.1)), ()) }

/-- List, at the examples -/
theorem h30c : Ok 15 sListC := by
  refine mkX (X := xF4) (hX := xF4_ok) (ctr := []) trivial (nt := 26) Tryz.func15 rfl rfl rfl rfl (by kernel_rfl) (by kernel_rfl) (fun _ => []) ?_
  rintro ⟨x, ⟨⟩⟩ h
  rcases h with h | h
  · have h : x = rawA := h
    subst h
    (try (rename Two => hq; cases hq))
    repeat' (intro hzz; (try (rename Two => hq; cases hq)); (try (first | exact absurd hzz (by decide) | exact absurd hzz (by decide +kernel))); (try (revert hzz; intro _)))
    all_goals (try (rename Unit => hq; clear hq))
    all_goals (with_reducible refine Held.mk ?_)
    all_goals (repeat' first | exact True.intro | (with_reducible refine Frz.mk ?_) | refine And.intro ?_ ?_ | (change _ = _; kernel_rfl) | decide | decide +kernel)
  · have h : x = rawB := h
    subst h
    (try (rename Two => hq; cases hq))
    repeat' (intro hzz; (try (rename Two => hq; cases hq)); (try (first | exact absurd hzz (by decide) | exact absurd hzz (by decide +kernel))); (try (revert hzz; intro _)))
    all_goals (try (rename Unit => hq; clear hq))
    all_goals (with_reducible refine Held.mk ?_)
    all_goals (repeat' first | exact True.intro | (with_reducible refine Frz.mk ?_) | refine And.intro ?_ ?_ | (change _ = _; kernel_rfl) | decide | decide +kernel)

end Go.Eng.Pu
