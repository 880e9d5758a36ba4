/- Contracts at the examples of the document: what a register excites. Conditions: each contract's own. -/
import Derived.Test.YtnficfhnfpbhkaaGreatDoorQ12
namespace Go.Eng.Pu
open Go.Eng Go.Proofs
set_option linter.all false
set_option maxRecDepth 100000
set_option maxHeartbeats 8000000

instance (n : Nat) : Decidable (pLen n) := inferInstanceAs (Decidable ((n : Int) ≤ 4611686018427387904))
instance (L : Int) (xs : List Int) (s : Int) : Decidable (pSt L xs s) := inferInstanceAs (Decidable (_ ∧ _ ∧ _ ∧ _))
instance (x : Nat) : Decidable (pPart x) := inferInstanceAs (Decidable (_ ∧ _))

abbrev prs := List (Int × Int × Unit)
abbrev pA : prs := [(4, 0, ()), (-1, 2, ())]
abbrev pF : prs := [(4, 0, ()), (-1, 2, ()), (0, 0, ())]
abbrev pB : prs := [(-3, -2, ()), (5, -2, ()), (-5, 2, ())]
abbrev cF : List (Nat × Nat) := [(1082130432, 0), (3212836864, 1073741824), (0, 0)]
abbrev regT : Int × List Int × Unit := (2, [1, 2], ())

@[reducible] def sRecC : Spec := { pats := [.dat (.sl C64)], res := [{ t := .sl PairT }, { t := I64 }], pre := fun x => x.1 = cA, f := fun _ => (pA, 0, ()) }

/-- recorded, at the example -/
theorem h91c : Ok 36 sRecC := by
  refine mkX (X := xF4) (hX := xF4_ok) (ctr := [(59, sPart)]) ⟨h147, trivial⟩ (nt := 55) Tryz.func36 rfl rfl rfl rfl (by kernel_rfl) (by kernel_rfl) (fun _ => []) ?_
  rintro ⟨x, ⟨⟩⟩ h
  have h : x = cA := h
  subst h
  (try (rename Two => hq; cases hq))
  repeat' (intro hzz; (try (rename Two => hq; cases hq)); (try (first | exact absurd hzz (by decide) | exact absurd hzz (by decide +kernel))); (try (revert hzz; intro _)))
  all_goals (try (rename Unit => hq; clear hq))
  all_goals (with_reducible refine Held.mk ?_)
  all_goals (repeat' first | exact True.intro | (with_reducible refine Frz.mk ?_) | refine And.intro ?_ ?_ | (change _ = _; kernel_rfl) | decide | decide +kernel)

@[reducible] def sFoldC : Spec := { pats := [.dat (.sl PairT), .dat I64], res := [{ t := .sl PairT }], pre := fun x => x.1 = pA ∧ x.2.1 = (3 : Int), f := fun _ => (pF, ()) }

/-- folded, at the example -/
theorem h92c : Ok 37 sFoldC := by
  refine mkX (X := xF4) (hX := xF4_ok) (ctr := [(60, sPlus)]) ⟨h122, trivial⟩ (nt := 32) Tryz.func37 rfl rfl rfl rfl (by kernel_rfl) (by kernel_rfl) (fun _ => []) ?_
  rintro ⟨x, n, ⟨⟩⟩ ⟨h1, h2⟩
  have h1 : x = pA := h1
  have h2 : n = (3 : Int) := h2
  subst h1 h2
  (try (rename Two => hq; cases hq))
  repeat' (intro hzz; (try (rename Two => hq; cases hq)); (try (first | exact absurd hzz (by decide) | exact absurd hzz (by decide +kernel))); (try (revert hzz; intro _)))
  all_goals (try (rename Unit => hq; clear hq))
  all_goals (with_reducible refine Held.mk ?_)
  all_goals (repeat' first | exact True.intro | (with_reducible refine Frz.mk ?_) | refine And.intro ?_ ?_ | (change _ = _; kernel_rfl) | decide | decide +kernel)

@[reducible] def sToldC : Spec := { pats := [.dat (.sl PairT)], res := [{ t := .sl C64 }, { t := I64 }], pre := fun x => x.1 = pF ∨ x.1 = pB, f := fun x => ((show prs from x.1).map (fun p => (floatOfInt .f32 p.1, floatOfInt .f32 p.2.1)), 0, ()) }

/-- told, at the examples -/
theorem h93c : Ok 39 sToldC := by
  refine mkX (X := xF4) (hX := xF4_ok) (ctr := [(61, sFits), (62, sNumber)]) ⟨h137, h148, trivial⟩ (nt := 23) Tryz.func39 rfl rfl rfl rfl (by kernel_rfl) (by kernel_rfl) (fun _ => []) ?_
  rintro ⟨x, ⟨⟩⟩ h
  rcases h with h | h
  · have h : x = pF := h
    subst h
    (try (rename Two => hq; cases hq))
    repeat' (intro hzz; (try (rename Two => hq; cases hq)); (try (first | exact absurd hzz (by decide) | exact absurd hzz (by decide +kernel))); (try (revert hzz; intro _)))
    all_goals (try (rename Unit => hq; clear hq))
    all_goals (with_reducible refine Held.mk ?_)
    all_goals (repeat' first | exact True.intro | (with_reducible refine Frz.mk ?_) | refine And.intro ?_ ?_ | (change _ = _; kernel_rfl) | decide | decide +kernel)
  · have h : x = pB := h
    subst h
    (try (rename Two => hq; cases hq))
    repeat' (intro hzz; (try (rename Two => hq; cases hq)); (try (first | exact absurd hzz (by decide) | exact absurd hzz (by decide +kernel))); (try (revert hzz; intro _)))
    all_goals (try (rename Unit => hq; clear hq))
    all_goals (with_reducible refine Held.mk ?_)
    all_goals (repeat' first | exact True.intro | (with_reducible refine Frz.mk ?_) | refine And.intro ?_ ?_ | (change _ = _; kernel_rfl) | decide | decide +kernel)

@[reducible] def sSignC : Spec := { pats := [.dat Reg, .dat I64], res := [{ t := .sl I64 }], pre := fun x => x.1.1 = regT ∧ x.2.1 = (1 : Int), f := fun _ => (([-1, 1, -1] : List Int), ()) }

/-- register.signs, at the example -/
theorem h95c : Ok 40 sSignC := by
  refine mkX (X := xF4) (hX := xF4_ok) (ctr := [(38, sFull), (35, sBits)]) ⟨h94, h87, trivial⟩ (nt := 28) Tryz.func40 rfl rfl rfl rfl (by kernel_rfl) (by kernel_rfl) (fun _ => []) ?_
  rintro ⟨⟨x, ⟨⟩⟩, n, ⟨⟩⟩ ⟨h1, h2⟩
  have h1 : x = regT := h1
  have h2 : n = (1 : Int) := h2
  subst h1 h2
  (try (rename Two => hq; cases hq))
  repeat' (intro hzz; (try (rename Two => hq; cases hq)); (try (first | exact absurd hzz (by decide) | exact absurd hzz (by decide +kernel))); (try (revert hzz; intro _)))
  all_goals (try (rename Unit => hq; clear hq))
  all_goals (with_reducible refine Held.mk ?_)
  all_goals (repeat' first | exact True.intro | (with_reducible refine Frz.mk ?_) | refine And.intro ?_ ?_ | (change _ = _; kernel_rfl) | decide | decide +kernel)

@[reducible] def sTurnC : Spec := { pats := [.dat (.sl PairT), .dat (.sl I64), .dat I64, .dat I64], res := [{ t := PairT }], pre := fun x => x.1 = pF ∧ x.2.1 = ([-1, 1, -1] : List Int) ∧ (x.2.2.1 = (0 : Int) ∨ x.2.2.1 = (1 : Int) ∨ x.2.2.1 = (2 : Int)) ∧ x.2.2.2.1 = (1 : Int), f := fun x => (pB.getD (Int.toNat x.2.2.1) (0, 0, ()), ()) }

/-- turned, at the example -/
theorem h96c : Ok 41 sTurnC := by
  refine mkX (X := xF4) (hX := xF4_ok) (ctr := [(60, sPlus), (64, sMod), (63, sBy)]) ⟨h122, h109, h149, trivial⟩ (nt := 36) Tryz.func41 rfl rfl rfl rfl (by kernel_rfl) (by kernel_rfl) (fun _ => []) ?_
  rintro ⟨x, y, n, w, ⟨⟩⟩ ⟨h1, h2, h3, h4⟩
  have h1 : x = pF := h1
  have h2 : y = ([-1, 1, -1] : List Int) := h2
  have h4 : w = (1 : Int) := h4
  have h3 : n = (0 : Int) ∨ n = (1 : Int) ∨ n = (2 : Int) := h3
  subst h1 h2 h4
  rcases h3 with h3 | h3 | h3
  · subst h3
    (try (rename Two => hq; cases hq))
    repeat' (intro hzz; (try (rename Two => hq; cases hq)); (try (first | exact absurd hzz (by decide) | exact absurd hzz (by decide +kernel))); (try (revert hzz; intro _)))
    all_goals (try (rename Unit => hq; clear hq))
    all_goals (with_reducible refine Held.mk ?_)
    all_goals (repeat' first | exact True.intro | (with_reducible refine Frz.mk ?_) | refine And.intro ?_ ?_ | (change _ = _; kernel_rfl) | decide | decide +kernel)
  · subst h3
    (try (rename Two => hq; cases hq))
    repeat' (intro hzz; (try (rename Two => hq; cases hq)); (try (first | exact absurd hzz (by decide) | exact absurd hzz (by decide +kernel))); (try (revert hzz; intro _)))
    all_goals (try (rename Unit => hq; clear hq))
    all_goals (with_reducible refine Held.mk ?_)
    all_goals (repeat' first | exact True.intro | (with_reducible refine Frz.mk ?_) | refine And.intro ?_ ?_ | (change _ = _; kernel_rfl) | decide | decide +kernel)
  · subst h3
    (try (rename Two => hq; cases hq))
    repeat' (intro hzz; (try (rename Two => hq; cases hq)); (try (first | exact absurd hzz (by decide) | exact absurd hzz (by decide +kernel))); (try (revert hzz; intro _)))
    all_goals (try (rename Unit => hq; clear hq))
    all_goals (with_reducible refine Held.mk ?_)
    all_goals (repeat' first | exact True.intro | (with_reducible refine Frz.mk ?_) | refine And.intro ?_ ?_ | (change _ = _; kernel_rfl) | decide | decide +kernel)

@[reducible] def sExcC : Spec := { pats := [.dat (.sl C64), .dat Reg0, .dat I64], res := [{ t := .sl C64 }, { t := I64 }], pre := fun x => x.1 = cA ∧ x.2.1 = regT ∧ x.2.2.1 = (1 : Int), f := fun _ => (cB, 0, ()) }

/-- Excited, at the example -/
theorem h31c : Ok 14 sExcC := by
  refine mkX (X := xF4) (hX := xF4_ok) (ctr := [(36, sRecC), (31, sOpen), (38, sFull), (37, sFoldC), (39, sToldC), (40, sSignC), (41, sTurnC)]) ⟨h91c, h83, h94, h92c, h93c, h95c, h96c, trivial⟩ (nt := 66) Tryz.func14 rfl rfl rfl rfl (by kernel_rfl) (by kernel_rfl) (fun _ => []) ?_
  rintro ⟨x, y, n, ⟨⟩⟩ ⟨h1, h2, h3⟩
  have h1 : x = cA := h1
  have h2 : y = regT := h2
  have h3 : n = (1 : Int) := h3
  subst h1 h2 h3
  (try (rename Two => hq; cases hq))
  repeat' (intro hzz; (try (rename Two => hq; cases hq)); (try (first | exact absurd hzz (by decide) | exact absurd hzz (by decide +kernel))); (try (revert hzz; intro _)))
  all_goals (try (rename Unit => hq; clear hq))
  all_goals (with_reducible refine Held.mk ?_)
  all_goals (repeat' first | exact True.intro | (with_reducible refine Frz.mk ?_) | refine And.intro ?_ ?_ | (change _ = _; kernel_rfl) | decide | decide +kernel)

end Go.Eng.Pu
