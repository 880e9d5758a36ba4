/- Contracts at the examples of the document: equal samples, the first maximal register, a transform. Conditions: each contract's own. -/
import Derived.Test.YtnficfhnfpbhkaaGreatDoorQ13
import Derived.Test.YtnficfhnfpbhkaaGreatDoorQ14
namespace Go.Eng.Pu
open Go.Eng Go.Proofs
set_option linter.all false
set_option maxRecDepth 100000
set_option maxHeartbeats 8000000

def fSame (a b : Nat × Nat) : Bool := decide (a.1 = b.1) && decide (a.2 = b.2)
@[reducible] def sSame : Spec := { pats := [.dat C128, .dat C128], res := [{ t := .bool }], pre := fun _ => True, f := fun x => (fSame x.1 x.2.1, ()) }

theorem cast_eq {a b : Nat} : ((a : Int) = (b : Int)) ↔ a = b := Int.ofNat_inj

/-- base.SameBits -/
theorem h101 : Ok 46 sSame := by
  refine mk (ctr := []) trivial (nt := 21) Tryz.func46 rfl rfl rfl rfl (by kernel_rfl) (by kernel_rfl) (fun _ => []) ?_
  rintro ⟨⟨a, b⟩, ⟨c, d⟩, _⟩ _
  repeat' (intro hzz; (try (rename Two => hq; cases hq)); (try dsimp only at hzz); (try simp only [resTy, argTy, eqD, inR, big, wantOf, Bool.not_true, Bool.not_false, Bool.true_eq, decide_eq_true_eq, decide_eq_false_iff_not, Bool.not_eq_true', Bool.not_eq_false', Bool.and_eq_true, Prod.mk.injEq, and_true, true_and, Int.not_lt, Int.not_le, gt_iff_lt, ge_iff_le] at hzz); (try (revert hzz; intro _)))
  all_goals try (rename Unit => hq; clear hq)
  all_goals try ((with_reducible refine Held.mk ?_); (with_reducible (first | refine Frz.mk ?_ | refine And.intro (Frz.mk ?_) ?_ | refine And.intro ?_ (Frz.mk ?_))); repeat' first | exact True.intro | (change _ = _; with_reducible rfl) | refine And.intro ?_ ?_ | (with_reducible refine Frz.mk ?_))
  all_goals try (refine Held.mk ?_; (try dsimp only at *); (try simp only [resTy, argTy, eqD, inR, big, wantOf, Bool.not_true, Bool.not_false, Bool.true_eq, decide_eq_true_eq, decide_eq_false_iff_not, Bool.not_eq_true', Bool.not_eq_false', Bool.and_eq_true, Prod.mk.injEq, and_true, true_and, Int.not_lt, Int.not_le, gt_iff_lt, ge_iff_le] at *))
  · rename_i h
    have h : a = c := Int.ofNat_inj.1 h
    show decide ((b : Int) = (d : Int)) = fSame (a, b) (c, d)
    subst h
    by_cases hb : b = d <;> simp [fSame, hb, Int.ofNat_inj]
  · rename_i h
    have h : ¬ a = c := fun e => h (by rw [e])
    show false = fSame (a, b) (c, d)
    simp [fSame, h]

@[reducible] def sSamesC : Spec := { pats := [.dat (.sl C64), .dat (.sl C64)], res := [{ t := .bool }], pre := fun x => x.1 = cB ∧ x.2.1 = cB, f := fun _ => (true, ()) }

/-- base.SameSamples, at the example -/
theorem h34c : Ok 19 sSamesC := by
  refine mkX (X := xF4) (hX := xF4_ok) (ctr := [(46, sSame)]) ⟨h101, trivial⟩ (nt := 29) Tryz.func19 rfl rfl rfl rfl (by kernel_rfl) (by kernel_rfl) (fun _ => []) ?_
  rintro ⟨x, y, ⟨⟩⟩ ⟨h1, h2⟩
  have h1 : x = cB := h1
  have h2 : y = cB := h2
  subst h1 h2
  (try (rename Two => hq; cases hq))
  repeat' (intro hzz; (try (rename Two => hq; cases hq)); (try (first | exact absurd hzz (by decide) | exact absurd hzz (by decide +kernel))); (try (revert hzz; intro _)))
  all_goals (try (rename Unit => hq; clear hq))
  all_goals (with_reducible refine Held.mk ?_)
  all_goals (repeat' first | exact True.intro | (with_reducible refine Frz.mk ?_) | refine And.intro ?_ ?_ | (change _ = _; kernel_rfl) | decide | decide +kernel)

@[reducible] def sCloneS : Spec := { pats := [.dat (.sl I64)], res := [{ own := some 3, t := .sl I64 }], pre := fun x => 0 < List.length (α := Int) x.1 ∧ List.length (α := Int) x.1 ≤ 2000000000, f := fun x => (x.1, ()) }

/-- slices.Clone, of a list that is not empty -/
theorem h158s : Ok 65 sCloneS := by
  refine mk (ctr := []) trivial (nt := 8) Tryz.func65 rfl rfl rfl rfl (by kernel_rfl) (by kernel_rfl) (fun _ => []) ?_
  rintro ⟨(xs : List Int), _⟩ ⟨(h0 : 0 < xs.length), (h : xs.length ≤ 2000000000)⟩
  repeat' (intro hzz; (try (rename Two => hq; cases hq)); (try dsimp only at hzz); (try simp only [resTy, argTy, eqD, inR, big, wantOf, Bool.not_true, Bool.not_false, Bool.true_eq, decide_eq_true_eq, decide_eq_false_iff_not, Bool.not_eq_true', Bool.not_eq_false', Bool.and_eq_true, Prod.mk.injEq, and_true, true_and, Int.not_lt, Int.not_le, gt_iff_lt, ge_iff_le] at hzz); (try (revert hzz; intro _)))
  all_goals try (rename Unit => hq; clear hq)
  all_goals try ((with_reducible refine Held.mk ?_); (with_reducible (first | refine Frz.mk ?_ | refine And.intro (Frz.mk ?_) ?_ | refine And.intro ?_ (Frz.mk ?_))); repeat' first | exact True.intro | (change _ = _; with_reducible rfl) | refine And.intro ?_ ?_ | (with_reducible refine Frz.mk ?_))
  all_goals try (refine Held.mk ?_; (try dsimp only at *); (try simp only [resTy, argTy, eqD, inR, big, wantOf, Bool.not_true, Bool.not_false, Bool.true_eq, decide_eq_true_eq, decide_eq_false_iff_not, Bool.not_eq_true', Bool.not_eq_false', Bool.and_eq_true, Prod.mk.injEq, and_true, true_and, Int.not_lt, Int.not_le, gt_iff_lt, ge_iff_le] at *))
  all_goals first | exact h0 | exact List.nil_append _ | (show ([] : List Int).length + xs.length ≤ 2147483648; simp; omega)

@[reducible] def sCloneN : Spec := { pats := [.dat (.osl I64)], res := [{ own := some 3, t := .sl I64 }], pre := fun x => x.1 = none, f := fun x => ([], ()) }

/-- slices.Clone, of nil -/
theorem h158n : Ok 65 sCloneN := by
  refine mk (ctr := []) trivial (nt := 8) Tryz.func65 rfl rfl rfl rfl (by kernel_rfl) (by kernel_rfl) (fun _ => []) ?_
  rintro ⟨x, ⟨⟩⟩ h
  have h : x = none := h
  subst h
  (try (rename Two => hq; cases hq))
  repeat' (intro hzz; (try (rename Two => hq; cases hq)); (try (first | exact absurd hzz (by decide) | exact absurd hzz (by decide +kernel))); (try (revert hzz; intro _)))
  all_goals (try (rename Unit => hq; clear hq))
  all_goals (with_reducible refine Held.mk ?_)
  all_goals (repeat' first | exact True.intro | (with_reducible refine Frz.mk ?_) | refine And.intro ?_ ?_ | (change _ = _; kernel_rfl) | decide | decide +kernel)

@[reducible] def sFM2 : Spec := { pats := [.dat I64, .dat (.sl I64)], res := [{ t := .osl I64 }], pre := fun x => x.1 = (3 : Int) ∧ x.2.1 = ([1, 2] : List Int), f := fun _ => (none, ()) }
@[reducible] def sFM1 : Spec := { pats := [.dat I64, .dat (.sl I64)], res := [{ t := .osl I64 }], pre := fun x => x.1 = (3 : Int) ∧ x.2.1 = ([1] : List Int), f := fun _ => (some ([1, 3] : List Int), ()) }
@[reducible] def sFM0 : Spec := { pats := [.dat I64, .dat (.osl I64)], res := [{ t := .osl I64 }], pre := fun x => x.1 = (3 : Int) ∧ x.2.1 = none, f := fun _ => (some ([1, 3] : List Int), ()) }

/-- firstMaximal, three deep -/
theorem h130b : Ok 42 sFM2 := by
  refine mkX (X := xF4) (hX := xF4_ok) (ctr := [(65, sCloneS), (55, sMax), (66, sIsMax)]) ⟨h158s, h89, h121, trivial⟩ (nt := 37) Tryz.func42 rfl rfl rfl rfl (by kernel_rfl) (by kernel_rfl) (fun _ => []) ?_
  rintro ⟨n, x, ⟨⟩⟩ ⟨h1, h2⟩
  have h1 : n = (3 : Int) := h1
  have h2 : x = ([1, 2] : List Int) := h2
  subst h1 h2
  (try (rename Two => hq; cases hq))
  repeat' (intro hzz; (try (rename Two => hq; cases hq)); (try (first | exact absurd hzz (by decide) | exact absurd hzz (by decide +kernel))); (try (revert hzz; intro _)))
  all_goals (try (rename Unit => hq; clear hq))
  all_goals (with_reducible refine Held.mk ?_)
  all_goals (repeat' first | exact True.intro | (with_reducible refine Frz.mk ?_) | refine And.intro ?_ ?_ | (change _ = _; kernel_rfl) | decide | decide +kernel)

/-- firstMaximal, two deep -/
theorem h130a : Ok 42 sFM1 := by
  refine mkX (X := xF4) (hX := xF4_ok) (ctr := [(65, sCloneS), (55, sMax), (66, sIsMax), (42, sFM2)]) ⟨h158s, h89, h121, h130b, trivial⟩ (nt := 37) Tryz.func42 rfl rfl rfl rfl (by kernel_rfl) (by kernel_rfl) (fun _ => []) ?_
  rintro ⟨n, x, ⟨⟩⟩ ⟨h1, h2⟩
  have h1 : n = (3 : Int) := h1
  have h2 : x = ([1] : List Int) := h2
  subst h1 h2
  (try (rename Two => hq; cases hq))
  repeat' (intro hzz; (try (rename Two => hq; cases hq)); (try (first | exact absurd hzz (by decide) | exact absurd hzz (by decide +kernel))); (try (revert hzz; intro _)))
  all_goals (try (rename Unit => hq; clear hq))
  all_goals (with_reducible refine Held.mk ?_)
  all_goals (repeat' first | exact True.intro | (with_reducible refine Frz.mk ?_) | refine And.intro ?_ ?_ | (change _ = _; kernel_rfl) | decide | decide +kernel)

/-- firstMaximal, of no taps -/
theorem h130o : Ok 42 sFM0 := by
  refine mkX (X := xF4) (hX := xF4_ok) (ctr := [(65, sCloneN), (55, sMax), (66, sIsMax), (42, sFM1)]) ⟨h158n, h89, h121, h130a, trivial⟩ (nt := 37) Tryz.func42 rfl rfl rfl rfl (by kernel_rfl) (by kernel_rfl) (fun _ => []) ?_
  rintro ⟨n, x, ⟨⟩⟩ ⟨h1, h2⟩
  have h1 : n = (3 : Int) := h1
  have h2 : x = none := h2
  subst h1 h2
  (try (rename Two => hq; cases hq))
  repeat' (intro hzz; (try (rename Two => hq; cases hq)); (try (first | exact absurd hzz (by decide) | exact absurd hzz (by decide +kernel))); (try (revert hzz; intro _)))
  all_goals (try (rename Unit => hq; clear hq))
  all_goals (with_reducible refine Held.mk ?_)
  all_goals (repeat' first | exact True.intro | (with_reducible refine Frz.mk ?_) | refine And.intro ?_ ?_ | (change _ = _; kernel_rfl) | decide | decide +kernel)

@[reducible] def sPrC : Spec := { pats := [.dat I64], res := [{ t := .sl I64 }], pre := fun x => x.1 = (7 : Int) ∨ x.1 = (3 : Int), f := fun x => ([x.1], ()) }

/-- primesOf, at the examples -/
theorem h129c : Ok 43 sPrC := by
  refine mkX (X := xF4) (hX := xF4_ok) (ctr := []) trivial (nt := 34) Tryz.func43 rfl rfl rfl rfl (by kernel_rfl) (by kernel_rfl) (fun _ => []) ?_
  rintro ⟨n, ⟨⟩⟩ h
  have h : n = (7 : Int) ∨ n = (3 : Int) := h
  rcases h with h | h
  · subst h
    (try (rename Two => hq; cases hq))
    repeat' (intro hzz; (try (rename Two => hq; cases hq)); (try (first | exact absurd hzz (by decide) | exact absurd hzz (by decide +kernel))); (try (revert hzz; intro _)))
    all_goals (try (rename Unit => hq; clear hq))
    all_goals (with_reducible refine Held.mk ?_)
    all_goals (repeat' first | exact True.intro | (with_reducible refine Frz.mk ?_) | refine And.intro ?_ ?_ | (change _ = _; kernel_rfl) | decide | decide +kernel)
  · subst h
    (try (rename Two => hq; cases hq))
    repeat' (intro hzz; (try (rename Two => hq; cases hq)); (try (first | exact absurd hzz (by decide) | exact absurd hzz (by decide +kernel))); (try (revert hzz; intro _)))
    all_goals (try (rename Unit => hq; clear hq))
    all_goals (with_reducible refine Held.mk ?_)
    all_goals (repeat' first | exact True.intro | (with_reducible refine Frz.mk ?_) | refine And.intro ?_ ?_ | (change _ = _; kernel_rfl) | decide | decide +kernel)

@[reducible] def sFirstC : Spec := { pats := [.dat I64], res := [{ t := Reg0 }, { t := .sl I64 }, { t := I64 }], pre := fun x => x.1 = (3 : Int), f := fun _ => (((3 : Int), ([1, 3] : List Int), ()), ([7] : List Int), (0 : Int), ()) }

/-- FirstMaximal, at the example -/
theorem h62c : Ok 16 sFirstC := by
  refine mkX (X := xF4) (hX := xF4_ok) (ctr := [(34, sWithin), (42, sFM0), (38, sFull), (43, sPrC)]) ⟨h86, h130o, h94, h129c, trivial⟩ (nt := 19) Tryz.func16 rfl rfl rfl rfl (by kernel_rfl) (by kernel_rfl) (fun _ => []) ?_
  rintro ⟨n, ⟨⟩⟩ h
  have h : n = (3 : Int) := h
  subst h
  (try (rename Two => hq; cases hq))
  repeat' (intro hzz; (try (rename Two => hq; cases hq)); (try (first | exact absurd hzz (by decide) | exact absurd hzz (by decide +kernel))); (try (revert hzz; intro _)))
  all_goals (try (rename Unit => hq; clear hq))
  all_goals (with_reducible refine Held.mk ?_)
  all_goals (repeat' first | exact True.intro | (with_reducible refine Frz.mk ?_) | refine And.intro ?_ ?_ | (change _ = _; kernel_rfl) | decide | decide +kernel)

abbrev fldT : (Int × Int × Int × Unit) × Unit := ((7, 2, 3, ()), ())

@[reducible] def sPowC : Spec := { pats := [.dat Fld, .dat I64, .dat I64], res := [{ t := I64 }], pre := fun x => x.1 = fldT ∧ x.2.1 = (2 : Int) ∧ (x.2.2.1 = (1 : Int) ∨ x.2.2.1 = (3 : Int)), f := fun x => ((if x.2.2.1 = (1 : Int) then (2 : Int) else 1), ()) }

/-- power, at the examples -/
theorem h111c : Ok 106 sPowC := by
  refine mkX (X := xF4) (hX := xF4_ok) (ctr := [(64, sMod)]) ⟨h109, trivial⟩ (nt := 39) Tryz.func106 rfl rfl rfl rfl (by kernel_rfl) (by kernel_rfl) (fun _ => []) ?_
  rintro ⟨x, m, n, ⟨⟩⟩ ⟨h1, h2, h3⟩
  have h1 : x = fldT := h1
  have h2 : m = (2 : Int) := h2
  have h3 : n = (1 : Int) ∨ n = (3 : Int) := h3
  subst h1 h2
  rcases h3 with h | h
  · subst h
    (try (rename Two => hq; cases hq))
    repeat' (intro hzz; (try (rename Two => hq; cases hq)); (try (first | exact absurd hzz (by decide) | exact absurd hzz (by decide +kernel))); (try (revert hzz; intro _)))
    all_goals (try (rename Unit => hq; clear hq))
    all_goals (with_reducible refine Held.mk ?_)
    all_goals (repeat' first | exact True.intro | (with_reducible refine Frz.mk ?_) | refine And.intro ?_ ?_ | (change _ = _; kernel_rfl) | decide | decide +kernel)
  · subst h
    (try (rename Two => hq; cases hq))
    repeat' (intro hzz; (try (rename Two => hq; cases hq)); (try (first | exact absurd hzz (by decide) | exact absurd hzz (by decide +kernel))); (try (revert hzz; intro _)))
    all_goals (try (rename Unit => hq; clear hq))
    all_goals (with_reducible refine Held.mk ?_)
    all_goals (repeat' first | exact True.intro | (with_reducible refine Frz.mk ?_) | refine And.intro ?_ ?_ | (change _ = _; kernel_rfl) | decide | decide +kernel)

@[reducible] def sRootC : Spec := { pats := [.dat Fld], res := [{ t := .bool }], pre := fun x => x.1 = fldT, f := fun _ => (true, ()) }

/-- isRoot, at the example -/
theorem h112c : Ok 93 sRootC := by
  refine mkX (X := xF4) (hX := xF4_ok) (ctr := [(43, sPrC), (106, sPowC)]) ⟨h129c, h111c, trivial⟩ (nt := 35) Tryz.func93 rfl rfl rfl rfl (by kernel_rfl) (by kernel_rfl) (fun _ => []) ?_
  rintro ⟨x, ⟨⟩⟩ h
  have h : x = fldT := h
  subst h
  (try (rename Two => hq; cases hq))
  repeat' (intro hzz; (try (rename Two => hq; cases hq)); (try (first | exact absurd hzz (by decide) | exact absurd hzz (by decide +kernel))); (try (revert hzz; intro _)))
  all_goals (try (rename Unit => hq; clear hq))
  all_goals (with_reducible refine Held.mk ?_)
  all_goals (repeat' first | exact True.intro | (with_reducible refine Frz.mk ?_) | refine And.intro ?_ ?_ | (change _ = _; kernel_rfl) | decide | decide +kernel)

@[reducible] def sPrimeC : Spec := { pats := [.dat I64], res := [{ t := .bool }], pre := fun x => x.1 = (7 : Int), f := fun _ => (true, ()) }

/-- isPrime, at the example -/
theorem h110c : Ok 92 sPrimeC := by
  refine mkX (X := xF4) (hX := xF4_ok) (ctr := []) trivial (nt := 17) Tryz.func92 rfl rfl rfl rfl (by kernel_rfl) (by kernel_rfl) (fun _ => []) ?_
  rintro ⟨x, ⟨⟩⟩ h
  have h : x = (7 : Int) := h
  subst h
  (try (rename Two => hq; cases hq))
  repeat' (intro hzz; (try (rename Two => hq; cases hq)); (try (first | exact absurd hzz (by decide) | exact absurd hzz (by decide +kernel))); (try (revert hzz; intro _)))
  all_goals (try (rename Unit => hq; clear hq))
  all_goals (with_reducible refine Held.mk ?_)
  all_goals (repeat' first | exact True.intro | (with_reducible refine Frz.mk ?_) | refine And.intro ?_ ?_ | (change _ = _; kernel_rfl) | decide | decide +kernel)

abbrev fPeriod (n : Int) : Bool := fWithin n 1 1024
@[reducible] def sPeriod : Spec := { pats := [.dat I64], res := [{ t := .bool }], pre := fun _ => True, f := fun x => (fPeriod x.1, ()) }

/-- isPeriod -/
theorem h108 : Ok 91 sPeriod := by
  refine mk (ctr := [(34, sWithin)]) ⟨h86, trivial⟩ (nt := 5) Tryz.func91 rfl rfl rfl rfl (by kernel_rfl) (by kernel_rfl) (fun _ => []) ?_
  rintro ⟨(n : Int), _⟩ _
  repeat' (intro hzz; (try (rename Two => hq; cases hq)); (try dsimp only at hzz); (try simp only [resTy, argTy, eqD, inR, big, wantOf, Bool.not_true, Bool.not_false, Bool.true_eq, decide_eq_true_eq, decide_eq_false_iff_not, Bool.not_eq_true', Bool.not_eq_false', Bool.and_eq_true, Prod.mk.injEq, and_true, true_and, Int.not_lt, Int.not_le, gt_iff_lt, ge_iff_le] at hzz); (try (revert hzz; intro _)))
  all_goals try (rename Unit => hq; clear hq)
  all_goals try ((with_reducible refine Held.mk ?_); (with_reducible (first | refine Frz.mk ?_ | refine And.intro (Frz.mk ?_) ?_ | refine And.intro ?_ (Frz.mk ?_))); repeat' first | exact True.intro | (change _ = _; with_reducible rfl) | refine And.intro ?_ ?_ | (with_reducible refine Frz.mk ?_))
  all_goals try (refine Held.mk ?_; (try dsimp only at *); (try simp only [resTy, argTy, eqD, inR, big, wantOf, Bool.not_true, Bool.not_false, Bool.true_eq, decide_eq_true_eq, decide_eq_false_iff_not, Bool.not_eq_true', Bool.not_eq_false', Bool.and_eq_true, Prod.mk.injEq, and_true, true_and, Int.not_lt, Int.not_le, gt_iff_lt, ge_iff_le] at *))

@[reducible] def sCFldC : Spec := { pats := [.dat Fld0], res := [{ t := I64 }], pre := fun x => x.1 = fldT.1, f := fun _ => ((0 : Int), ()) }

/-- CheckField, at the example -/
theorem h45c : Ok 70 sCFldC := by
  refine mkX (X := xF4) (hX := xF4_ok) (ctr := [(34, sWithin), (91, sPeriod), (92, sPrimeC), (33, sUnless), (93, sRootC)]) ⟨h86, h108, h110c, h85, h112c, trivial⟩ (nt := 40) Tryz.func70 rfl rfl rfl rfl (by kernel_rfl) (by kernel_rfl) (fun _ => []) ?_
  rintro ⟨x, ⟨⟩⟩ h
  have h : x = fldT.1 := h
  subst h
  (try (rename Two => hq; cases hq))
  repeat' (intro hzz; (try (rename Two => hq; cases hq)); (try (first | exact absurd hzz (by decide) | exact absurd hzz (by decide +kernel))); (try (revert hzz; intro _)))
  all_goals (try (rename Unit => hq; clear hq))
  all_goals (with_reducible refine Held.mk ?_)
  all_goals (repeat' first | exact True.intro | (with_reducible refine Frz.mk ?_) | refine And.intro ?_ ?_ | (change _ = _; kernel_rfl) | decide | decide +kernel)

@[reducible] def sOFldC : Spec := { pats := [.dat (.sl I64), .dat Fld0], res := [{ t := Fld }, { t := I64 }], pre := fun x => x.1 = ([0, 1, 0] : List Int) ∧ x.2.1 = fldT.1, f := fun _ => (fldT, (0 : Int), ()) }

/-- openField, at the example -/
theorem h102c : Ok 44 sOFldC := by
  refine mkX (X := xF4) (hX := xF4_ok) (ctr := [(67, sAllP), (33, sUnless), (70, sCFldC), (32, sFirst)]) ⟨h116P, h85, h45c, h84, trivial⟩ (nt := 27) Tryz.func44 rfl rfl rfl rfl (by kernel_rfl) (by kernel_rfl) (fun _ => []) ?_
  rintro ⟨x, y, ⟨⟩⟩ ⟨h1, h2⟩
  have h1 : x = ([0, 1, 0] : List Int) := h1
  have h2 : y = fldT.1 := h2
  subst h1 h2
  (try (rename Two => hq; cases hq))
  repeat' (intro hzz; (try (rename Two => hq; cases hq)); (try (first | exact absurd hzz (by decide) | exact absurd hzz (by decide +kernel))); (try (revert hzz; intro _)))
  all_goals (try (rename Unit => hq; clear hq))
  all_goals (with_reducible refine Held.mk ?_)
  all_goals (repeat' first | exact True.intro | (with_reducible refine Frz.mk ?_) | refine And.intro ?_ ?_ | (change _ = _; kernel_rfl) | decide | decide +kernel)

@[reducible] def sSumsC : Spec := { pats := [.dat Fld, .dat (.sl I64), .dat I64], res := [{ t := .sl I64 }], pre := fun x => x.1 = fldT ∧ x.2.1 = ([0, 1, 0] : List Int) ∧ x.2.2.1 = (2 : Int), f := fun _ => (([1, 2, 4] : List Int), ()) }

/-- sums, at the example -/
theorem h153c : Ok 71 sSumsC := by
  refine mkX (X := xF4) (hX := xF4_ok) (ctr := [(64, sMod)]) ⟨h109, trivial⟩ (nt := 79) Tryz.func71 rfl rfl rfl rfl (by kernel_rfl) (by kernel_rfl) (fun _ => []) ?_
  rintro ⟨x, y, n, ⟨⟩⟩ ⟨h1, h2, h3⟩
  have h1 : x = fldT := h1
  have h2 : y = ([0, 1, 0] : List Int) := h2
  have h3 : n = (2 : Int) := h3
  subst h1 h2 h3
  (try (rename Two => hq; cases hq))
  repeat' (intro hzz; (try (rename Two => hq; cases hq)); (try (first | exact absurd hzz (by decide) | exact absurd hzz (by decide +kernel))); (try (revert hzz; intro _)))
  all_goals (try (rename Unit => hq; clear hq))
  all_goals (with_reducible refine Held.mk ?_)
  all_goals (repeat' first | exact True.intro | (with_reducible refine Frz.mk ?_) | refine And.intro ?_ ?_ | (change _ = _; kernel_rfl) | decide | decide +kernel)

@[reducible] def sTrC : Spec := { pats := [.dat Fld, .dat (.sl I64)], res := [{ t := .sl I64 }], pre := fun x => x.1 = fldT ∧ x.2.1 = ([0, 1, 0] : List Int), f := fun _ => (([1, 2, 4] : List Int), ()) }

/-- transformed, at the example -/
theorem h103c : Ok 45 sTrC := by
  refine mkX (X := xF4) (hX := xF4_ok) (ctr := [(71, sSumsC)]) ⟨h153c, trivial⟩ (nt := 11) Tryz.func45 rfl rfl rfl rfl (by kernel_rfl) (by kernel_rfl) (fun _ => []) ?_
  rintro ⟨x, y, ⟨⟩⟩ ⟨h1, h2⟩
  have h1 : x = fldT := h1
  have h2 : y = ([0, 1, 0] : List Int) := h2
  subst h1 h2
  (try (rename Two => hq; cases hq))
  repeat' (intro hzz; (try (rename Two => hq; cases hq)); (try (first | exact absurd hzz (by decide) | exact absurd hzz (by decide +kernel))); (try (revert hzz; intro _)))
  all_goals (try (rename Unit => hq; clear hq))
  all_goals (with_reducible refine Held.mk ?_)
  all_goals (repeat' first | exact True.intro | (with_reducible refine Frz.mk ?_) | refine And.intro ?_ ?_ | (change _ = _; kernel_rfl) | decide | decide +kernel)

@[reducible] def sTrfC : Spec := { pats := [.dat (.sl I64), .dat Fld0], res := [{ t := .sl I64 }, { t := I64 }], pre := fun x => x.1 = ([0, 1, 0] : List Int) ∧ x.2.1 = fldT.1, f := fun _ => (([1, 2, 4] : List Int), (0 : Int), ()) }

/-- Transformed, at the example -/
theorem h35c : Ok 17 sTrfC := by
  refine mkX (X := xF4) (hX := xF4_ok) (ctr := [(44, sOFldC), (45, sTrC)]) ⟨h102c, h103c, trivial⟩ (nt := 20) Tryz.func17 rfl rfl rfl rfl (by kernel_rfl) (by kernel_rfl) (fun _ => []) ?_
  rintro ⟨x, y, ⟨⟩⟩ ⟨h1, h2⟩
  have h1 : x = ([0, 1, 0] : List Int) := h1
  have h2 : y = fldT.1 := h2
  subst h1 h2
  (try (rename Two => hq; cases hq))
  repeat' (intro hzz; (try (rename Two => hq; cases hq)); (try (first | exact absurd hzz (by decide) | exact absurd hzz (by decide +kernel))); (try (revert hzz; intro _)))
  all_goals (try (rename Unit => hq; clear hq))
  all_goals (with_reducible refine Held.mk ?_)
  all_goals (repeat' first | exact True.intro | (with_reducible refine Frz.mk ?_) | refine And.intro ?_ ?_ | (change _ = _; kernel_rfl) | decide | decide +kernel)

end Go.Eng.Pu
