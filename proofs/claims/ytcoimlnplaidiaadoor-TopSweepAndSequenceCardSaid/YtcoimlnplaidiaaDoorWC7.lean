/- Contracts at the examples of the document: what a register excites. Conditions: each contract's own. Contracts: whether all numbers of a list are something (a closure is handed on). Conditions: each contract's own. Contracts at the examples of the document: equal samples, the first maximal register, a transform. Conditions: each contract's own. Contracts: equal samples; lists folded to a period. Conditions: each contract's own. Contracts: Folded, of the program and of the reference. Conditions: each contract's own. -/
import Derived.Test.YtcoimlnplaidiaaDoorWC6
import Derived.Test.YtcoimlnplaidiaaDoorWC4
namespace Go.Eng.Pu
open Go.Eng Go.Proofs
set_option linter.all false
set_option maxRecDepth 100000
set_option maxHeartbeats 8000000

instance (n : Nat) : Decidable (pLen n) := inferInstanceAs (Decidable ((n : Int) ≤ 4611686018427387904))
instance (L : Int) (xs : List Int) (s : Int) : Decidable (pSt L xs s) := inferInstanceAs (Decidable (_ ∧ _ ∧ _ ∧ _))
instance (x : Nat) : Decidable (pPart x) := inferInstanceAs (Decidable (_ ∧ _))

abbrev prs := List (Int × Int × Unit)
abbrev pA : prs := [(4, 0, ()), (-1, 2, ())]
abbrev pF : prs := [(4, 0, ()), (-1, 2, ()), (0, 0, ())]
abbrev pB : prs := [(-3, -2, ()), (5, -2, ()), (-5, 2, ())]
abbrev cF : List (Nat × Nat) := [(1082130432, 0), (3212836864, 1073741824), (0, 0)]
abbrev regT : Int × List Int × Unit := (2, [1, 2], ())

@[reducible] def sRecC : Spec := { pats := [.dat (.sl C64)], res := [{ t := .sl PairT }, { t := I64 }], pre := fun x => x.1 = cA, f := fun _ => (pA, 0, ()) }

/-- recorded, at the example -/
theorem h91c : Ok 43 sRecC := by
  refine mkX (X := xF4) (hX := xF4_ok) (ctr := [(64, sPart)]) ⟨h147, trivial⟩ (nt := 55) Tryd.func43 rfl rfl rfl rfl (by kernel_rfl) (by kernel_rfl) (fun _ => []) ?_
  rintro ⟨x, ⟨⟩⟩ h
  have h : x = cA := h
  subst h
  (try (rename Two => hq; cases hq))
  repeat' (intro hzz; (try (rename Two => hq; cases hq)); (try (first | exact absurd hzz (by decide) | exact absurd hzz (by decide +kernel))); (try (revert hzz; intro _)))
  all_goals (try (rename Unit => hq; clear hq))
  all_goals (with_reducible refine Held.mk ?_)
  all_goals (repeat' first | exact True.intro | (with_reducible refine Frz.mk ?_) | refine And.intro ?_ ?_ | (change _ = _; kernel_rfl) | decide | decide +kernel)

@[reducible] def sFoldC : Spec := { pats := [.dat (.sl PairT), .dat I64], res := [{ t := .sl PairT }], pre := fun x => x.1 = pA ∧ x.2.1 = (3 : Int), f := fun _ => (pF, ()) }

/-- folded, at the example -/
theorem h92c : Ok 45 sFoldC := by
  refine mkX (X := xF4) (hX := xF4_ok) (ctr := [(37, sPlus)]) ⟨h122, trivial⟩ (nt := 32) Tryd.func45 rfl rfl rfl rfl (by kernel_rfl) (by kernel_rfl) (fun _ => []) ?_
  rintro ⟨x, n, ⟨⟩⟩ ⟨h1, h2⟩
  have h1 : x = pA := h1
  have h2 : n = (3 : Int) := h2
  subst h1 h2
  (try (rename Two => hq; cases hq))
  repeat' (intro hzz; (try (rename Two => hq; cases hq)); (try (first | exact absurd hzz (by decide) | exact absurd hzz (by decide +kernel))); (try (revert hzz; intro _)))
  all_goals (try (rename Unit => hq; clear hq))
  all_goals (with_reducible refine Held.mk ?_)
  all_goals (repeat' first | exact True.intro | (with_reducible refine Frz.mk ?_) | refine And.intro ?_ ?_ | (change _ = _; kernel_rfl) | decide | decide +kernel)

@[reducible] def sToldC : Spec := { pats := [.dat (.sl PairT)], res := [{ t := .sl C64 }, { t := I64 }], pre := fun x => x.1 = pF ∨ x.1 = pB, f := fun x => ((show prs from x.1).map (fun p => (floatOfInt .f32 p.1, floatOfInt .f32 p.2.1)), 0, ()) }

/-- told, at the examples -/
theorem h93c : Ok 30 sToldC := by
  refine mkX (X := xF4) (hX := xF4_ok) (ctr := [(42, sFits), (58, sNumber)]) ⟨h137, h148, trivial⟩ (nt := 23) Tryd.func30 rfl rfl rfl rfl (by kernel_rfl) (by kernel_rfl) (fun _ => []) ?_
  rintro ⟨x, ⟨⟩⟩ h
  rcases h with h | h
  · have h : x = pF := h
    subst h
    (try (rename Two => hq; cases hq))
    repeat' (intro hzz; (try (rename Two => hq; cases hq)); (try (first | exact absurd hzz (by decide) | exact absurd hzz (by decide +kernel))); (try (revert hzz; intro _)))
    all_goals (try (rename Unit => hq; clear hq))
    all_goals (with_reducible refine Held.mk ?_)
    all_goals (repeat' first | exact True.intro | (with_reducible refine Frz.mk ?_) | refine And.intro ?_ ?_ | (change _ = _; kernel_rfl) | decide | decide +kernel)
  · have h : x = pB := h
    subst h
    (try (rename Two => hq; cases hq))
    repeat' (intro hzz; (try (rename Two => hq; cases hq)); (try (first | exact absurd hzz (by decide) | exact absurd hzz (by decide +kernel))); (try (revert hzz; intro _)))
    all_goals (try (rename Unit => hq; clear hq))
    all_goals (with_reducible refine Held.mk ?_)
    all_goals (repeat' first | exact True.intro | (with_reducible refine Frz.mk ?_) | refine And.intro ?_ ?_ | (change _ = _; kernel_rfl) | decide | decide +kernel)

@[reducible] def sSignC : Spec := { pats := [.dat Reg, .dat I64], res := [{ t := .sl I64 }], pre := fun x => x.1.1 = regT ∧ x.2.1 = (1 : Int), f := fun _ => (([-1, 1, -1] : List Int), ()) }

/-- register.signs, at the example -/
theorem h95c : Ok 47 sSignC := by
  refine mkX (X := xF4) (hX := xF4_ok) (ctr := [(46, sFull), (53, sBits)]) ⟨h94, h87, trivial⟩ (nt := 28) Tryd.func47 rfl rfl rfl rfl (by kernel_rfl) (by kernel_rfl) (fun _ => []) ?_
  rintro ⟨⟨x, ⟨⟩⟩, n, ⟨⟩⟩ ⟨h1, h2⟩
  have h1 : x = regT := h1
  have h2 : n = (1 : Int) := h2
  subst h1 h2
  (try (rename Two => hq; cases hq))
  repeat' (intro hzz; (try (rename Two => hq; cases hq)); (try (first | exact absurd hzz (by decide) | exact absurd hzz (by decide +kernel))); (try (revert hzz; intro _)))
  all_goals (try (rename Unit => hq; clear hq))
  all_goals (with_reducible refine Held.mk ?_)
  all_goals (repeat' first | exact True.intro | (with_reducible refine Frz.mk ?_) | refine And.intro ?_ ?_ | (change _ = _; kernel_rfl) | decide | decide +kernel)

@[reducible] def sTurnC : Spec := { pats := [.dat (.sl PairT), .dat (.sl I64), .dat I64, .dat I64], res := [{ t := PairT }], pre := fun x => x.1 = pF ∧ x.2.1 = ([-1, 1, -1] : List Int) ∧ (x.2.2.1 = (0 : Int) ∨ x.2.2.1 = (1 : Int) ∨ x.2.2.1 = (2 : Int)) ∧ x.2.2.2.1 = (1 : Int), f := fun x => (pB.getD (Int.toNat x.2.2.1) (0, 0, ()), ()) }

/-- turned, at the example -/
theorem h96c : Ok 48 sTurnC := by
  refine mkX (X := xF4) (hX := xF4_ok) (ctr := [(37, sPlus), (68, sMod), (67, sBy)]) ⟨h122, h109, h149, trivial⟩ (nt := 36) Tryd.func48 rfl rfl rfl rfl (by kernel_rfl) (by kernel_rfl) (fun _ => []) ?_
  rintro ⟨x, y, n, w, ⟨⟩⟩ ⟨h1, h2, h3, h4⟩
  have h1 : x = pF := h1
  have h2 : y = ([-1, 1, -1] : List Int) := h2
  have h4 : w = (1 : Int) := h4
  have h3 : n = (0 : Int) ∨ n = (1 : Int) ∨ n = (2 : Int) := h3
  subst h1 h2 h4
  rcases h3 with h3 | h3 | h3
  · subst h3
    (try (rename Two => hq; cases hq))
    repeat' (intro hzz; (try (rename Two => hq; cases hq)); (try (first | exact absurd hzz (by decide) | exact absurd hzz (by decide +kernel))); (try (revert hzz; intro _)))
    all_goals (try (rename Unit => hq; clear hq))
    all_goals (with_reducible refine Held.mk ?_)
    all_goals (repeat' first | exact True.intro | (with_reducible refine Frz.mk ?_) | refine And.intro ?_ ?_ | (change _ = _; kernel_rfl) | decide | decide +kernel)
  · subst h3
    (try (rename Two => hq; cases hq))
    repeat' (intro hzz; (try (rename Two => hq; cases hq)); (try (first | exact absurd hzz (by decide) | exact absurd hzz (by decide +kernel))); (try (revert hzz; intro _)))
    all_goals (try (rename Unit => hq; clear hq))
    all_goals (with_reducible refine Held.mk ?_)
    all_goals (repeat' first | exact True.intro | (with_reducible refine Frz.mk ?_) | refine And.intro ?_ ?_ | (change _ = _; kernel_rfl) | decide | decide +kernel)
  · subst h3
    (try (rename Two => hq; cases hq))
    repeat' (intro hzz; (try (rename Two => hq; cases hq)); (try (first | exact absurd hzz (by decide) | exact absurd hzz (by decide +kernel))); (try (revert hzz; intro _)))
    all_goals (try (rename Unit => hq; clear hq))
    all_goals (with_reducible refine Held.mk ?_)
    all_goals (repeat' first | exact True.intro | (with_reducible refine Frz.mk ?_) | refine And.intro ?_ ?_ | (change _ = _; kernel_rfl) | decide | decide +kernel)

@[reducible] def sExcC : Spec := { pats := [.dat (.sl C64), .dat Reg0, .dat I64], res := [{ t := .sl C64 }, { t := I64 }], pre := fun x => x.1 = cA ∧ x.2.1 = regT ∧ x.2.2.1 = (1 : Int), f := fun _ => (cB, 0, ()) }

/-- Excited, at the example -/
theorem h31c : Ok 18 sExcC := by
  refine mkX (X := xF4) (hX := xF4_ok) (ctr := [(43, sRecC), (44, sOpen), (46, sFull), (45, sFoldC), (30, sToldC), (47, sSignC), (48, sTurnC)]) ⟨h91c, h83, h94, h92c, h93c, h95c, h96c, trivial⟩ (nt := 66) Tryd.func18 rfl rfl rfl rfl (by kernel_rfl) (by kernel_rfl) (fun _ => []) ?_
  rintro ⟨x, y, n, ⟨⟩⟩ ⟨h1, h2, h3⟩
  have h1 : x = cA := h1
  have h2 : y = regT := h2
  have h3 : n = (1 : Int) := h3
  subst h1 h2 h3
  (try (rename Two => hq; cases hq))
  repeat' (intro hzz; (try (rename Two => hq; cases hq)); (try (first | exact absurd hzz (by decide) | exact absurd hzz (by decide +kernel))); (try (revert hzz; intro _)))
  all_goals (try (rename Unit => hq; clear hq))
  all_goals (with_reducible refine Held.mk ?_)
  all_goals (repeat' first | exact True.intro | (with_reducible refine Frz.mk ?_) | refine And.intro ?_ ?_ | (change _ = _; kernel_rfl) | decide | decide +kernel)

end Go.Eng.Pu

namespace Go.Eng.Pu
open Go.Eng Go.Proofs
set_option linter.all false
set_option maxRecDepth 100000
set_option maxHeartbeats 8000000

def findI (p : Int → Bool) : List Int → Nat → Int
  | [], _ => -1
  | x :: r, i => if p x = true then i else findI p r (i + 1)

theorem findI_step {p : Int → Bool} {xs : List Int} {i : Nat} (h : i < xs.length) : findI p (xs.drop i) i = if p (xs.getD i 0) = true then (i : Int) else findI p (xs.drop (i + 1)) (i + 1) := by
  rw [drop_get h]; rfl

theorem findI_any (p : Int → Bool) : ∀ (xs : List Int) (i : Nat), decide (findI p xs i ≥ 0) = xs.any p
  | [], i => by simp [findI]
  | x :: r, i => by
    simp only [findI, List.any_cons]
    by_cases h : p x = true
    · have h2 : (if p x = true then (i : Int) else findI p r (i + 1)) = i := if_pos h
      simp only [h, if_true, Bool.true_or, decide_eq_true_eq]
      omega
    · have h' : p x = false := by simpa using h
      simp only [h', Bool.false_eq_true, if_false, Bool.false_or]
      exact findI_any p r (i + 1)

theorem any_not (p : Int → Bool) : ∀ (xs : List Int), (!xs.any fun n => !p n) = xs.all p
  | [] => rfl
  | x :: r => by simp only [List.any_cons, List.all_cons, ← any_not p r, Bool.not_or, Bool.not_not]


abbrev clTR : Ty := .clo 83 (.cons (.ptr (.fnl 63)) .nil)
abbrev ntR (n : Int) : Bool := !fRec n
@[reducible] def sLitR : Spec := { pats := [.dat I64, .dat (.ptr (.fnl 63))], res := [{ t := .bool }], pre := fun _ => True, f := fun x => (ntR x.1, ()) }

/-- allIn's closure -/
theorem h156R : Ok 83 sLitR := by
  refine mk (ctr := [(63, sRec)]) ⟨h117, trivial⟩ (nt := 8) Tryd.func83 rfl rfl rfl rfl (by kernel_rfl) (by kernel_rfl) (fun _ => []) ?_
  rintro ⟨(n : Int), _⟩ _
  repeat' (intro hzz; (try (rename Two => hq; cases hq)); (try dsimp only at hzz); (try simp only [resTy, argTy, eqD, inR, big, wantOf, Bool.not_true, Bool.not_false, Bool.true_eq, decide_eq_true_eq, decide_eq_false_iff_not, Bool.not_eq_true', Bool.not_eq_false', Bool.and_eq_true, Prod.mk.injEq, and_true, true_and, Int.not_lt, Int.not_le, gt_iff_lt, ge_iff_le] at hzz); (try (revert hzz; intro _)))
  all_goals try (rename Unit => hq; clear hq)
  all_goals try ((with_reducible refine Held.mk ?_); (with_reducible (first | refine Frz.mk ?_ | refine And.intro (Frz.mk ?_) ?_ | refine And.intro ?_ (Frz.mk ?_))); repeat' first | exact True.intro | (change _ = _; with_reducible rfl) | refine And.intro ?_ ?_ | (with_reducible refine Frz.mk ?_))
  all_goals try (refine Held.mk ?_; (try dsimp only at *); (try simp only [resTy, argTy, eqD, inR, big, wantOf, Bool.not_true, Bool.not_false, Bool.true_eq, decide_eq_true_eq, decide_eq_false_iff_not, Bool.not_eq_true', Bool.not_eq_false', Bool.and_eq_true, Prod.mk.injEq, and_true, true_and, Int.not_lt, Int.not_le, gt_iff_lt, ge_iff_le] at *))

@[reducible] def sIdxR : Spec := { pats := [.dat (.sl I64), .dat clTR], res := [{ t := I64 }], pre := fun x => pLen (List.length (α := Int) x.1), f := fun x => (findI ntR x.1 0, ()) }

/-- slices.IndexFunc, with allIn's closure -/
theorem h160R : Ok 87 sIdxR := by
  refine mk (ctr := [(83, sLitR)]) ⟨h156R, trivial⟩ (nt := 19) Tryd.func87 rfl rfl rfl rfl (by kernel_rfl) (by kernel_rfl) (fun x => [fun _ => { σ := Nat, pat := fun i => [sI 8 i], inv := fun i => i ≤ List.length (α := Int) x.1 ∧ findI ntR (List.drop (α := Int) i x.1) i = findI ntR x.1 0, meas := fun i => List.length (α := Int) x.1 - i }]) ?_
  rintro ⟨(xs : List Int), c, _⟩ (hp : pLen xs.length)
  have := hp.out
  repeat' (intro hzz; (try (rename Two => hq; cases hq)); (try dsimp only at hzz); (try simp only [resTy, argTy, eqD, inR, big, wantOf, Bool.not_true, Bool.not_false, Bool.true_eq, decide_eq_true_eq, decide_eq_false_iff_not, Bool.not_eq_true', Bool.not_eq_false', Bool.and_eq_true, Prod.mk.injEq, and_true, true_and, Int.not_lt, Int.not_le, gt_iff_lt, ge_iff_le] at hzz); (try simp only [resTy, argTy, eqD, inR, big, wantOf, Bool.not_true, Bool.not_false, Bool.true_eq, decide_eq_true_eq, decide_eq_false_iff_not, Bool.not_eq_true', Bool.not_eq_false', Bool.and_eq_true, Prod.mk.injEq, and_true, true_and, Int.not_lt, Int.not_le, gt_iff_lt, ge_iff_le, getD_i] at hzz); (try (first | contradiction | (exfalso; omega))); (try (revert hzz; intro _)))
  all_goals try (rename Unit => hq; clear hq)
  all_goals try ((with_reducible refine Held.mk ?_); (with_reducible (first | refine Frz.mk ?_ | refine And.intro (Frz.mk ?_) ?_ | refine And.intro ?_ (Frz.mk ?_))); repeat' first | exact True.intro | (change _ = _; with_reducible rfl) | refine And.intro ?_ ?_ | (with_reducible refine Frz.mk ?_))
  all_goals try (refine Held.mk ?_; (try dsimp only at *); (try simp only [resTy, argTy, eqD, inR, big, wantOf, Bool.not_true, Bool.not_false, Bool.true_eq, decide_eq_true_eq, decide_eq_false_iff_not, Bool.not_eq_true', Bool.not_eq_false', Bool.and_eq_true, Prod.mk.injEq, and_true, true_and, Int.not_lt, Int.not_le, gt_iff_lt, ge_iff_le] at *); (try simp only [resTy, argTy, eqD, inR, big, wantOf, Bool.not_true, Bool.not_false, Bool.true_eq, decide_eq_true_eq, decide_eq_false_iff_not, Bool.not_eq_true', Bool.not_eq_false', Bool.and_eq_true, Prod.mk.injEq, and_true, true_and, Int.not_lt, Int.not_le, gt_iff_lt, ge_iff_le, getD_i] at *))
  all_goals try omega
  · 
    refine GHeld.mk ?_
    refine Exists.intro 0 ?_
    refine And.intro (Leaf.mk ?_) ?_
    · repeat' first | exact True.intro | refine And.intro ?_ ?_
      all_goals try ((change _ = _ <;> try dsimp only) <;> try with_reducible rfl)
      all_goals try omega
    exact ⟨Nat.zero_le _, rfl⟩
  · rename_i i hi hg h
    have h1 := findI_step (p := ntR) (xs := xs) (i := i) (by omega)
    have h2 : ntR (xs.getD i 0) = true := by
      have h' : fRec (xs.getD i 0) = false := decide_eq_false h
      simp only [ntR, h', Bool.not_false]
    rw [if_pos h2] at h1
    exact h1.symm.trans hi.2
  · rename_i i hi hg h
    have h1 := findI_step (p := ntR) (xs := xs) (i := i) (by omega)
    have h2 : ¬ ntR (xs.getD i 0) = true := by
      have h' : fRec (xs.getD i 0) = true := decide_eq_true h
      simp only [ntR, h', Bool.not_true]; decide
    rw [if_neg h2] at h1
    refine GHeld.mk ?_
    refine Exists.intro (i + 1) ?_
    refine And.intro (Leaf.mk ?_) ?_
    · repeat' first | exact True.intro | refine And.intro ?_ ?_
      all_goals try ((change _ = _ <;> try dsimp only) <;> try with_reducible rfl)
      all_goals try omega
    exact ⟨⟨by show i + 1 ≤ xs.length; omega, h1.symm.trans hi.2⟩, by show xs.length - (i + 1) < xs.length - i; omega⟩
  · rename_i i hi hg
    have h1 := hi.2
    rw [List.drop_eq_nil_of_le (by omega)] at h1
    exact h1

@[reducible] def sContR : Spec := { pats := [.dat (.sl I64), .dat clTR], res := [{ t := .bool }], pre := fun x => pLen (List.length (α := Int) x.1), f := fun x => (List.any (α := Int) x.1 ntR, ()) }

/-- slices.ContainsFunc, with allIn's closure -/
theorem h155R : Ok 82 sContR := by
  refine mk (ctr := [(87, sIdxR)]) ⟨h160R, trivial⟩ (nt := 9) Tryd.func82 rfl rfl rfl rfl (by kernel_rfl) (by kernel_rfl) (fun _ => []) ?_
  rintro ⟨(xs : List Int), c, _⟩ (hp : pLen xs.length)
  repeat' (intro hzz; (try (rename Two => hq; cases hq)); (try dsimp only at hzz); (try simp only [resTy, argTy, eqD, inR, big, wantOf, Bool.not_true, Bool.not_false, Bool.true_eq, decide_eq_true_eq, decide_eq_false_iff_not, Bool.not_eq_true', Bool.not_eq_false', Bool.and_eq_true, Prod.mk.injEq, and_true, true_and, Int.not_lt, Int.not_le, gt_iff_lt, ge_iff_le] at hzz); (try (revert hzz; intro _)))
  all_goals try (rename Unit => hq; clear hq)
  all_goals try ((with_reducible refine Held.mk ?_); (with_reducible (first | refine Frz.mk ?_ | refine And.intro (Frz.mk ?_) ?_ | refine And.intro ?_ (Frz.mk ?_))); repeat' first | exact True.intro | (change _ = _; with_reducible rfl) | refine And.intro ?_ ?_ | (with_reducible refine Frz.mk ?_))
  all_goals try (refine Held.mk ?_; (try dsimp only at *); (try simp only [resTy, argTy, eqD, inR, big, wantOf, Bool.not_true, Bool.not_false, Bool.true_eq, decide_eq_true_eq, decide_eq_false_iff_not, Bool.not_eq_true', Bool.not_eq_false', Bool.and_eq_true, Prod.mk.injEq, and_true, true_and, Int.not_lt, Int.not_le, gt_iff_lt, ge_iff_le] at *))
  · exact hp
  · exact findI_any _ _ _

@[reducible] def sAllR : Spec := { pats := [.dat (.sl I64), .lit (.func (.func 63) #[] #[])], res := [{ t := .bool }], pre := fun x => pLen (List.length (α := Int) x.1), f := fun x => (List.all (α := Int) x.1 (fun n => fRec n), ()) }

@[reducible] def xCR : Xt := { clos := [(83, [.fnl 63])] }
theorem xCR_ok : Its xCR.its := True.intro

/-- allIn -/
theorem h116R : Ok 73 sAllR := by
  refine mkX (X := xCR) (hX := xCR_ok) (ctr := [(82, sContR)]) ⟨h155R, trivial⟩ (nt := 9) Tryd.func73 rfl rfl rfl rfl (by kernel_rfl) (by kernel_rfl) (fun _ => []) ?_
  rintro ⟨(xs : List Int), _⟩ (hp : pLen xs.length)
  repeat' (intro hzz; (try (rename Two => hq; cases hq)); (try dsimp only at hzz); (try simp only [resTy, argTy, eqD, inR, big, wantOf, Bool.not_true, Bool.not_false, Bool.true_eq, decide_eq_true_eq, decide_eq_false_iff_not, Bool.not_eq_true', Bool.not_eq_false', Bool.and_eq_true, Prod.mk.injEq, and_true, true_and, Int.not_lt, Int.not_le, gt_iff_lt, ge_iff_le] at hzz); (try (revert hzz; intro _)))
  all_goals try (rename Unit => hq; clear hq)
  all_goals try ((with_reducible refine Held.mk ?_); (with_reducible (first | refine Frz.mk ?_ | refine And.intro (Frz.mk ?_) ?_ | refine And.intro ?_ (Frz.mk ?_))); repeat' first | exact True.intro | (change _ = _; with_reducible rfl) | refine And.intro ?_ ?_ | (with_reducible refine Frz.mk ?_))
  all_goals try (refine Held.mk ?_; (try dsimp only at *); (try simp only [resTy, argTy, eqD, inR, big, wantOf, Bool.not_true, Bool.not_false, Bool.true_eq, decide_eq_true_eq, decide_eq_false_iff_not, Bool.not_eq_true', Bool.not_eq_false', Bool.and_eq_true, Prod.mk.injEq, and_true, true_and, Int.not_lt, Int.not_le, gt_iff_lt, ge_iff_le] at *))
  · exact hp
  · exact any_not _ _

abbrev clTP : Ty := .clo 83 (.cons (.ptr (.fnl 74)) .nil)
abbrev ntP (n : Int) : Bool := !fPrm n
@[reducible] def sLitP : Spec := { pats := [.dat I64, .dat (.ptr (.fnl 74))], res := [{ t := .bool }], pre := fun _ => True, f := fun x => (ntP x.1, ()) }

/-- allIn's closure -/
theorem h156P : Ok 83 sLitP := by
  refine mk (ctr := [(74, sPrm)]) ⟨h152, trivial⟩ (nt := 8) Tryd.func83 rfl rfl rfl rfl (by kernel_rfl) (by kernel_rfl) (fun _ => []) ?_
  rintro ⟨(n : Int), _⟩ _
  repeat' (intro hzz; (try (rename Two => hq; cases hq)); (try dsimp only at hzz); (try simp only [resTy, argTy, eqD, inR, big, wantOf, Bool.not_true, Bool.not_false, Bool.true_eq, decide_eq_true_eq, decide_eq_false_iff_not, Bool.not_eq_true', Bool.not_eq_false', Bool.and_eq_true, Prod.mk.injEq, and_true, true_and, Int.not_lt, Int.not_le, gt_iff_lt, ge_iff_le] at hzz); (try (revert hzz; intro _)))
  all_goals try (rename Unit => hq; clear hq)
  all_goals try ((with_reducible refine Held.mk ?_); (with_reducible (first | refine Frz.mk ?_ | refine And.intro (Frz.mk ?_) ?_ | refine And.intro ?_ (Frz.mk ?_))); repeat' first | exact True.intro | (change _ = _; with_reducible rfl) | refine And.intro ?_ ?_ | (with_reducible refine Frz.mk ?_))
  all_goals try (refine Held.mk ?_; (try dsimp only at *); (try simp only [resTy, argTy, eqD, inR, big, wantOf, Bool.not_true, Bool.not_false, Bool.true_eq, decide_eq_true_eq, decide_eq_false_iff_not, Bool.not_eq_true', Bool.not_eq_false', Bool.and_eq_true, Prod.mk.injEq, and_true, true_and, Int.not_lt, Int.not_le, gt_iff_lt, ge_iff_le] at *))

@[reducible] def sIdxP : Spec := { pats := [.dat (.sl I64), .dat clTP], res := [{ t := I64 }], pre := fun x => pLen (List.length (α := Int) x.1), f := fun x => (findI ntP x.1 0, ()) }

/-- slices.IndexFunc, with allIn's closure -/
theorem h160P : Ok 87 sIdxP := by
  refine mk (ctr := [(83, sLitP)]) ⟨h156P, trivial⟩ (nt := 19) Tryd.func87 rfl rfl rfl rfl (by kernel_rfl) (by kernel_rfl) (fun x => [fun _ => { σ := Nat, pat := fun i => [sI 8 i], inv := fun i => i ≤ List.length (α := Int) x.1 ∧ findI ntP (List.drop (α := Int) i x.1) i = findI ntP x.1 0, meas := fun i => List.length (α := Int) x.1 - i }]) ?_
  rintro ⟨(xs : List Int), c, _⟩ (hp : pLen xs.length)
  have := hp.out
  repeat' (intro hzz; (try (rename Two => hq; cases hq)); (try dsimp only at hzz); (try simp only [resTy, argTy, eqD, inR, big, wantOf, Bool.not_true, Bool.not_false, Bool.true_eq, decide_eq_true_eq, decide_eq_false_iff_not, Bool.not_eq_true', Bool.not_eq_false', Bool.and_eq_true, Prod.mk.injEq, and_true, true_and, Int.not_lt, Int.not_le, gt_iff_lt, ge_iff_le] at hzz); (try simp only [resTy, argTy, eqD, inR, big, wantOf, Bool.not_true, Bool.not_false, Bool.true_eq, decide_eq_true_eq, decide_eq_false_iff_not, Bool.not_eq_true', Bool.not_eq_false', Bool.and_eq_true, Prod.mk.injEq, and_true, true_and, Int.not_lt, Int.not_le, gt_iff_lt, ge_iff_le, getD_i] at hzz); (try (first | contradiction | (exfalso; omega))); (try (revert hzz; intro _)))
  all_goals try (rename Unit => hq; clear hq)
  all_goals try ((with_reducible refine Held.mk ?_); (with_reducible (first | refine Frz.mk ?_ | refine And.intro (Frz.mk ?_) ?_ | refine And.intro ?_ (Frz.mk ?_))); repeat' first | exact True.intro | (change _ = _; with_reducible rfl) | refine And.intro ?_ ?_ | (with_reducible refine Frz.mk ?_))
  all_goals try (refine Held.mk ?_; (try dsimp only at *); (try simp only [resTy, argTy, eqD, inR, big, wantOf, Bool.not_true, Bool.not_false, Bool.true_eq, decide_eq_true_eq, decide_eq_false_iff_not, Bool.not_eq_true', Bool.not_eq_false', Bool.and_eq_true, Prod.mk.injEq, and_true, true_and, Int.not_lt, Int.not_le, gt_iff_lt, ge_iff_le] at *); (try simp only [resTy, argTy, eqD, inR, big, wantOf, Bool.not_true, Bool.not_false, Bool.true_eq, decide_eq_true_eq, decide_eq_false_iff_not, Bool.not_eq_true', Bool.not_eq_false', Bool.and_eq_true, Prod.mk.injEq, and_true, true_and, Int.not_lt, Int.not_le, gt_iff_lt, ge_iff_le, getD_i] at *))
  all_goals try omega
  · 
    refine GHeld.mk ?_
    refine Exists.intro 0 ?_
    refine And.intro (Leaf.mk ?_) ?_
    · repeat' first | exact True.intro | refine And.intro ?_ ?_
      all_goals try ((change _ = _ <;> try dsimp only) <;> try with_reducible rfl)
      all_goals try omega
    exact ⟨Nat.zero_le _, rfl⟩
  · rename_i i hi hg h
    have h1 := findI_step (p := ntP) (xs := xs) (i := i) (by omega)
    have h2 : ntP (xs.getD i 0) = true := by
      have h' : fPrm (xs.getD i 0) = false := decide_eq_false h
      simp only [ntP, h', Bool.not_false]
    rw [if_pos h2] at h1
    exact h1.symm.trans hi.2
  · rename_i i hi hg h
    have h1 := findI_step (p := ntP) (xs := xs) (i := i) (by omega)
    have h2 : ¬ ntP (xs.getD i 0) = true := by
      have h' : fPrm (xs.getD i 0) = true := decide_eq_true h
      simp only [ntP, h', Bool.not_true]; decide
    rw [if_neg h2] at h1
    refine GHeld.mk ?_
    refine Exists.intro (i + 1) ?_
    refine And.intro (Leaf.mk ?_) ?_
    · repeat' first | exact True.intro | refine And.intro ?_ ?_
      all_goals try ((change _ = _ <;> try dsimp only) <;> try with_reducible rfl)
      all_goals try omega
    exact ⟨⟨by show i + 1 ≤ xs.length; omega, h1.symm.trans hi.2⟩, by show xs.length - (i + 1) < xs.length - i; omega⟩
  · rename_i i hi hg
    have h1 := hi.2
    rw [List.drop_eq_nil_of_le (by omega)] at h1
    exact h1

@[reducible] def sContP : Spec := { pats := [.dat (.sl I64), .dat clTP], res := [{ t := .bool }], pre := fun x => pLen (List.length (α := Int) x.1), f := fun x => (List.any (α := Int) x.1 ntP, ()) }

/-- slices.ContainsFunc, with allIn's closure -/
theorem h155P : Ok 82 sContP := by
  refine mk (ctr := [(87, sIdxP)]) ⟨h160P, trivial⟩ (nt := 9) Tryd.func82 rfl rfl rfl rfl (by kernel_rfl) (by kernel_rfl) (fun _ => []) ?_
  rintro ⟨(xs : List Int), c, _⟩ (hp : pLen xs.length)
  repeat' (intro hzz; (try (rename Two => hq; cases hq)); (try dsimp only at hzz); (try simp only [resTy, argTy, eqD, inR, big, wantOf, Bool.not_true, Bool.not_false, Bool.true_eq, decide_eq_true_eq, decide_eq_false_iff_not, Bool.not_eq_true', Bool.not_eq_false', Bool.and_eq_true, Prod.mk.injEq, and_true, true_and, Int.not_lt, Int.not_le, gt_iff_lt, ge_iff_le] at hzz); (try (revert hzz; intro _)))
  all_goals try (rename Unit => hq; clear hq)
  all_goals try ((with_reducible refine Held.mk ?_); (with_reducible (first | refine Frz.mk ?_ | refine And.intro (Frz.mk ?_) ?_ | refine And.intro ?_ (Frz.mk ?_))); repeat' first | exact True.intro | (change _ = _; with_reducible rfl) | refine And.intro ?_ ?_ | (with_reducible refine Frz.mk ?_))
  all_goals try (refine Held.mk ?_; (try dsimp only at *); (try simp only [resTy, argTy, eqD, inR, big, wantOf, Bool.not_true, Bool.not_false, Bool.true_eq, decide_eq_true_eq, decide_eq_false_iff_not, Bool.not_eq_true', Bool.not_eq_false', Bool.and_eq_true, Prod.mk.injEq, and_true, true_and, Int.not_lt, Int.not_le, gt_iff_lt, ge_iff_le] at *))
  · exact hp
  · exact findI_any _ _ _

@[reducible] def sAllP : Spec := { pats := [.dat (.sl I64), .lit (.func (.func 74) #[] #[])], res := [{ t := .bool }], pre := fun x => pLen (List.length (α := Int) x.1), f := fun x => (List.all (α := Int) x.1 (fun n => fPrm n), ()) }

@[reducible] def xCP : Xt := { clos := [(83, [.fnl 74])] }
theorem xCP_ok : Its xCP.its := True.intro

/-- allIn -/
theorem h116P : Ok 73 sAllP := by
  refine mkX (X := xCP) (hX := xCP_ok) (ctr := [(82, sContP)]) ⟨h155P, trivial⟩ (nt := 9) Tryd.func73 rfl rfl rfl rfl (by kernel_rfl) (by kernel_rfl) (fun _ => []) ?_
  rintro ⟨(xs : List Int), _⟩ (hp : pLen xs.length)
  repeat' (intro hzz; (try (rename Two => hq; cases hq)); (try dsimp only at hzz); (try simp only [resTy, argTy, eqD, inR, big, wantOf, Bool.not_true, Bool.not_false, Bool.true_eq, decide_eq_true_eq, decide_eq_false_iff_not, Bool.not_eq_true', Bool.not_eq_false', Bool.and_eq_true, Prod.mk.injEq, and_true, true_and, Int.not_lt, Int.not_le, gt_iff_lt, ge_iff_le] at hzz); (try (revert hzz; intro _)))
  all_goals try (rename Unit => hq; clear hq)
  all_goals try ((with_reducible refine Held.mk ?_); (with_reducible (first | refine Frz.mk ?_ | refine And.intro (Frz.mk ?_) ?_ | refine And.intro ?_ (Frz.mk ?_))); repeat' first | exact True.intro | (change _ = _; with_reducible rfl) | refine And.intro ?_ ?_ | (with_reducible refine Frz.mk ?_))
  all_goals try (refine Held.mk ?_; (try dsimp only at *); (try simp only [resTy, argTy, eqD, inR, big, wantOf, Bool.not_true, Bool.not_false, Bool.true_eq, decide_eq_true_eq, decide_eq_false_iff_not, Bool.not_eq_true', Bool.not_eq_false', Bool.and_eq_true, Prod.mk.injEq, and_true, true_and, Int.not_lt, Int.not_le, gt_iff_lt, ge_iff_le] at *))
  · exact hp
  · exact any_not _ _

end Go.Eng.Pu

namespace Go.Eng.Pu
open Go.Eng Go.Proofs
set_option linter.all false
set_option maxRecDepth 100000
set_option maxHeartbeats 8000000

def fSame (a b : Nat × Nat) : Bool := decide (a.1 = b.1) && decide (a.2 = b.2)
@[reducible] def sSame : Spec := { pats := [.dat C128, .dat C128], res := [{ t := .bool }], pre := fun _ => True, f := fun x => (fSame x.1 x.2.1, ()) }

theorem cast_eq {a b : Nat} : ((a : Int) = (b : Int)) ↔ a = b := Int.ofNat_inj

/-- base.SameBits -/
theorem h101 : Ok 33 sSame := by
  refine mk (ctr := []) trivial (nt := 21) Tryd.func33 rfl rfl rfl rfl (by kernel_rfl) (by kernel_rfl) (fun _ => []) ?_
  rintro ⟨⟨a, b⟩, ⟨c, d⟩, _⟩ _
  repeat' (intro hzz; (try (rename Two => hq; cases hq)); (try dsimp only at hzz); (try simp only [resTy, argTy, eqD, inR, big, wantOf, Bool.not_true, Bool.not_false, Bool.true_eq, decide_eq_true_eq, decide_eq_false_iff_not, Bool.not_eq_true', Bool.not_eq_false', Bool.and_eq_true, Prod.mk.injEq, and_true, true_and, Int.not_lt, Int.not_le, gt_iff_lt, ge_iff_le] at hzz); (try (revert hzz; intro _)))
  all_goals try (rename Unit => hq; clear hq)
  all_goals try ((with_reducible refine Held.mk ?_); (with_reducible (first | refine Frz.mk ?_ | refine And.intro (Frz.mk ?_) ?_ | refine And.intro ?_ (Frz.mk ?_))); repeat' first | exact True.intro | (change _ = _; with_reducible rfl) | refine And.intro ?_ ?_ | (with_reducible refine Frz.mk ?_))
  all_goals try (refine Held.mk ?_; (try dsimp only at *); (try simp only [resTy, argTy, eqD, inR, big, wantOf, Bool.not_true, Bool.not_false, Bool.true_eq, decide_eq_true_eq, decide_eq_false_iff_not, Bool.not_eq_true', Bool.not_eq_false', Bool.and_eq_true, Prod.mk.injEq, and_true, true_and, Int.not_lt, Int.not_le, gt_iff_lt, ge_iff_le] at *))
  · rename_i h
    have h : a = c := Int.ofNat_inj.1 h
    show decide ((b : Int) = (d : Int)) = fSame (a, b) (c, d)
    subst h
    by_cases hb : b = d <;> simp [fSame, hb, Int.ofNat_inj]
  · rename_i h
    have h : ¬ a = c := fun e => h (by rw [e])
    show false = fSame (a, b) (c, d)
    simp [fSame, h]

@[reducible] def sSamesC : Spec := { pats := [.dat (.sl C64), .dat (.sl C64)], res := [{ t := .bool }], pre := fun x => x.1 = cB ∧ x.2.1 = cB, f := fun _ => (true, ()) }

/-- base.SameSamples, at the example -/
theorem h34c : Ok 9 sSamesC := by
  refine mkX (X := xF4) (hX := xF4_ok) (ctr := [(33, sSame)]) ⟨h101, trivial⟩ (nt := 29) Tryd.func9 rfl rfl rfl rfl (by kernel_rfl) (by kernel_rfl) (fun _ => []) ?_
  rintro ⟨x, y, ⟨⟩⟩ ⟨h1, h2⟩
  have h1 : x = cB := h1
  have h2 : y = cB := h2
  subst h1 h2
  (try (rename Two => hq; cases hq))
  repeat' (intro hzz; (try (rename Two => hq; cases hq)); (try (first | exact absurd hzz (by decide) | exact absurd hzz (by decide +kernel))); (try (revert hzz; intro _)))
  all_goals (try (rename Unit => hq; clear hq))
  all_goals (with_reducible refine Held.mk ?_)
  all_goals (repeat' first | exact True.intro | (with_reducible refine Frz.mk ?_) | refine And.intro ?_ ?_ | (change _ = _; kernel_rfl) | decide | decide +kernel)

@[reducible] def sCloneS : Spec := { pats := [.dat (.sl I64)], res := [{ own := some 3, t := .sl I64 }], pre := fun x => 0 < List.length (α := Int) x.1 ∧ List.length (α := Int) x.1 ≤ 2000000000, f := fun x => (x.1, ()) }

/-- slices.Clone, of a list that is not empty -/
theorem h158s : Ok 72 sCloneS := by
  refine mk (ctr := []) trivial (nt := 8) Tryd.func72 rfl rfl rfl rfl (by kernel_rfl) (by kernel_rfl) (fun _ => []) ?_
  rintro ⟨(xs : List Int), _⟩ ⟨(h0 : 0 < xs.length), (h : xs.length ≤ 2000000000)⟩
  repeat' (intro hzz; (try (rename Two => hq; cases hq)); (try dsimp only at hzz); (try simp only [resTy, argTy, eqD, inR, big, wantOf, Bool.not_true, Bool.not_false, Bool.true_eq, decide_eq_true_eq, decide_eq_false_iff_not, Bool.not_eq_true', Bool.not_eq_false', Bool.and_eq_true, Prod.mk.injEq, and_true, true_and, Int.not_lt, Int.not_le, gt_iff_lt, ge_iff_le] at hzz); (try (revert hzz; intro _)))
  all_goals try (rename Unit => hq; clear hq)
  all_goals try ((with_reducible refine Held.mk ?_); (with_reducible (first | refine Frz.mk ?_ | refine And.intro (Frz.mk ?_) ?_ | refine And.intro ?_ (Frz.mk ?_))); repeat' first | exact True.intro | (change _ = _; with_reducible rfl) | refine And.intro ?_ ?_ | (with_reducible refine Frz.mk ?_))
  all_goals try (refine Held.mk ?_; (try dsimp only at *); (try simp only [resTy, argTy, eqD, inR, big, wantOf, Bool.not_true, Bool.not_false, Bool.true_eq, decide_eq_true_eq, decide_eq_false_iff_not, Bool.not_eq_true', Bool.not_eq_false', Bool.and_eq_true, Prod.mk.injEq, and_true, true_and, Int.not_lt, Int.not_le, gt_iff_lt, ge_iff_le] at *))
  all_goals first | exact h0 | exact List.nil_append _ | (show ([] : List Int).length + xs.length ≤ 2147483648; simp; omega)

@[reducible] def sCloneN : Spec := { pats := [.dat (.osl I64)], res := [{ own := some 3, t := .sl I64 }], pre := fun x => x.1 = none, f := fun x => ([], ()) }

/-- slices.Clone, of nil -/
theorem h158n : Ok 72 sCloneN := by
  refine mk (ctr := []) trivial (nt := 8) Tryd.func72 rfl rfl rfl rfl (by kernel_rfl) (by kernel_rfl) (fun _ => []) ?_
  rintro ⟨x, ⟨⟩⟩ h
  have h : x = none := h
  subst h
  (try (rename Two => hq; cases hq))
  repeat' (intro hzz; (try (rename Two => hq; cases hq)); (try (first | exact absurd hzz (by decide) | exact absurd hzz (by decide +kernel))); (try (revert hzz; intro _)))
  all_goals (try (rename Unit => hq; clear hq))
  all_goals (with_reducible refine Held.mk ?_)
  all_goals (repeat' first | exact True.intro | (with_reducible refine Frz.mk ?_) | refine And.intro ?_ ?_ | (change _ = _; kernel_rfl) | decide | decide +kernel)

@[reducible] def sFM2 : Spec := { pats := [.dat I64, .dat (.sl I64)], res := [{ t := .osl I64 }], pre := fun x => x.1 = (3 : Int) ∧ x.2.1 = ([1, 2] : List Int), f := fun _ => (none, ()) }
@[reducible] def sFM1 : Spec := { pats := [.dat I64, .dat (.sl I64)], res := [{ t := .osl I64 }], pre := fun x => x.1 = (3 : Int) ∧ x.2.1 = ([1] : List Int), f := fun _ => (some ([1, 3] : List Int), ()) }
@[reducible] def sFM0 : Spec := { pats := [.dat I64, .dat (.osl I64)], res := [{ t := .osl I64 }], pre := fun x => x.1 = (3 : Int) ∧ x.2.1 = none, f := fun _ => (some ([1, 3] : List Int), ()) }

/-- firstMaximal, three deep -/
theorem h130b : Ok 54 sFM2 := by
  refine mkX (X := xF4) (hX := xF4_ok) (ctr := [(72, sCloneS), (71, sMax), (50, sIsMax)]) ⟨h158s, h89, h121, trivial⟩ (nt := 37) Tryd.func54 rfl rfl rfl rfl (by kernel_rfl) (by kernel_rfl) (fun _ => []) ?_
  rintro ⟨n, x, ⟨⟩⟩ ⟨h1, h2⟩
  have h1 : n = (3 : Int) := h1
  have h2 : x = ([1, 2] : List Int) := h2
  subst h1 h2
  (try (rename Two => hq; cases hq))
  repeat' (intro hzz; (try (rename Two => hq; cases hq)); (try (first | exact absurd hzz (by decide) | exact absurd hzz (by decide +kernel))); (try (revert hzz; intro _)))
  all_goals (try (rename Unit => hq; clear hq))
  all_goals (with_reducible refine Held.mk ?_)
  all_goals (repeat' first | exact True.intro | (with_reducible refine Frz.mk ?_) | refine And.intro ?_ ?_ | (change _ = _; kernel_rfl) | decide | decide +kernel)

/-- firstMaximal, two deep -/
theorem h130a : Ok 54 sFM1 := by
  refine mkX (X := xF4) (hX := xF4_ok) (ctr := [(72, sCloneS), (71, sMax), (50, sIsMax), (54, sFM2)]) ⟨h158s, h89, h121, h130b, trivial⟩ (nt := 37) Tryd.func54 rfl rfl rfl rfl (by kernel_rfl) (by kernel_rfl) (fun _ => []) ?_
  rintro ⟨n, x, ⟨⟩⟩ ⟨h1, h2⟩
  have h1 : n = (3 : Int) := h1
  have h2 : x = ([1] : List Int) := h2
  subst h1 h2
  (try (rename Two => hq; cases hq))
  repeat' (intro hzz; (try (rename Two => hq; cases hq)); (try (first | exact absurd hzz (by decide) | exact absurd hzz (by decide +kernel))); (try (revert hzz; intro _)))
  all_goals (try (rename Unit => hq; clear hq))
  all_goals (with_reducible refine Held.mk ?_)
  all_goals (repeat' first | exact True.intro | (with_reducible refine Frz.mk ?_) | refine And.intro ?_ ?_ | (change _ = _; kernel_rfl) | decide | decide +kernel)

/-- firstMaximal, of no taps -/
theorem h130o : Ok 54 sFM0 := by
  refine mkX (X := xF4) (hX := xF4_ok) (ctr := [(72, sCloneN), (71, sMax), (50, sIsMax), (54, sFM1)]) ⟨h158n, h89, h121, h130a, trivial⟩ (nt := 37) Tryd.func54 rfl rfl rfl rfl (by kernel_rfl) (by kernel_rfl) (fun _ => []) ?_
  rintro ⟨n, x, ⟨⟩⟩ ⟨h1, h2⟩
  have h1 : n = (3 : Int) := h1
  have h2 : x = none := h2
  subst h1 h2
  (try (rename Two => hq; cases hq))
  repeat' (intro hzz; (try (rename Two => hq; cases hq)); (try (first | exact absurd hzz (by decide) | exact absurd hzz (by decide +kernel))); (try (revert hzz; intro _)))
  all_goals (try (rename Unit => hq; clear hq))
  all_goals (with_reducible refine Held.mk ?_)
  all_goals (repeat' first | exact True.intro | (with_reducible refine Frz.mk ?_) | refine And.intro ?_ ?_ | (change _ = _; kernel_rfl) | decide | decide +kernel)

@[reducible] def sPrC : Spec := { pats := [.dat I64], res := [{ t := .sl I64 }], pre := fun x => x.1 = (7 : Int) ∨ x.1 = (3 : Int), f := fun x => ([x.1], ()) }

/-- primesOf, at the examples -/
theorem h129c : Ok 55 sPrC := by
  refine mkX (X := xF4) (hX := xF4_ok) (ctr := []) trivial (nt := 34) Tryd.func55 rfl rfl rfl rfl (by kernel_rfl) (by kernel_rfl) (fun _ => []) ?_
  rintro ⟨n, ⟨⟩⟩ h
  have h : n = (7 : Int) ∨ n = (3 : Int) := h
  rcases h with h | h
  · subst h
    (try (rename Two => hq; cases hq))
    repeat' (intro hzz; (try (rename Two => hq; cases hq)); (try (first | exact absurd hzz (by decide) | exact absurd hzz (by decide +kernel))); (try (revert hzz; intro _)))
    all_goals (try (rename Unit => hq; clear hq))
    all_goals (with_reducible refine Held.mk ?_)
    all_goals (repeat' first | exact True.intro | (with_reducible refine Frz.mk ?_) | refine And.intro ?_ ?_ | (change _ = _; kernel_rfl) | decide | decide +kernel)
  · subst h
    (try (rename Two => hq; cases hq))
    repeat' (intro hzz; (try (rename Two => hq; cases hq)); (try (first | exact absurd hzz (by decide) | exact absurd hzz (by decide +kernel))); (try (revert hzz; intro _)))
    all_goals (try (rename Unit => hq; clear hq))
    all_goals (with_reducible refine Held.mk ?_)
    all_goals (repeat' first | exact True.intro | (with_reducible refine Frz.mk ?_) | refine And.intro ?_ ?_ | (change _ = _; kernel_rfl) | decide | decide +kernel)

@[reducible] def sFirstC : Spec := { pats := [.dat I64], res := [{ t := Reg0 }, { t := .sl I64 }, { t := I64 }], pre := fun x => x.1 = (3 : Int), f := fun _ => (((3 : Int), ([1, 3] : List Int), ()), ([7] : List Int), (0 : Int), ()) }

/-- FirstMaximal, at the example -/
theorem h62c : Ok 25 sFirstC := by
  refine mkX (X := xF4) (hX := xF4_ok) (ctr := [(29, sWithin), (54, sFM0), (46, sFull), (55, sPrC)]) ⟨h86, h130o, h94, h129c, trivial⟩ (nt := 19) Tryd.func25 rfl rfl rfl rfl (by kernel_rfl) (by kernel_rfl) (fun _ => []) ?_
  rintro ⟨n, ⟨⟩⟩ h
  have h : n = (3 : Int) := h
  subst h
  (try (rename Two => hq; cases hq))
  repeat' (intro hzz; (try (rename Two => hq; cases hq)); (try (first | exact absurd hzz (by decide) | exact absurd hzz (by decide +kernel))); (try (revert hzz; intro _)))
  all_goals (try (rename Unit => hq; clear hq))
  all_goals (with_reducible refine Held.mk ?_)
  all_goals (repeat' first | exact True.intro | (with_reducible refine Frz.mk ?_) | refine And.intro ?_ ?_ | (change _ = _; kernel_rfl) | decide | decide +kernel)

abbrev fldT : (Int × Int × Int × Unit) × Unit := ((7, 2, 3, ()), ())

@[reducible] def sPowC : Spec := { pats := [.dat Fld, .dat I64, .dat I64], res := [{ t := I64 }], pre := fun x => x.1 = fldT ∧ x.2.1 = (2 : Int) ∧ (x.2.2.1 = (1 : Int) ∨ x.2.2.1 = (3 : Int)), f := fun x => ((if x.2.2.1 = (1 : Int) then (2 : Int) else 1), ()) }

/-- power, at the examples -/
theorem h111c : Ok 88 sPowC := by
  refine mkX (X := xF4) (hX := xF4_ok) (ctr := [(68, sMod)]) ⟨h109, trivial⟩ (nt := 39) Tryd.func88 rfl rfl rfl rfl (by kernel_rfl) (by kernel_rfl) (fun _ => []) ?_
  rintro ⟨x, m, n, ⟨⟩⟩ ⟨h1, h2, h3⟩
  have h1 : x = fldT := h1
  have h2 : m = (2 : Int) := h2
  have h3 : n = (1 : Int) ∨ n = (3 : Int) := h3
  subst h1 h2
  rcases h3 with h | h
  · subst h
    (try (rename Two => hq; cases hq))
    repeat' (intro hzz; (try (rename Two => hq; cases hq)); (try (first | exact absurd hzz (by decide) | exact absurd hzz (by decide +kernel))); (try (revert hzz; intro _)))
    all_goals (try (rename Unit => hq; clear hq))
    all_goals (with_reducible refine Held.mk ?_)
    all_goals (repeat' first | exact True.intro | (with_reducible refine Frz.mk ?_) | refine And.intro ?_ ?_ | (change _ = _; kernel_rfl) | decide | decide +kernel)
  · subst h
    (try (rename Two => hq; cases hq))
    repeat' (intro hzz; (try (rename Two => hq; cases hq)); (try (first | exact absurd hzz (by decide) | exact absurd hzz (by decide +kernel))); (try (revert hzz; intro _)))
    all_goals (try (rename Unit => hq; clear hq))
    all_goals (with_reducible refine Held.mk ?_)
    all_goals (repeat' first | exact True.intro | (with_reducible refine Frz.mk ?_) | refine And.intro ?_ ?_ | (change _ = _; kernel_rfl) | decide | decide +kernel)

@[reducible] def sRootC : Spec := { pats := [.dat Fld], res := [{ t := .bool }], pre := fun x => x.1 = fldT, f := fun _ => (true, ()) }

/-- isRoot, at the example -/
theorem h112c : Ok 85 sRootC := by
  refine mkX (X := xF4) (hX := xF4_ok) (ctr := [(55, sPrC), (88, sPowC)]) ⟨h129c, h111c, trivial⟩ (nt := 35) Tryd.func85 rfl rfl rfl rfl (by kernel_rfl) (by kernel_rfl) (fun _ => []) ?_
  rintro ⟨x, ⟨⟩⟩ h
  have h : x = fldT := h
  subst h
  (try (rename Two => hq; cases hq))
  repeat' (intro hzz; (try (rename Two => hq; cases hq)); (try (first | exact absurd hzz (by decide) | exact absurd hzz (by decide +kernel))); (try (revert hzz; intro _)))
  all_goals (try (rename Unit => hq; clear hq))
  all_goals (with_reducible refine Held.mk ?_)
  all_goals (repeat' first | exact True.intro | (with_reducible refine Frz.mk ?_) | refine And.intro ?_ ?_ | (change _ = _; kernel_rfl) | decide | decide +kernel)

@[reducible] def sPrimeC : Spec := { pats := [.dat I64], res := [{ t := .bool }], pre := fun x => x.1 = (7 : Int), f := fun _ => (true, ()) }

/-- isPrime, at the example -/
theorem h110c : Ok 84 sPrimeC := by
  refine mkX (X := xF4) (hX := xF4_ok) (ctr := []) trivial (nt := 17) Tryd.func84 rfl rfl rfl rfl (by kernel_rfl) (by kernel_rfl) (fun _ => []) ?_
  rintro ⟨x, ⟨⟩⟩ h
  have h : x = (7 : Int) := h
  subst h
  (try (rename Two => hq; cases hq))
  repeat' (intro hzz; (try (rename Two => hq; cases hq)); (try (first | exact absurd hzz (by decide) | exact absurd hzz (by decide +kernel))); (try (revert hzz; intro _)))
  all_goals (try (rename Unit => hq; clear hq))
  all_goals (with_reducible refine Held.mk ?_)
  all_goals (repeat' first | exact True.intro | (with_reducible refine Frz.mk ?_) | refine And.intro ?_ ?_ | (change _ = _; kernel_rfl) | decide | decide +kernel)

abbrev fPeriod (n : Int) : Bool := fWithin n 1 1024
@[reducible] def sPeriod : Spec := { pats := [.dat I64], res := [{ t := .bool }], pre := fun _ => True, f := fun x => (fPeriod x.1, ()) }

/-- isPeriod -/
theorem h108 : Ok 28 sPeriod := by
  refine mk (ctr := [(29, sWithin)]) ⟨h86, trivial⟩ (nt := 5) Tryd.func28 rfl rfl rfl rfl (by kernel_rfl) (by kernel_rfl) (fun _ => []) ?_
  rintro ⟨(n : Int), _⟩ _
  repeat' (intro hzz; (try (rename Two => hq; cases hq)); (try dsimp only at hzz); (try simp only [resTy, argTy, eqD, inR, big, wantOf, Bool.not_true, Bool.not_false, Bool.true_eq, decide_eq_true_eq, decide_eq_false_iff_not, Bool.not_eq_true', Bool.not_eq_false', Bool.and_eq_true, Prod.mk.injEq, and_true, true_and, Int.not_lt, Int.not_le, gt_iff_lt, ge_iff_le] at hzz); (try (revert hzz; intro _)))
  all_goals try (rename Unit => hq; clear hq)
  all_goals try ((with_reducible refine Held.mk ?_); (with_reducible (first | refine Frz.mk ?_ | refine And.intro (Frz.mk ?_) ?_ | refine And.intro ?_ (Frz.mk ?_))); repeat' first | exact True.intro | (change _ = _; with_reducible rfl) | refine And.intro ?_ ?_ | (with_reducible refine Frz.mk ?_))
  all_goals try (refine Held.mk ?_; (try dsimp only at *); (try simp only [resTy, argTy, eqD, inR, big, wantOf, Bool.not_true, Bool.not_false, Bool.true_eq, decide_eq_true_eq, decide_eq_false_iff_not, Bool.not_eq_true', Bool.not_eq_false', Bool.and_eq_true, Prod.mk.injEq, and_true, true_and, Int.not_lt, Int.not_le, gt_iff_lt, ge_iff_le] at *))

@[reducible] def sCFldC : Spec := { pats := [.dat Fld0], res := [{ t := I64 }], pre := fun x => x.1 = fldT.1, f := fun _ => ((0 : Int), ()) }

/-- CheckField, at the example -/
theorem h45c : Ok 76 sCFldC := by
  refine mkX (X := xF4) (hX := xF4_ok) (ctr := [(29, sWithin), (28, sPeriod), (84, sPrimeC), (52, sUnless), (85, sRootC)]) ⟨h86, h108, h110c, h85, h112c, trivial⟩ (nt := 40) Tryd.func76 rfl rfl rfl rfl (by kernel_rfl) (by kernel_rfl) (fun _ => []) ?_
  rintro ⟨x, ⟨⟩⟩ h
  have h : x = fldT.1 := h
  subst h
  (try (rename Two => hq; cases hq))
  repeat' (intro hzz; (try (rename Two => hq; cases hq)); (try (first | exact absurd hzz (by decide) | exact absurd hzz (by decide +kernel))); (try (revert hzz; intro _)))
  all_goals (try (rename Unit => hq; clear hq))
  all_goals (with_reducible refine Held.mk ?_)
  all_goals (repeat' first | exact True.intro | (with_reducible refine Frz.mk ?_) | refine And.intro ?_ ?_ | (change _ = _; kernel_rfl) | decide | decide +kernel)

@[reducible] def sOFldC : Spec := { pats := [.dat (.sl I64), .dat Fld0], res := [{ t := Fld }, { t := I64 }], pre := fun x => x.1 = ([0, 1, 0] : List Int) ∧ x.2.1 = fldT.1, f := fun _ => (fldT, (0 : Int), ()) }

/-- openField, at the example -/
theorem h102c : Ok 56 sOFldC := by
  refine mkX (X := xF4) (hX := xF4_ok) (ctr := [(73, sAllP), (52, sUnless), (76, sCFldC), (51, sFirst)]) ⟨h116P, h85, h45c, h84, trivial⟩ (nt := 27) Tryd.func56 rfl rfl rfl rfl (by kernel_rfl) (by kernel_rfl) (fun _ => []) ?_
  rintro ⟨x, y, ⟨⟩⟩ ⟨h1, h2⟩
  have h1 : x = ([0, 1, 0] : List Int) := h1
  have h2 : y = fldT.1 := h2
  subst h1 h2
  (try (rename Two => hq; cases hq))
  repeat' (intro hzz; (try (rename Two => hq; cases hq)); (try (first | exact absurd hzz (by decide) | exact absurd hzz (by decide +kernel))); (try (revert hzz; intro _)))
  all_goals (try (rename Unit => hq; clear hq))
  all_goals (with_reducible refine Held.mk ?_)
  all_goals (repeat' first | exact True.intro | (with_reducible refine Frz.mk ?_) | refine And.intro ?_ ?_ | (change _ = _; kernel_rfl) | decide | decide +kernel)

@[reducible] def sSumsC : Spec := { pats := [.dat Fld, .dat (.sl I64), .dat I64], res := [{ t := .sl I64 }], pre := fun x => x.1 = fldT ∧ x.2.1 = ([0, 1, 0] : List Int) ∧ x.2.2.1 = (2 : Int), f := fun _ => (([1, 2, 4] : List Int), ()) }

/-- sums, at the example -/
theorem h153c : Ok 77 sSumsC := by
  refine mkX (X := xF4) (hX := xF4_ok) (ctr := [(68, sMod)]) ⟨h109, trivial⟩ (nt := 79) Tryd.func77 rfl rfl rfl rfl (by kernel_rfl) (by kernel_rfl) (fun _ => []) ?_
  rintro ⟨x, y, n, ⟨⟩⟩ ⟨h1, h2, h3⟩
  have h1 : x = fldT := h1
  have h2 : y = ([0, 1, 0] : List Int) := h2
  have h3 : n = (2 : Int) := h3
  subst h1 h2 h3
  (try (rename Two => hq; cases hq))
  repeat' (intro hzz; (try (rename Two => hq; cases hq)); (try (first | exact absurd hzz (by decide) | exact absurd hzz (by decide +kernel))); (try (revert hzz; intro _)))
  all_goals (try (rename Unit => hq; clear hq))
  all_goals (with_reducible refine Held.mk ?_)
  all_goals (repeat' first | exact True.intro | (with_reducible refine Frz.mk ?_) | refine And.intro ?_ ?_ | (change _ = _; kernel_rfl) | decide | decide +kernel)

@[reducible] def sTrC : Spec := { pats := [.dat Fld, .dat (.sl I64)], res := [{ t := .sl I64 }], pre := fun x => x.1 = fldT ∧ x.2.1 = ([0, 1, 0] : List Int), f := fun _ => (([1, 2, 4] : List Int), ()) }

/-- transformed, at the example -/
theorem h103c : Ok 57 sTrC := by
  refine mkX (X := xF4) (hX := xF4_ok) (ctr := [(77, sSumsC)]) ⟨h153c, trivial⟩ (nt := 11) Tryd.func57 rfl rfl rfl rfl (by kernel_rfl) (by kernel_rfl) (fun _ => []) ?_
  rintro ⟨x, y, ⟨⟩⟩ ⟨h1, h2⟩
  have h1 : x = fldT := h1
  have h2 : y = ([0, 1, 0] : List Int) := h2
  subst h1 h2
  (try (rename Two => hq; cases hq))
  repeat' (intro hzz; (try (rename Two => hq; cases hq)); (try (first | exact absurd hzz (by decide) | exact absurd hzz (by decide +kernel))); (try (revert hzz; intro _)))
  all_goals (try (rename Unit => hq; clear hq))
  all_goals (with_reducible refine Held.mk ?_)
  all_goals (repeat' first | exact True.intro | (with_reducible refine Frz.mk ?_) | refine And.intro ?_ ?_ | (change _ = _; kernel_rfl) | decide | decide +kernel)

@[reducible] def sTrfC : Spec := { pats := [.dat (.sl I64), .dat Fld0], res := [{ t := .sl I64 }, { t := I64 }], pre := fun x => x.1 = ([0, 1, 0] : List Int) ∧ x.2.1 = fldT.1, f := fun _ => (([1, 2, 4] : List Int), (0 : Int), ()) }

/-- Transformed, at the example -/
theorem h35c : Ok 26 sTrfC := by
  refine mkX (X := xF4) (hX := xF4_ok) (ctr := [(56, sOFldC), (57, sTrC)]) ⟨h102c, h103c, trivial⟩ (nt := 20) Tryd.func26 rfl rfl rfl rfl (by kernel_rfl) (by kernel_rfl) (fun _ => []) ?_
  rintro ⟨x, y, ⟨⟩⟩ ⟨h1, h2⟩
  have h1 : x = ([0, 1, 0] : List Int) := h1
  have h2 : y = fldT.1 := h2
  subst h1 h2
  (try (rename Two => hq; cases hq))
  repeat' (intro hzz; (try (rename Two => hq; cases hq)); (try (first | exact absurd hzz (by decide) | exact absurd hzz (by decide +kernel))); (try (revert hzz; intro _)))
  all_goals (try (rename Unit => hq; clear hq))
  all_goals (with_reducible refine Held.mk ?_)
  all_goals (repeat' first | exact True.intro | (with_reducible refine Frz.mk ?_) | refine And.intro ?_ ?_ | (change _ = _; kernel_rfl) | decide | decide +kernel)

end Go.Eng.Pu

namespace Go.Eng.Pu
open Go.Eng Go.Proofs
set_option linter.all false
set_option maxRecDepth 100000
set_option maxHeartbeats 8000000

/-! ### Equal samples -/

theorem foi_num {n : Int} (h1 : -16777216 ≤ n) (h2 : n ≤ 16777216) : fN .f32 (floatOfInt .f32 n) = true ∧ fV .f32 (floatOfInt .f32 n) = n * fS .f32 := by
  by_cases h0 : n = 0
  · subst h0; decide +kernel
  · by_cases he : n = 16777216
    · subst he; decide +kernel
    · by_cases he2 : n = -16777216
      · subst he2; decide +kernel
      · have hm : n.natAbs ≠ 0 := by omega
        have hl : n.natAbs.log2 ≤ 23 := by
          have : n.natAbs.log2 < 24 := (Nat.log2_lt hm).2 (by omega)
          omega
        have l32 : FloatKind.f32.format.leastPlace = -149 := by decide
        have b32 : FloatKind.f32.format.fractionBits = 23 := by decide
        have e32 : FloatKind.f32.format.exponentBits = 8 := by decide
        obtain ⟨q, l, g1, g2, g3, g4⟩ := nearest_read FloatKind.f32.format (decide (n < 0)) n.natAbs 0 0 (fmt_exp .f32) hm (by rw [b32]; exact hl) (by rw [l32]; omega) (by rw [l32, b32, e32]; omega)
        rw [Nat.pow_zero, Nat.mul_one] at g1
        have hw : floatOfInt .f32 n = FloatKind.f32.format.nearest (decide (n < 0)) n.natAbs 0 := rfl
        rw [hw]
        unfold fN fV
        rw [g1]
        refine ⟨rfl, ?_⟩
        show Ieee.signed _ q (l - FloatKind.f32.format.leastPlace).toNat = _
        rw [l32] at g2 ⊢
        rw [signed_sg, g4, Nat.mul_assoc, ← Nat.pow_add]
        have e : ((0 : Int) + (0 : Nat) - l).toNat + (l - -149).toNat = 149 := by omega
        rw [e]
        have hs : fS .f32 = ((2 ^ 149 : Nat) : Int) := by decide +kernel
        rw [hs]
        generalize (2 : Nat) ^ 149 = C
        unfold sg
        by_cases hn : n < 0
        · rw [if_pos (by simp; exact hn), Int.natCast_mul, show ((n.natAbs : Nat) : Int) = -n by omega, Int.neg_mul, Int.neg_neg]
        · rw [if_neg (by simp; omega), Int.natCast_mul, show ((n.natAbs : Nat) : Int) = n by omega]

/-- All parts are numbers. -/
def okC (xs : CL) : Prop := ∀ i : Nat, fN .f32 (xs.getD i (0, 0)).1 = true ∧ fN .f32 (xs.getD i (0, 0)).2 = true

theorem wid_some {x : Nat} (h : fN .f32 x = true) : (f2f .f32 x .f64).isSome = true := by
  obtain ⟨y, e, _⟩ := wid_num h
  rw [e]; rfl

theorem fN_zero : fN .f32 0 = true := by decide +kernel

theorem okC_nil : okC [] := fun i => ⟨fN_zero, fN_zero⟩

theorem okC_tab {f : Nat → Nat × Nat} {n : Nat} (h : ∀ i, i < n → fN .f32 (f i).1 = true ∧ fN .f32 (f i).2 = true) : okC (tab f n) := fun i => by
  by_cases hi : i < n
  · rw [tab_get f (0, 0) n i hi]; exact h i hi
  · have : (tab f n).getD i (0, 0) = (0, 0) := by
      simp only [List.getD]
      rw [List.getElem?_eq_none (by rw [tab_len]; omega)]; rfl
    rw [this]; exact ⟨fN_zero, fN_zero⟩

theorem allFit_at {ps : List IP} (h : allFit ps = true) (i : Nat) : (-16777216 ≤ (ps.getD i (0, 0, ())).1 ∧ (ps.getD i (0, 0, ())).1 ≤ 16777216) ∧ (-16777216 ≤ (ps.getD i (0, 0, ())).2.1 ∧ (ps.getD i (0, 0, ())).2.1 ≤ 16777216) := by
  by_cases hi : i < ps.length
  · unfold allFit at h
    rw [List.all_eq_true] at h
    have := h (ps.getD i (0, 0, ())) (by simp only [List.getD, List.getElem?_eq_getElem hi, Option.getD_some]; exact List.getElem_mem hi)
    generalize ps.getD i (0, 0, ()) = p at this
    unfold fits at this
    have hh : (decide (-16777216 ≤ p.1 ∧ p.1 ≤ 16777216) && decide (-16777216 ≤ p.2.1 ∧ p.2.1 ≤ 16777216)) = true := this
    simpa only [Bool.and_eq_true, decide_eq_true_eq] using hh
  · have : ps.getD i (0, 0, ()) = (0, 0, ()) := by
      simp only [List.getD]
      rw [List.getElem?_eq_none (by omega)]; rfl
    rw [this]
    exact ⟨⟨by show (-16777216 : Int) ≤ 0; omega, by show (0 : Int) ≤ 16777216; omega⟩, ⟨by show (-16777216 : Int) ≤ 0; omega, by show (0 : Int) ≤ 16777216; omega⟩⟩

theorem tL_ok (ps : List IP) : okC (tL ps) := by
  unfold tL
  split
  · rename_i h
    exact okC_tab fun i _ => ⟨(foi_num (allFit_at h i).1.1 (allFit_at h i).1.2).1, (foi_num (allFit_at h i).2.1 (allFit_at h i).2.2).1⟩
  · exact okC_nil

theorem tL_len (ps : List IP) : (tL ps).length ≤ ps.length := by
  unfold tL
  split
  · rw [tab_len]; exact Nat.le_refl _
  · exact Nat.zero_le _

@[reducible] def sSameN : Spec := { pats := [.dat (.sl C64), .dat (.sl C64)], res := [{ t := .bool }], pre := fun x => List.length (α := Nat × Nat) x.1 ≤ 2000000000 ∧ x.1 = x.2.1 ∧ okC x.1, f := fun _ => (true, ()) }

/-- base.SameSamples -/
theorem h34n : Ok 9 sSameN := by
  refine mk (ctr := [(33, sSame)]) ⟨h101, trivial⟩ (nt := 29) Tryd.func9 rfl rfl rfl rfl (by kernel_rfl) (by kernel_rfl) (fun x => [fun _ => { σ := Nat, pat := fun k => [sI 5 k], inv := fun k => k ≤ List.length (α := Nat × Nat) x.1, meas := fun k => List.length (α := Nat × Nat) x.1 - k }]) ?_
  rintro ⟨(xs : CL), (ys : CL), _⟩ ⟨(hl : xs.length ≤ 2000000000), (he : xs = ys), (hc : okC xs)⟩
  subst he
  have hs : ∀ i : Nat, (f2f .f32 (xs.getD i (0, 0)).1 .f64).isSome = true ∧ (f2f .f32 (xs.getD i (0, 0)).2 .f64).isSome = true := fun i => ⟨wid_some (hc i).1, wid_some (hc i).2⟩
  have hf : ∀ z : Nat × Nat, fSame z z = true := fun z => by simp [fSame]
  repeat' (intro hzz; (try (rename Two => hq; cases hq)); (try dsimp only at hzz); (try simp only [resTy, argTy, eqD, inR, big, wantOf, Bool.not_true, Bool.not_false, Bool.true_eq, decide_eq_true_eq, decide_eq_false_iff_not, Bool.not_eq_true', Bool.not_eq_false', Bool.and_eq_true, Prod.mk.injEq, and_true, true_and, Int.not_lt, Int.not_le, gt_iff_lt, ge_iff_le] at hzz); (try simp only [resTy, argTy, eqD, inR, big, wantOf, Bool.not_true, Bool.not_false, Bool.true_eq, decide_eq_true_eq, decide_eq_false_iff_not, Bool.not_eq_true', Bool.not_eq_false', Bool.and_eq_true, Prod.mk.injEq, and_true, true_and, Int.not_lt, Int.not_le, gt_iff_lt, ge_iff_le, getD_c, hf] at hzz); (try (first | contradiction | (exfalso; omega))); (try (revert hzz; intro _)))
  all_goals try (rename Unit => hq; clear hq)
  all_goals try ((with_reducible refine Held.mk ?_); (with_reducible (first | refine Frz.mk ?_ | refine And.intro (Frz.mk ?_) ?_ | refine And.intro ?_ (Frz.mk ?_))); repeat' first | exact True.intro | (change _ = _; with_reducible rfl) | refine And.intro ?_ ?_ | (with_reducible refine Frz.mk ?_))
  all_goals try (refine Held.mk ?_; (try dsimp only at *); (try simp only [resTy, argTy, eqD, inR, big, wantOf, Bool.not_true, Bool.not_false, Bool.true_eq, decide_eq_true_eq, decide_eq_false_iff_not, Bool.not_eq_true', Bool.not_eq_false', Bool.and_eq_true, Prod.mk.injEq, and_true, true_and, Int.not_lt, Int.not_le, gt_iff_lt, ge_iff_le] at *); (try simp only [resTy, argTy, eqD, inR, big, wantOf, Bool.not_true, Bool.not_false, Bool.true_eq, decide_eq_true_eq, decide_eq_false_iff_not, Bool.not_eq_true', Bool.not_eq_false', Bool.and_eq_true, Prod.mk.injEq, and_true, true_and, Int.not_lt, Int.not_le, gt_iff_lt, ge_iff_le, getD_c, hf] at *))
  all_goals try omega
  · 
    refine GHeld.mk ?_
    refine Exists.intro 0 ?_
    refine And.intro (Leaf.mk ?_) ?_
    · repeat' first | exact True.intro | refine And.intro ?_ ?_
      all_goals try ((change _ = _ <;> try dsimp only) <;> try with_reducible rfl)
      all_goals try omega
    exact Nat.zero_le _
  · exact hs _
  · exact hs _
  · rename_i k hk hlt _
    refine GHeld.mk ?_
    refine Exists.intro (k + 1) ?_
    refine And.intro (Leaf.mk ?_) ?_
    · repeat' first | exact True.intro | refine And.intro ?_ ?_
      all_goals try ((change _ = _ <;> try dsimp only) <;> try with_reducible rfl)
      all_goals try omega
    exact ⟨by show k + 1 ≤ xs.length; omega, by show xs.length - (k + 1) < xs.length - k; omega⟩

/-! ### Folded lists -/

theorem tab_set {α : Type} (f : Nat → α) (n j : Nat) (v : α) : (tab f n).set j v = tab (fun i => if i = j then v else f i) n := by
  apply List.ext_getElem?
  intro i
  by_cases hi : i < n
  · have e : ∀ g : Nat → α, (tab g n)[i]? = some (g i) := fun g => by
      have := tab_get g v n i hi
      rw [List.getD_eq_getElem?_getD] at this
      rw [List.getElem?_eq_getElem (by rw [tab_len]; exact hi)] at this ⊢
      simpa using this
    rw [e]
    by_cases hj : j = i
    · subst hj
      rw [List.getElem?_set_self (by rw [tab_len]; exact hi), if_pos rfl]
    · rw [List.getElem?_set_ne hj, e, if_neg (by omega)]
  · rw [List.getElem?_eq_none (by rw [List.length_set, tab_len]; omega), List.getElem?_eq_none (by rw [tab_len]; omega)]

theorem repl_tab {α : Type} (x : α) : ∀ n : Nat, repl (n : Int) x = tab (fun _ => x) n := fun n => by
  rw [repl_eq, Int.toNat_natCast]
  induction n with
  | zero => rfl
  | succ n ih => rw [List.replicate_succ', ih]; rfl

def plusP (a b : IP) : IP := (a.1 + b.1, a.2.1 + b.2.1, ())
/-- The sum of those of the first numbers of a list that stand at one place. -/
def flV (ps : List IP) (p i : Nat) : Nat → IP
  | 0 => (0, 0, ())
  | k + 1 => if i = k % p then plusP (flV ps p i k) (ps.getD k (0, 0, ())) else flV ps p i k
def flL (ps : List IP) (p k : Nat) : List IP := tab (fun i => flV ps p i k) p

theorem flL_step {ps : List IP} {p k : Nat} (hp : 0 < p) : (flL ps p k).set (k % p) (plusP ((flL ps p k).getD (k % p) (0, 0, ())) (ps.getD k (0, 0, ()))) = flL ps p (k + 1) := by
  unfold flL
  rw [tab_set, tab_get _ _ _ _ (Nat.mod_lt k hp)]
  refine tab_congr p fun i hi => ?_
  show _ = if i = k % p then plusP (flV ps p i k) (ps.getD k (0, 0, ())) else flV ps p i k
  by_cases h : i = k % p
  · rw [if_pos h, if_pos h, h]
  · rw [if_neg h, if_neg h]

theorem flV_in {ps : List IP} {p : Nat} (h : okL 16777216 ps) (i : Nat) : ∀ k : Nat, (-(k * 16777216) ≤ (flV ps p i k).1 ∧ (flV ps p i k).1 ≤ k * 16777216) ∧ (-(k * 16777216) ≤ (flV ps p i k).2.1 ∧ (flV ps p i k).2.1 ≤ k * 16777216)
  | 0 => by simp [flV]
  | k + 1 => by
    have ih := flV_in (p := p) h i k
    have hk := h k
    have e : flV ps p i (k + 1) = if i = k % p then plusP (flV ps p i k) (ps.getD k (0, 0, ())) else flV ps p i k := rfl
    rw [e]
    split
    · show (_ ≤ (flV ps p i k).1 + (ps.getD k (0, 0, ())).1 ∧ (flV ps p i k).1 + (ps.getD k (0, 0, ())).1 ≤ _) ∧ (_ ≤ (flV ps p i k).2.1 + (ps.getD k (0, 0, ())).2.1 ∧ (flV ps p i k).2.1 + (ps.getD k (0, 0, ())).2.1 ≤ _)
      omega
    · omega

theorem nat_tmod (q k : Nat) : ((k : Int)).tmod (q : Int) = ((k % q : Nat) : Int) := by
  rw [Int.tmod_eq_emod_of_nonneg (by omega)]; rfl

theorem flL_ok {ps : List IP} {p : Nat} (h : okL 16777216 ps) (k : Nat) : okL (k * 16777216) (flL ps p k) := fun i => by
  unfold flL
  by_cases hi : i < p
  · rw [tab_get _ _ _ _ hi]; exact flV_in h i k
  · have : (tab (fun i => flV ps p i k) p).getD i (0, 0, ()) = (0, 0, ()) := by
      simp only [List.getD]
      rw [List.getElem?_eq_none (by rw [tab_len]; omega)]; rfl
    rw [this]
    exact ⟨⟨(show -((k : Int) * 16777216) ≤ 0 by omega), (show (0 : Int) ≤ (k : Int) * 16777216 by omega)⟩, ⟨(show -((k : Int) * 16777216) ≤ 0 by omega), (show (0 : Int) ≤ (k : Int) * 16777216 by omega)⟩⟩

theorem getD_set_self {xs : List IP} {j : Nat} {v d : IP} (h : j < xs.length) : (xs.set j v).getD j d = v := by
  simp only [List.getD, List.getElem?_set_self h, Option.getD_some]

/-- Both parts of an element, one after the other. -/
theorem two_set {xs : List IP} {j : Nat} {a b : Int} (h : j < xs.length) :
    (xs.set j ((xs.getD j (0, 0, ())).1 + a, (xs.getD j (0, 0, ())).2)).set j (((xs.set j ((xs.getD j (0, 0, ())).1 + a, (xs.getD j (0, 0, ())).2)).getD j (0, 0, ())).1, ((xs.set j ((xs.getD j (0, 0, ())).1 + a, (xs.getD j (0, 0, ())).2)).getD j (0, 0, ())).2.1 + b, ((xs.set j ((xs.getD j (0, 0, ())).1 + a, (xs.getD j (0, 0, ())).2)).getD j (0, 0, ())).2.2) = xs.set j ((xs.getD j (0, 0, ())).1 + a, (xs.getD j (0, 0, ())).2.1 + b, ()) := by
  rw [getD_set_self h, List.set_set]

@[reducible] def sFold : Spec := { pats := [.dat (.sl PairT), .dat I64], res := [{ own := some 69, t := .sl PairT }], pre := fun x => List.length (α := IP) x.1 ≤ 1024 ∧ okL 16777216 x.1 ∧ 1 ≤ x.2.1 ∧ x.2.1 ≤ (2000000 : Int), f := fun x => (flL x.1 (Int.toNat x.2.1) (List.length (α := IP) x.1), ()) }

/-- folded -/
theorem h92n : Ok 45 sFold := by
  refine mk (ctr := [(37, sPlus)]) ⟨h122, trivial⟩ (nt := 32) Tryd.func45 rfl rfl rfl rfl (by kernel_rfl) (by kernel_rfl) (fun x => [fun _ => { σ := Nat, pat := fun k => [sI 12 k] ++ rOwn 5 9 69 PairT (flL x.1 (Int.toNat x.2.1) k), inv := fun k => k ≤ List.length (α := IP) x.1, meas := fun k => List.length (α := IP) x.1 - k }]) ?_
  rintro ⟨(ps : List IP), (p : Int), _⟩ ⟨(hl : ps.length ≤ 1024), (hp : okL 16777216 ps), (h1 : 1 ≤ p), (h2 : p ≤ 2000000)⟩
  obtain ⟨q, rfl⟩ : ∃ q : Nat, p = q := ⟨p.toNat, by omega⟩
  have hm := nat_tmod q
  have hml : ∀ k : Nat, k % q < q := fun k => Nat.mod_lt k (by omega)
  have hln : ∀ k, (flL ps q k).length = q := fun k => tab_len _ _
  have hbd := flL_ok (p := q) hp
  repeat' (intro hzz; (try (rename Two => hq; cases hq)); (try dsimp only at hzz); (try simp only [resTy, argTy, eqD, inR, big, wantOf, Bool.not_true, Bool.not_false, Bool.true_eq, decide_eq_true_eq, decide_eq_false_iff_not, Bool.not_eq_true', Bool.not_eq_false', Bool.and_eq_true, Prod.mk.injEq, and_true, true_and, Int.not_lt, Int.not_le, gt_iff_lt, ge_iff_le] at hzz); (try simp only [resTy, argTy, eqD, inR, big, wantOf, Bool.not_true, Bool.not_false, Bool.true_eq, decide_eq_true_eq, decide_eq_false_iff_not, Bool.not_eq_true', Bool.not_eq_false', Bool.and_eq_true, Prod.mk.injEq, and_true, true_and, Int.not_lt, Int.not_le, gt_iff_lt, ge_iff_le, getD_p, hm, hln, Int.toNat_natCast] at hzz); (try (first | contradiction | (exfalso; omega))); (try (revert hzz; intro _)))
  all_goals try (rename Unit => hq; clear hq)
  all_goals try ((with_reducible refine Held.mk ?_); (with_reducible (first | refine Frz.mk ?_ | refine And.intro (Frz.mk ?_) ?_ | refine And.intro ?_ (Frz.mk ?_))); repeat' first | exact True.intro | (change _ = _; with_reducible rfl) | refine And.intro ?_ ?_ | (with_reducible refine Frz.mk ?_))
  all_goals try (refine Held.mk ?_; (try dsimp only at *); (try simp only [resTy, argTy, eqD, inR, big, wantOf, Bool.not_true, Bool.not_false, Bool.true_eq, decide_eq_true_eq, decide_eq_false_iff_not, Bool.not_eq_true', Bool.not_eq_false', Bool.and_eq_true, Prod.mk.injEq, and_true, true_and, Int.not_lt, Int.not_le, gt_iff_lt, ge_iff_le] at *); (try simp only [resTy, argTy, eqD, inR, big, wantOf, Bool.not_true, Bool.not_false, Bool.true_eq, decide_eq_true_eq, decide_eq_false_iff_not, Bool.not_eq_true', Bool.not_eq_false', Bool.and_eq_true, Prod.mk.injEq, and_true, true_and, Int.not_lt, Int.not_le, gt_iff_lt, ge_iff_le, getD_p, hm, hln, Int.toNat_natCast] at *))
  all_goals try omega
  · 
    refine GHeld.mk ?_
    refine Exists.intro 0 ?_
    refine And.intro (Leaf.mk ?_) ?_
    · repeat' first | exact True.intro | refine And.intro ?_ ?_
      all_goals try ((change _ = _ <;> try dsimp only) <;> try with_reducible rfl)
      all_goals try omega
      all_goals (first | exact repl_tab _ _ | exact congrArg List.length (repl_tab _ _))
    exact Nat.zero_le _
  · rename_i k hk hlt
    have := hml k
    omega
  · rename_i k hk hlt
    have := hml k
    omega
  · rename_i k hk hlt
    have b := hbd k (k % q)
    have c := hp k
    exact ⟨(show okI ((flL ps q k).getD (k % q) (0, 0, ())).1 by unfold okI; omega), (show okI ((flL ps q k).getD (k % q) (0, 0, ())).2.1 by unfold okI; omega), (show okI (ps.getD k (0, 0, ())).1 by unfold okI; omega), (show okI (ps.getD k (0, 0, ())).2.1 by unfold okI; omega)⟩
  · rename_i k hk hlt
    have := hml k
    omega
  · rename_i k hk hlt
    have := hml k
    omega
  · rename_i k hk hlt
    have e : (flL ps q k).set ((k : Int).tmod (q : Int)).toNat (plusP ((flL ps q k).getD ((k : Int).tmod (q : Int)).toNat (0, 0, ())) (ps.getD k (0, 0, ()))) = flL ps q (k + 1) := by
      rw [nat_tmod]; exact flL_step (show 0 < q by omega)
    refine GHeld.mk ?_
    refine Exists.intro (k + 1) ?_
    refine And.intro (Leaf.mk ?_) ?_
    · repeat' first | exact True.intro | refine And.intro ?_ ?_
      all_goals try ((change _ = _ <;> try dsimp only) <;> try with_reducible rfl)
      all_goals try omega
      all_goals (first | exact e | exact (tab_len _ _).trans (tab_len _ _).symm)
    exact ⟨by show k + 1 ≤ ps.length; omega, by show ps.length - (k + 1) < ps.length - k; omega⟩
  · rename_i k hk hge
    rw [show k = ps.length by omega]

@[reducible] def sRFold : Spec := { pats := [.dat (.sl PairT), .dat I64], res := [{ own := some 37, t := .sl PairT }], pre := fun x => List.length (α := IP) x.1 ≤ 1024 ∧ okL 16777216 x.1 ∧ 1 ≤ x.2.1 ∧ x.2.1 ≤ (2000000 : Int), f := fun x => (flL x.1 (Int.toNat x.2.1) (List.length (α := IP) x.1), ()) }

end Go.Eng.Pu

namespace Go.Eng.Pu
open Go.Eng Go.Proofs
set_option linter.all false
set_option maxRecDepth 100000
set_option maxHeartbeats 8000000

theorem lP_okL {xs : CL} (h : lE xs = 0) : okL 16777216 (lP xs) := fun i => by
  obtain ⟨g1, g2, g3⟩ := lE_ok h
  unfold lP
  rw [if_pos h]
  by_cases hi : i < xs.length
  · rw [tab_get _ _ _ _ hi]
    obtain ⟨a, b⟩ := eE_zero (g3 i hi)
    have c := pE_zero a
    have d := pE_zero b
    exact ⟨⟨c.2.2.1, c.2.2.2.1⟩, ⟨d.2.2.1, d.2.2.2.1⟩⟩
  · have : (tab (fun i => prT (xs.getD i (0, 0))) xs.length).getD i (0, 0, ()) = (0, 0, ()) := by
      simp only [List.getD]
      rw [List.getElem?_eq_none (by rw [tab_len]; omega)]; rfl
    rw [this]
    exact ⟨⟨by show (-16777216 : Int) ≤ 0; omega, by show (0 : Int) ≤ 16777216; omega⟩, ⟨by show (-16777216 : Int) ≤ 0; omega, by show (0 : Int) ≤ 16777216; omega⟩⟩

theorem okL_mono {B C : Int} {ps : List IP} (h : okL B ps) (hb : B ≤ C) : okL C ps := fun i => by
  have := h i
  omega

def fdE (xs : CL) (p : Int) : Int := if lE xs = 0 then (if 1 ≤ p ∧ p ≤ 1024 then tE (flL (lP xs) p.toNat (lP xs).length) else 2) else lE xs
def fdL (xs : CL) (p : Int) : CL := if lE xs = 0 then (if 1 ≤ p ∧ p ≤ 1024 then tL (flL (lP xs) p.toNat (lP xs).length) else []) else []

@[reducible] def sFolded : Spec := { pats := [.dat (.sl C64), .dat I64], res := [{ own := some 48, t := .sl C64 }, { t := I64 }], pre := fun _ => True, f := fun x => (fdL x.1 x.2.1, fdE x.1 x.2.1, ()) }

theorem two_len (a b : Int) : pLen [a, b].length := by unfold pLen; show ((2 : Nat) : Int) ≤ _; omega

end Go.Eng.Pu
