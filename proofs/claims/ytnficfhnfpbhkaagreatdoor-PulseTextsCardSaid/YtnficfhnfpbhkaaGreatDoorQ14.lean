/- Contracts: whether all numbers of a list are something (a closure is handed on). Conditions: each contract's own. -/
import Derived.Test.YtnficfhnfpbhkaaGreatDoorQ2
namespace Go.Eng.Pu
open Go.Eng Go.Proofs
set_option linter.all false
set_option maxRecDepth 100000
set_option maxHeartbeats 8000000

def findI (p : Int → Bool) : List Int → Nat → Int
  | [], _ => -1
  | x :: r, i => if p x = true then i else findI p r (i + 1)

theorem findI_step {p : Int → Bool} {xs : List Int} {i : Nat} (h : i < xs.length) : findI p (xs.drop i) i = if p (xs.getD i 0) = true then (i : Int) else findI p (xs.drop (i + 1)) (i + 1) := by
  rw [drop_get h]; rfl

theorem findI_any (p : Int → Bool) : ∀ (xs : List Int) (i : Nat), decide (findI p xs i ≥ 0) = xs.any p
  | [], i => by simp [findI]
  | x :: r, i => by
    simp only [findI, List.any_cons]
    by_cases h : p x = true
    · have h2 : (if p x = true then (i : Int) else findI p r (i + 1)) = i := if_pos h
      simp only [h, if_true, Bool.true_or, decide_eq_true_eq]
      omega
    · have h' : p x = false := by simpa using h
      simp only [h', Bool.false_eq_true, if_false, Bool.false_or]
      exact findI_any p r (i + 1)

theorem any_not (p : Int → Bool) : ∀ (xs : List Int), (!xs.any fun n => !p n) = xs.all p
  | [] => rfl
  | x :: r => by simp only [List.any_cons, List.all_cons, ← any_not p r, Bool.not_or, Bool.not_not]


abbrev clTR : Ty := .clo 90 (.cons (.ptr (.fnl 87)) .nil)
abbrev ntR (n : Int) : Bool := !fRec n
@[reducible] def sLitR : Spec := { pats := [.dat I64, .dat (.ptr (.fnl 87))], res := [{ t := .bool }], pre := fun _ => True, f := fun x => (ntR x.1, ()) }

/-- allIn's closure -/
theorem h156R : Ok 90 sLitR := by
  refine mk (ctr := [(87, sRec)]) ⟨h117, trivial⟩ (nt := 8) Tryz.func90 rfl rfl rfl rfl (by kernel_rfl) (by kernel_rfl) (fun _ => []) ?_
  rintro ⟨(n : Int), _⟩ _
  repeat' (intro hzz; (try (rename Two => hq; cases hq)); (try dsimp only at hzz); (try simp only [resTy, argTy, eqD, inR, big, wantOf, Bool.not_true, Bool.not_false, Bool.true_eq, decide_eq_true_eq, decide_eq_false_iff_not, Bool.not_eq_true', Bool.not_eq_false', Bool.and_eq_true, Prod.mk.injEq, and_true, true_and, Int.not_lt, Int.not_le, gt_iff_lt, ge_iff_le] at hzz); (try (revert hzz; intro _)))
  all_goals try (rename Unit => hq; clear hq)
  all_goals try ((with_reducible refine Held.mk ?_); (with_reducible (first | refine Frz.mk ?_ | refine And.intro (Frz.mk ?_) ?_ | refine And.intro ?_ (Frz.mk ?_))); repeat' first | exact True.intro | (change _ = _; with_reducible rfl) | refine And.intro ?_ ?_ | (with_reducible refine Frz.mk ?_))
  all_goals try (refine Held.mk ?_; (try dsimp only at *); (try simp only [resTy, argTy, eqD, inR, big, wantOf, Bool.not_true, Bool.not_false, Bool.true_eq, decide_eq_true_eq, decide_eq_false_iff_not, Bool.not_eq_true', Bool.not_eq_false', Bool.and_eq_true, Prod.mk.injEq, and_true, true_and, Int.not_lt, Int.not_le, gt_iff_lt, ge_iff_le] at *))

@[reducible] def sIdxR : Spec := { pats := [.dat (.sl I64), .dat clTR], res := [{ t := I64 }], pre := fun x => pLen (List.length (α := Int) x.1), f := fun x => (findI ntR x.1 0, ()) }

/-- slices.IndexFunc, with allIn's closure -/
theorem h160R : Ok 105 sIdxR := by
  refine mk (ctr := [(90, sLitR)]) ⟨h156R, trivial⟩ (nt := 19) Tryz.func105 rfl rfl rfl rfl (by kernel_rfl) (by kernel_rfl) (fun x => [fun _ => { σ := Nat, pat := fun i => [sI 8 i], inv := fun i => i ≤ List.length (α := Int) x.1 ∧ findI ntR (List.drop (α := Int) i x.1) i = findI ntR x.1 0, meas := fun i => List.length (α := Int) x.1 - i }]) ?_
  rintro ⟨(xs : List Int), c, _⟩ (hp : pLen xs.length)
  have := hp.out
  repeat' (intro hzz; (try (rename Two => hq; cases hq)); (try dsimp only at hzz); (try simp only [resTy, argTy, eqD, inR, big, wantOf, Bool.not_true, Bool.not_false, Bool.true_eq, decide_eq_true_eq, decide_eq_false_iff_not, Bool.not_eq_true', Bool.not_eq_false', Bool.and_eq_true, Prod.mk.injEq, and_true, true_and, Int.not_lt, Int.not_le, gt_iff_lt, ge_iff_le] at hzz); (try simp only [resTy, argTy, eqD, inR, big, wantOf, Bool.not_true, Bool.not_false, Bool.true_eq, decide_eq_true_eq, decide_eq_false_iff_not, Bool.not_eq_true', Bool.not_eq_false', Bool.and_eq_true, Prod.mk.injEq, and_true, true_and, Int.not_lt, Int.not_le, gt_iff_lt, ge_iff_le, getD_i] at hzz); (try (first | contradiction | (exfalso; omega))); (try (revert hzz; intro _)))
  all_goals try (rename Unit => hq; clear hq)
  all_goals try ((with_reducible refine Held.mk ?_); (with_reducible (first | refine Frz.mk ?_ | refine And.intro (Frz.mk ?_) ?_ | refine And.intro ?_ (Frz.mk ?_))); repeat' first | exact True.intro | (change _ = _; with_reducible rfl) | refine And.intro ?_ ?_ | (with_reducible refine Frz.mk ?_))
  all_goals try (refine Held.mk ?_; (try dsimp only at *); (try simp only [resTy, argTy, eqD, inR, big, wantOf, Bool.not_true, Bool.not_false, Bool.true_eq, decide_eq_true_eq, decide_eq_false_iff_not, Bool.not_eq_true', Bool.not_eq_false', Bool.and_eq_true, Prod.mk.injEq, and_true, true_and, Int.not_lt, Int.not_le, gt_iff_lt, ge_iff_le] at *); (try simp only [resTy, argTy, eqD, inR, big, wantOf, Bool.not_true, Bool.not_false, Bool.true_eq, decide_eq_true_eq, decide_eq_false_iff_not, Bool.not_eq_true', Bool.not_eq_false', Bool.and_eq_true, Prod.mk.injEq, and_true, true_and, Int.not_lt, Int.not_le, gt_iff_lt, ge_iff_le, getD_i] at *))
  all_goals try omega
  · 
    refine GHeld.mk ?_
    refine Exists.intro 0 ?_
    refine And.intro (Leaf.mk ?_) ?_
    · repeat' first | exact True.intro | refine And.intro ?_ ?_
      all_goals try ((change _ = _ <;> try dsimp only) <;> try with_reducible rfl)
      all_goals try omega
    exact ⟨Nat.zero_le _, rfl⟩
  · rename_i i hi hg h
    have h1 := findI_step (p := ntR) (xs := xs) (i := i) (by omega)
    have h2 : ntR (xs.getD i 0) = true := by
      have h' : fRec (xs.getD i 0) = false := decide_eq_false h
      simp only [ntR, h', Bool.not_false]
    rw [if_pos h2] at h1
    exact h1.symm.trans hi.2
  · rename_i i hi hg h
    have h1 := findI_step (p := ntR) (xs := xs) (i := i) (by omega)
    have h2 : ¬ ntR (xs.getD i 0) = true := by
      have h' : fRec (xs.getD i 0) = true := decide_eq_true h
      simp only [ntR, h', Bool.not_true]; decide
    rw [if_neg h2] at h1
    refine GHeld.mk ?_
    refine Exists.intro (i + 1) ?_
    refine And.intro (Leaf.mk ?_) ?_
    · repeat' first | exact True.intro | refine And.intro ?_ ?_
      all_goals try ((change _ = _ <;> try dsimp only) <;> try with_reducible rfl)
      all_goals try omega
    exact ⟨⟨by show i + 1 ≤ xs.length; omega, h1.symm.trans hi.2⟩, by show xs.length - (i + 1) < xs.length - i; omega⟩
  · rename_i i hi hg
    have h1 := hi.2
    rw [List.drop_eq_nil_of_le (by omega)] at h1
    exact h1

@[reducible] def sContR : Spec := { pats := [.dat (.sl I64), .dat clTR], res := [{ t := .bool }], pre := fun x => pLen (List.length (α := Int) x.1), f := fun x => (List.any (α := Int) x.1 ntR, ()) }

/-- slices.ContainsFunc, with allIn's closure -/
theorem h155R : Ok 89 sContR := by
  refine mk (ctr := [(105, sIdxR)]) ⟨h160R, trivial⟩ (nt := 9) Tryz.func89 rfl rfl rfl rfl (by kernel_rfl) (by kernel_rfl) (fun _ => []) ?_
  rintro ⟨(xs : List Int), c, _⟩ (hp : pLen xs.length)
  repeat' (intro hzz; (try (rename Two => hq; cases hq)); (try dsimp only at hzz); (try simp only [resTy, argTy, eqD, inR, big, wantOf, Bool.not_true, Bool.not_false, Bool.true_eq, decide_eq_true_eq, decide_eq_false_iff_not, Bool.not_eq_true', Bool.not_eq_false', Bool.and_eq_true, Prod.mk.injEq, and_true, true_and, Int.not_lt, Int.not_le, gt_iff_lt, ge_iff_le] at hzz); (try (revert hzz; intro _)))
  all_goals try (rename Unit => hq; clear hq)
  all_goals try ((with_reducible refine Held.mk ?_); (with_reducible (first | refine Frz.mk ?_ | refine And.intro (Frz.mk ?_) ?_ | refine And.intro ?_ (Frz.mk ?_))); repeat' first | exact True.intro | (change _ = _; with_reducible rfl) | refine And.intro ?_ ?_ | (with_reducible refine Frz.mk ?_))
  all_goals try (refine Held.mk ?_; (try dsimp only at *); (try simp only [resTy, argTy, eqD, inR, big, wantOf, Bool.not_true, Bool.not_false, Bool.true_eq, decide_eq_true_eq, decide_eq_false_iff_not, Bool.not_eq_true', Bool.not_eq_false', Bool.and_eq_true, Prod.mk.injEq, and_true, true_and, Int.not_lt, Int.not_le, gt_iff_lt, ge_iff_le] at *))
  · exact hp
  · exact findI_any _ _ _

@[reducible] def sAllR : Spec := { pats := [.dat (.sl I64), .lit (.func (.func 87) #[] #[])], res := [{ t := .bool }], pre := fun x => pLen (List.length (α := Int) x.1), f := fun x => (List.all (α := Int) x.1 (fun n => fRec n), ()) }

@[reducible] def xCR : Xt := { clos := [(90, [.fnl 87])] }
theorem xCR_ok : Its xCR.its := True.intro

/-- allIn -/
theorem h116R : Ok 67 sAllR := by
  refine mkX (X := xCR) (hX := xCR_ok) (ctr := [(89, sContR)]) ⟨h155R, trivial⟩ (nt := 9) Tryz.func67 rfl rfl rfl rfl (by kernel_rfl) (by kernel_rfl) (fun _ => []) ?_
  rintro ⟨(xs : List Int), _⟩ (hp : pLen xs.length)
  repeat' (intro hzz; (try (rename Two => hq; cases hq)); (try dsimp only at hzz); (try simp only [resTy, argTy, eqD, inR, big, wantOf, Bool.not_true, Bool.not_false, Bool.true_eq, decide_eq_true_eq, decide_eq_false_iff_not, Bool.not_eq_true', Bool.not_eq_false', Bool.and_eq_true, Prod.mk.injEq, and_true, true_and, Int.not_lt, Int.not_le, gt_iff_lt, ge_iff_le] at hzz); (try (revert hzz; intro _)))
  all_goals try (rename Unit => hq; clear hq)
  all_goals try ((with_reducible refine Held.mk ?_); (with_reducible (first | refine Frz.mk ?_ | refine And.intro (Frz.mk ?_) ?_ | refine And.intro ?_ (Frz.mk ?_))); repeat' first | exact True.intro | (change _ = _; with_reducible rfl) | refine And.intro ?_ ?_ | (with_reducible refine Frz.mk ?_))
  all_goals try (refine Held.mk ?_; (try dsimp only at *); (try simp only [resTy, argTy, eqD, inR, big, wantOf, Bool.not_true, Bool.not_false, Bool.true_eq, decide_eq_true_eq, decide_eq_false_iff_not, Bool.not_eq_true', Bool.not_eq_false', Bool.and_eq_true, Prod.mk.injEq, and_true, true_and, Int.not_lt, Int.not_le, gt_iff_lt, ge_iff_le] at *))
  · exact hp
  · exact any_not _ _

abbrev clTP : Ty := .clo 90 (.cons (.ptr (.fnl 68)) .nil)
abbrev ntP (n : Int) : Bool := !fPrm n
@[reducible] def sLitP : Spec := { pats := [.dat I64, .dat (.ptr (.fnl 68))], res := [{ t := .bool }], pre := fun _ => True, f := fun x => (ntP x.1, ()) }

/-- allIn's closure -/
theorem h156P : Ok 90 sLitP := by
  refine mk (ctr := [(68, sPrm)]) ⟨h152, trivial⟩ (nt := 8) Tryz.func90 rfl rfl rfl rfl (by kernel_rfl) (by kernel_rfl) (fun _ => []) ?_
  rintro ⟨(n : Int), _⟩ _
  repeat' (intro hzz; (try (rename Two => hq; cases hq)); (try dsimp only at hzz); (try simp only [resTy, argTy, eqD, inR, big, wantOf, Bool.not_true, Bool.not_false, Bool.true_eq, decide_eq_true_eq, decide_eq_false_iff_not, Bool.not_eq_true', Bool.not_eq_false', Bool.and_eq_true, Prod.mk.injEq, and_true, true_and, Int.not_lt, Int.not_le, gt_iff_lt, ge_iff_le] at hzz); (try (revert hzz; intro _)))
  all_goals try (rename Unit => hq; clear hq)
  all_goals try ((with_reducible refine Held.mk ?_); (with_reducible (first | refine Frz.mk ?_ | refine And.intro (Frz.mk ?_) ?_ | refine And.intro ?_ (Frz.mk ?_))); repeat' first | exact True.intro | (change _ = _; with_reducible rfl) | refine And.intro ?_ ?_ | (with_reducible refine Frz.mk ?_))
  all_goals try (refine Held.mk ?_; (try dsimp only at *); (try simp only [resTy, argTy, eqD, inR, big, wantOf, Bool.not_true, Bool.not_false, Bool.true_eq, decide_eq_true_eq, decide_eq_false_iff_not, Bool.not_eq_true', Bool.not_eq_false', Bool.and_eq_true, Prod.mk.injEq, and_true, true_and, Int.not_lt, Int.not_le, gt_iff_lt, ge_iff_le] at *))

@[reducible] def sIdxP : Spec := { pats := [.dat (.sl I64), .dat clTP], res := [{ t := I64 }], pre := fun x => pLen (List.length (α := Int) x.1), f := fun x => (findI ntP x.1 0, ()) }

/-- slices.IndexFunc, with allIn's closure -/
theorem h160P : Ok 105 sIdxP := by
  refine mk (ctr := [(90, sLitP)]) ⟨h156P, trivial⟩ (nt := 19) Tryz.func105 rfl rfl rfl rfl (by kernel_rfl) (by kernel_rfl) (fun x => [fun _ => { σ := Nat, pat := fun i => [sI 8 i], inv := fun i => i ≤ List.length (α := Int) x.1 ∧ findI ntP (List.drop (α := Int) i x.1) i = findI ntP x.1 0, meas := fun i => List.length (α := Int) x.1 - i }]) ?_
  rintro ⟨(xs : List Int), c, _⟩ (hp : pLen xs.length)
  have := hp.out
  repeat' (intro hzz; (try (rename Two => hq; cases hq)); (try dsimp only at hzz); (try simp only [resTy, argTy, eqD, inR, big, wantOf, Bool.not_true, Bool.not_false, Bool.true_eq, decide_eq_true_eq, decide_eq_false_iff_not, Bool.not_eq_true', Bool.not_eq_false', Bool.and_eq_true, Prod.mk.injEq, and_true, true_and, Int.not_lt, Int.not_le, gt_iff_lt, ge_iff_le] at hzz); (try simp only [resTy, argTy, eqD, inR, big, wantOf, Bool.not_true, Bool.not_false, Bool.true_eq, decide_eq_true_eq, decide_eq_false_iff_not, Bool.not_eq_true', Bool.not_eq_false', Bool.and_eq_true, Prod.mk.injEq, and_true, true_and, Int.not_lt, Int.not_le, gt_iff_lt, ge_iff_le, getD_i] at hzz); (try (first | contradiction | (exfalso; omega))); (try (revert hzz; intro _)))
  all_goals try (rename Unit => hq; clear hq)
  all_goals try ((with_reducible refine Held.mk ?_); (with_reducible (first | refine Frz.mk ?_ | refine And.intro (Frz.mk ?_) ?_ | refine And.intro ?_ (Frz.mk ?_))); repeat' first | exact True.intro | (change _ = _; with_reducible rfl) | refine And.intro ?_ ?_ | (with_reducible refine Frz.mk ?_))
  all_goals try (refine Held.mk ?_; (try dsimp only at *); (try simp only [resTy, argTy, eqD, inR, big, wantOf, Bool.not_true, Bool.not_false, Bool.true_eq, decide_eq_true_eq, decide_eq_false_iff_not, Bool.not_eq_true', Bool.not_eq_false', Bool.and_eq_true, Prod.mk.injEq, and_true, true_and, Int.not_lt, Int.not_le, gt_iff_lt, ge_iff_le] at *); (try simp only [resTy, argTy, eqD, inR, big, wantOf, Bool.not_true, Bool.not_false, Bool.true_eq, decide_eq_true_eq, decide_eq_false_iff_not, Bool.not_eq_true', Bool.not_eq_false', Bool.and_eq_true, Prod.mk.injEq, and_true, true_and, Int.not_lt, Int.not_le, gt_iff_lt, ge_iff_le, getD_i] at *))
  all_goals try omega
  · 
    refine GHeld.mk ?_
    refine Exists.intro 0 ?_
    refine And.intro (Leaf.mk ?_) ?_
    · repeat' first | exact True.intro | refine And.intro ?_ ?_
      all_goals try ((change _ = _ <;> try dsimp only) <;> try with_reducible rfl)
      all_goals try omega
    exact ⟨Nat.zero_le _, rfl⟩
  · rename_i i hi hg h
    have h1 := findI_step (p := ntP) (xs := xs) (i := i) (by omega)
    have h2 : ntP (xs.getD i 0) = true := by
      have h' : fPrm (xs.getD i 0) = false := decide_eq_false h
      simp only [ntP, h', Bool.not_false]
    rw [if_pos h2] at h1
    exact h1.symm.trans hi.2
  · rename_i i hi hg h
    have h1 := findI_step (p := ntP) (xs := xs) (i := i) (by omega)
    have h2 : ¬ ntP (xs.getD i 0) = true := by
      have h' : fPrm (xs.getD i 0) = true := decide_eq_true h
      simp only [ntP, h', Bool.not_true]; decide
    rw [if_neg h2] at h1
    refine GHeld.mk ?_
    refine Exists.intro (i + 1) ?_
    refine And.intro (Leaf.mk ?_) ?_
    · repeat' first | exact True.intro | refine And.intro ?_ ?_
      all_goals try ((change _ = _ <;> try dsimp only) <;> try with_reducible rfl)
      all_goals try omega
    exact ⟨⟨by show i + 1 ≤ xs.length; omega, h1.symm.trans hi.2⟩, by show xs.length - (i + 1) < xs.length - i; omega⟩
  · rename_i i hi hg
    have h1 := hi.2
    rw [List.drop_eq_nil_of_le (by omega)] at h1
    exact h1

@[reducible] def sContP : Spec := { pats := [.dat (.sl I64), .dat clTP], res := [{ t := .bool }], pre := fun x => pLen (List.length (α := Int) x.1), f := fun x => (List.any (α := Int) x.1 ntP, ()) }

/-- slices.ContainsFunc, with allIn's closure -/
theorem h155P : Ok 89 sContP := by
  refine mk (ctr := [(105, sIdxP)]) ⟨h160P, trivial⟩ (nt := 9) Tryz.func89 rfl rfl rfl rfl (by kernel_rfl) (by kernel_rfl) (fun _ => []) ?_
  rintro ⟨(xs : List Int), c, _⟩ (hp : pLen xs.length)
  repeat' (intro hzz; (try (rename Two => hq; cases hq)); (try dsimp only at hzz); (try simp only [resTy, argTy, eqD, inR, big, wantOf, Bool.not_true, Bool.not_false, Bool.true_eq, decide_eq_true_eq, decide_eq_false_iff_not, Bool.not_eq_true', Bool.not_eq_false', Bool.and_eq_true, Prod.mk.injEq, and_true, true_and, Int.not_lt, Int.not_le, gt_iff_lt, ge_iff_le] at hzz); (try (revert hzz; intro _)))
  all_goals try (rename Unit => hq; clear hq)
  all_goals try ((with_reducible refine Held.mk ?_); (with_reducible (first | refine Frz.mk ?_ | refine And.intro (Frz.mk ?_) ?_ | refine And.intro ?_ (Frz.mk ?_))); repeat' first | exact True.intro | (change _ = _; with_reducible rfl) | refine And.intro ?_ ?_ | (with_reducible refine Frz.mk ?_))
  all_goals try (refine Held.mk ?_; (try dsimp only at *); (try simp only [resTy, argTy, eqD, inR, big, wantOf, Bool.not_true, Bool.not_false, Bool.true_eq, decide_eq_true_eq, decide_eq_false_iff_not, Bool.not_eq_true', Bool.not_eq_false', Bool.and_eq_true, Prod.mk.injEq, and_true, true_and, Int.not_lt, Int.not_le, gt_iff_lt, ge_iff_le] at *))
  · exact hp
  · exact findI_any _ _ _

@[reducible] def sAllP : Spec := { pats := [.dat (.sl I64), .lit (.func (.func 68) #[] #[])], res := [{ t := .bool }], pre := fun x => pLen (List.length (α := Int) x.1), f := fun x => (List.all (α := Int) x.1 (fun n => fPrm n), ()) }

@[reducible] def xCP : Xt := { clos := [(90, [.fnl 68])] }
theorem xCP_ok : Its xCP.its := True.intro

/-- allIn -/
theorem h116P : Ok 67 sAllP := by
  refine mkX (X := xCP) (hX := xCP_ok) (ctr := [(89, sContP)]) ⟨h155P, trivial⟩ (nt := 9) Tryz.func67 rfl rfl rfl rfl (by kernel_rfl) (by kernel_rfl) (fun _ => []) ?_
  rintro ⟨(xs : List Int), _⟩ (hp : pLen xs.length)
  repeat' (intro hzz; (try (rename Two => hq; cases hq)); (try dsimp only at hzz); (try simp only [resTy, argTy, eqD, inR, big, wantOf, Bool.not_true, Bool.not_false, Bool.true_eq, decide_eq_true_eq, decide_eq_false_iff_not, Bool.not_eq_true', Bool.not_eq_false', Bool.and_eq_true, Prod.mk.injEq, and_true, true_and, Int.not_lt, Int.not_le, gt_iff_lt, ge_iff_le] at hzz); (try (revert hzz; intro _)))
  all_goals try (rename Unit => hq; clear hq)
  all_goals try ((with_reducible refine Held.mk ?_); (with_reducible (first | refine Frz.mk ?_ | refine And.intro (Frz.mk ?_) ?_ | refine And.intro ?_ (Frz.mk ?_))); repeat' first | exact True.intro | (change _ = _; with_reducible rfl) | refine And.intro ?_ ?_ | (with_reducible refine Frz.mk ?_))
  all_goals try (refine Held.mk ?_; (try dsimp only at *); (try simp only [resTy, argTy, eqD, inR, big, wantOf, Bool.not_true, Bool.not_false, Bool.true_eq, decide_eq_true_eq, decide_eq_false_iff_not, Bool.not_eq_true', Bool.not_eq_false', Bool.and_eq_true, Prod.mk.injEq, and_true, true_and, Int.not_lt, Int.not_le, gt_iff_lt, ge_iff_le] at *))
  · exact hp
  · exact any_not _ _

end Go.Eng.Pu
