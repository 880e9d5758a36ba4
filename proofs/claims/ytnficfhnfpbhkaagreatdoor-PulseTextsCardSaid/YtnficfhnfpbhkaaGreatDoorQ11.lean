/- Contracts: pairs; a float's error as a part. Conditions: each contract's own. -/
import Derived.Test.YtnficfhnfpbhkaaGreatDoorQ8
namespace Go.Eng.Pu
open Go.Eng Go.Proofs
set_option linter.all false
set_option maxRecDepth 100000
set_option maxHeartbeats 8000000

abbrev okI (n : Int) : Prop := -4000000000000000000 ≤ n ∧ n ≤ 4000000000000000000
@[reducible] def sPlus : Spec := { pats := [.dat PairT, .dat PairT], res := [{ t := PairT }], pre := fun x => okI x.1.1 ∧ okI x.1.2.1 ∧ okI x.2.1.1 ∧ okI x.2.1.2.1, f := fun x => ((x.1.1 + x.2.1.1, x.1.2.1 + x.2.1.2.1, ()), ()) }

/-- pair.plus -/
theorem h122 : Ok 60 sPlus := by
  refine mk (ctr := []) trivial (nt := 16) Tryz.func60 rfl rfl rfl rfl (by kernel_rfl) (by kernel_rfl) (fun _ => []) ?_
  rintro ⟨⟨(a : Int), (b : Int), _⟩, ⟨(c : Int), (d : Int), _⟩, _⟩ ⟨(h1 : okI a), (h2 : okI b), (h3 : okI c), (h4 : okI d)⟩
  repeat' (intro hzz; (try (rename Two => hq; cases hq)); (try dsimp only at hzz); (try simp only [resTy, argTy, eqD, inR, big, wantOf, Bool.not_true, Bool.not_false, Bool.true_eq, decide_eq_true_eq, decide_eq_false_iff_not, Bool.not_eq_true', Bool.not_eq_false', Bool.and_eq_true, Prod.mk.injEq, and_true, true_and, Int.not_lt, Int.not_le, gt_iff_lt, ge_iff_le] at hzz); (try simp only [resTy, argTy, eqD, inR, big, wantOf, Bool.not_true, Bool.not_false, Bool.true_eq, decide_eq_true_eq, decide_eq_false_iff_not, Bool.not_eq_true', Bool.not_eq_false', Bool.and_eq_true, Prod.mk.injEq, and_true, true_and, Int.not_lt, Int.not_le, gt_iff_lt, ge_iff_le, okI] at hzz); (try (revert hzz; intro _)))
  all_goals try (rename Unit => hq; clear hq)
  all_goals try ((with_reducible refine Held.mk ?_); (with_reducible (first | refine Frz.mk ?_ | refine And.intro (Frz.mk ?_) ?_ | refine And.intro ?_ (Frz.mk ?_))); repeat' first | exact True.intro | (change _ = _; with_reducible rfl) | refine And.intro ?_ ?_ | (with_reducible refine Frz.mk ?_))
  all_goals try (refine Held.mk ?_; (try dsimp only at *); (try simp only [resTy, argTy, eqD, inR, big, wantOf, Bool.not_true, Bool.not_false, Bool.true_eq, decide_eq_true_eq, decide_eq_false_iff_not, Bool.not_eq_true', Bool.not_eq_false', Bool.and_eq_true, Prod.mk.injEq, and_true, true_and, Int.not_lt, Int.not_le, gt_iff_lt, ge_iff_le] at *); (try simp only [resTy, argTy, eqD, inR, big, wantOf, Bool.not_true, Bool.not_false, Bool.true_eq, decide_eq_true_eq, decide_eq_false_iff_not, Bool.not_eq_true', Bool.not_eq_false', Bool.and_eq_true, Prod.mk.injEq, and_true, true_and, Int.not_lt, Int.not_le, gt_iff_lt, ge_iff_le, okI] at *))
  all_goals try omega

abbrev okP (n : Int) : Prop := -1000000000 ≤ n ∧ n ≤ 1000000000
theorem mul_ok {a b : Int} (ha : okP a) (hb : okP b) : okI (a * b) := by
  have h1 : a.natAbs ≤ 1000000000 := by unfold okP at ha; omega
  have h2 : b.natAbs ≤ 1000000000 := by unfold okP at hb; omega
  have h3 : (a * b).natAbs ≤ 1000000000 * 1000000000 := by rw [Int.natAbs_mul]; exact Nat.mul_le_mul h1 h2
  unfold okI; omega

@[reducible] def sBy : Spec := { pats := [.dat PairT, .dat I64], res := [{ t := PairT }], pre := fun x => okP x.1.1 ∧ okP x.1.2.1 ∧ okP x.2.1, f := fun x => ((x.1.1 * x.2.1, x.1.2.1 * x.2.1, ()), ()) }

/-- pair.by -/
theorem h149 : Ok 63 sBy := by
  refine mk (ctr := []) trivial (nt := 14) Tryz.func63 rfl rfl rfl rfl (by kernel_rfl) (by kernel_rfl) (fun _ => []) ?_
  rintro ⟨⟨(a : Int), (b : Int), _⟩, (c : Int), _⟩ ⟨(h1 : okP a), (h2 : okP b), (h3 : okP c)⟩
  have h4 := mul_ok h1 h3
  have h5 := mul_ok h2 h3
  repeat' (intro hzz; (try (rename Two => hq; cases hq)); (try dsimp only at hzz); (try simp only [resTy, argTy, eqD, inR, big, wantOf, Bool.not_true, Bool.not_false, Bool.true_eq, decide_eq_true_eq, decide_eq_false_iff_not, Bool.not_eq_true', Bool.not_eq_false', Bool.and_eq_true, Prod.mk.injEq, and_true, true_and, Int.not_lt, Int.not_le, gt_iff_lt, ge_iff_le] at hzz); (try simp only [resTy, argTy, eqD, inR, big, wantOf, Bool.not_true, Bool.not_false, Bool.true_eq, decide_eq_true_eq, decide_eq_false_iff_not, Bool.not_eq_true', Bool.not_eq_false', Bool.and_eq_true, Prod.mk.injEq, and_true, true_and, Int.not_lt, Int.not_le, gt_iff_lt, ge_iff_le, okI, okP] at hzz); (try (revert hzz; intro _)))
  all_goals try (rename Unit => hq; clear hq)
  all_goals try ((with_reducible refine Held.mk ?_); (with_reducible (first | refine Frz.mk ?_ | refine And.intro (Frz.mk ?_) ?_ | refine And.intro ?_ (Frz.mk ?_))); repeat' first | exact True.intro | (change _ = _; with_reducible rfl) | refine And.intro ?_ ?_ | (with_reducible refine Frz.mk ?_))
  all_goals try (refine Held.mk ?_; (try dsimp only at *); (try simp only [resTy, argTy, eqD, inR, big, wantOf, Bool.not_true, Bool.not_false, Bool.true_eq, decide_eq_true_eq, decide_eq_false_iff_not, Bool.not_eq_true', Bool.not_eq_false', Bool.and_eq_true, Prod.mk.injEq, and_true, true_and, Int.not_lt, Int.not_le, gt_iff_lt, ge_iff_le] at *); (try simp only [resTy, argTy, eqD, inR, big, wantOf, Bool.not_true, Bool.not_false, Bool.true_eq, decide_eq_true_eq, decide_eq_false_iff_not, Bool.not_eq_true', Bool.not_eq_false', Bool.and_eq_true, Prod.mk.injEq, and_true, true_and, Int.not_lt, Int.not_le, gt_iff_lt, ge_iff_le, okI, okP] at *))
  all_goals try omega

@[reducible] def sFits : Spec := { pats := [.dat PairT], res := [{ t := .bool }], pre := fun x => True, f := fun x => (fRec x.1.1 && fRec x.1.2.1, ()) }

/-- pair.fits -/
theorem h137 : Ok 61 sFits := by
  refine mk (ctr := [(87, sRec)]) ⟨h117, trivial⟩ (nt := 11) Tryz.func61 rfl rfl rfl rfl (by kernel_rfl) (by kernel_rfl) (fun _ => []) ?_
  rintro ⟨⟨(a : Int), (b : Int), _⟩, _⟩ _
  repeat' (intro hzz; (try (rename Two => hq; cases hq)); (try dsimp only at hzz); (try simp only [resTy, argTy, eqD, inR, big, wantOf, Bool.not_true, Bool.not_false, Bool.true_eq, decide_eq_true_eq, decide_eq_false_iff_not, Bool.not_eq_true', Bool.not_eq_false', Bool.and_eq_true, Prod.mk.injEq, and_true, true_and, Int.not_lt, Int.not_le, gt_iff_lt, ge_iff_le] at hzz); (try simp only [resTy, argTy, eqD, inR, big, wantOf, Bool.not_true, Bool.not_false, Bool.true_eq, decide_eq_true_eq, decide_eq_false_iff_not, Bool.not_eq_true', Bool.not_eq_false', Bool.and_eq_true, Prod.mk.injEq, and_true, true_and, Int.not_lt, Int.not_le, gt_iff_lt, ge_iff_le, fRec] at hzz); (try (revert hzz; intro _)))
  all_goals try (rename Unit => hq; clear hq)
  all_goals try ((with_reducible refine Held.mk ?_); (with_reducible (first | refine Frz.mk ?_ | refine And.intro (Frz.mk ?_) ?_ | refine And.intro ?_ (Frz.mk ?_))); repeat' first | exact True.intro | (change _ = _; with_reducible rfl) | refine And.intro ?_ ?_ | (with_reducible refine Frz.mk ?_))
  all_goals try (refine Held.mk ?_; (try dsimp only at *); (try simp only [resTy, argTy, eqD, inR, big, wantOf, Bool.not_true, Bool.not_false, Bool.true_eq, decide_eq_true_eq, decide_eq_false_iff_not, Bool.not_eq_true', Bool.not_eq_false', Bool.and_eq_true, Prod.mk.injEq, and_true, true_and, Int.not_lt, Int.not_le, gt_iff_lt, ge_iff_le] at *); (try simp only [resTy, argTy, eqD, inR, big, wantOf, Bool.not_true, Bool.not_false, Bool.true_eq, decide_eq_true_eq, decide_eq_false_iff_not, Bool.not_eq_true', Bool.not_eq_false', Bool.and_eq_true, Prod.mk.injEq, and_true, true_and, Int.not_lt, Int.not_le, gt_iff_lt, ge_iff_le, fRec] at *))
  · rename_i h; simp [fWithin, h]
  · rename_i h; simp [fWithin, h]

@[reducible] def sNumber : Spec := { pats := [.dat PairT], res := [{ t := C64 }], pre := fun x => True, f := fun x => ((floatOfInt .f32 x.1.1, floatOfInt .f32 x.1.2.1), ()) }

/-- pair.number -/
theorem h148 : Ok 62 sNumber := by
  refine mk (ctr := []) trivial (nt := 10) Tryz.func62 rfl rfl rfl rfl (by kernel_rfl) (by kernel_rfl) (fun _ => []) ?_
  rintro ⟨⟨(a : Int), (b : Int), _⟩, _⟩ _
  repeat' (intro hzz; (try (rename Two => hq; cases hq)); (try dsimp only at hzz); (try simp only [resTy, argTy, eqD, inR, big, wantOf, Bool.not_true, Bool.not_false, Bool.true_eq, decide_eq_true_eq, decide_eq_false_iff_not, Bool.not_eq_true', Bool.not_eq_false', Bool.and_eq_true, Prod.mk.injEq, and_true, true_and, Int.not_lt, Int.not_le, gt_iff_lt, ge_iff_le] at hzz); (try (revert hzz; intro _)))
  all_goals try (rename Unit => hq; clear hq)
  all_goals try ((with_reducible refine Held.mk ?_); (with_reducible (first | refine Frz.mk ?_ | refine And.intro (Frz.mk ?_) ?_ | refine And.intro ?_ (Frz.mk ?_))); repeat' first | exact True.intro | (change _ = _; with_reducible rfl) | refine And.intro ?_ ?_ | (with_reducible refine Frz.mk ?_))
  all_goals try (refine Held.mk ?_; (try dsimp only at *); (try simp only [resTy, argTy, eqD, inR, big, wantOf, Bool.not_true, Bool.not_false, Bool.true_eq, decide_eq_true_eq, decide_eq_false_iff_not, Bool.not_eq_true', Bool.not_eq_false', Bool.and_eq_true, Prod.mk.injEq, and_true, true_and, Int.not_lt, Int.not_le, gt_iff_lt, ge_iff_le] at *))

/-- What is asked of a float that is tried as a part: that what the program makes of it is told. -/
def pPart (x : Nat) : Prop := (FloatKind.f32.format.sub x x).isSome = true ∧ (floatToIntVal .f32 x .i64).isSome = true
def fPart (x : Nat) : Int :=
  if (FloatKind.f32.format.order x x != some .eq) = true then 27 else
  if (FloatKind.f32.format.order ((FloatKind.f32.format.sub x x).getD 0) 0 != some .eq) = true then 27 else
  if (FloatKind.f32.format.order x 1266679808 == some .gt) = true then 2 else
  if (FloatKind.f32.format.order x 3414163456 == some .lt) = true then 2 else
  cond (FloatKind.f32.format.order (floatOfInt .f32 ((floatToIntVal .f32 x .i64).getD 0)) x == some .eq) 0 27

@[reducible] def sPart : Spec := { pats := [.dat F32], res := [{ t := I64 }], pre := fun x => pPart x.1, f := fun x => (fPart x.1, ()) }

/-- partErr -/
theorem h147 : Ok 59 sPart := by
  refine mk (ctr := [(33, sUnless)]) ⟨h85, trivial⟩ (nt := 26) Tryz.func59 rfl rfl rfl rfl (by kernel_rfl) (by kernel_rfl) (fun _ => []) ?_
  rintro ⟨(x : Nat), _⟩ ⟨h1, h2⟩
  repeat' (intro hzz; (try (rename Two => hq; cases hq)); (try dsimp only at hzz); (try simp only [resTy, argTy, eqD, inR, big, wantOf, Bool.not_true, Bool.not_false, Bool.true_eq, decide_eq_true_eq, decide_eq_false_iff_not, Bool.not_eq_true', Bool.not_eq_false', Bool.and_eq_true, Prod.mk.injEq, and_true, true_and, Int.not_lt, Int.not_le, gt_iff_lt, ge_iff_le] at hzz); (try (revert hzz; intro _)))
  all_goals try (rename Unit => hq; clear hq)
  all_goals try ((with_reducible refine Held.mk ?_); (with_reducible (first | refine Frz.mk ?_ | refine And.intro (Frz.mk ?_) ?_ | refine And.intro ?_ (Frz.mk ?_))); repeat' first | exact True.intro | (change _ = _; with_reducible rfl) | refine And.intro ?_ ?_ | (with_reducible refine Frz.mk ?_))
  all_goals try (refine Held.mk ?_; (try dsimp only at *); (try simp only [resTy, argTy, eqD, inR, big, wantOf, Bool.not_true, Bool.not_false, Bool.true_eq, decide_eq_true_eq, decide_eq_false_iff_not, Bool.not_eq_true', Bool.not_eq_false', Bool.and_eq_true, Prod.mk.injEq, and_true, true_and, Int.not_lt, Int.not_le, gt_iff_lt, ge_iff_le] at *))
  all_goals (first | exact h1 | exact h2 | skip)
  all_goals (unfold fPart; simp only [*, if_true, if_false, Bool.false_eq_true])

end Go.Eng.Pu
