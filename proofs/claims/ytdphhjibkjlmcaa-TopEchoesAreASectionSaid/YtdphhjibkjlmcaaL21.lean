/- Contracts of the reference's copies, checks, values and arcs; the law LoopValues returns true. Conditions: each contract's own. -/
import Derived.Test.YtdphhjibkjlmcaaL20
namespace Go.Eng.Lp
open Go.Eng Go.Proofs
set_option linter.all false
set_option maxRecDepth 100000
set_option maxHeartbeats 8000000

abbrev pCopy (n : Nat) : Prop := n ≤ 1000000
@[reducible] def sCopyInts : Spec := { pats := [.dat (.sl I64)], res := [{ t := .sl I64 }], pre := fun x => pCopy (List.length (α := Int) x.1), f := fun x => (x.1, ()) }

/-- base.CopyInts -/
theorem h45 : Ok 15 sCopyInts := by
  refine mk (ctr := []) trivial (nt := 6) Try.func15 rfl rfl rfl rfl (by kernel_rfl) (by kernel_rfl) (fun _ => []) ?_
  rintro ⟨(xs : List Int), _⟩ (hp : xs.length ≤ 1000000)
  repeat' (intro hzz; (try (rename Two => hq; cases hq)); (try dsimp only at hzz); (try simp only [resTy, argTy, eqD, inR, big, wantOf, Bool.not_true, Bool.not_false, Bool.true_eq, decide_eq_true_eq, decide_eq_false_iff_not, Bool.not_eq_true', Bool.not_eq_false', Bool.and_eq_true, Prod.mk.injEq, and_true, true_and, Int.not_lt, Int.not_le, gt_iff_lt, ge_iff_le] at hzz); (try simp only [resTy, argTy, eqD, inR, big, wantOf, Bool.not_true, Bool.not_false, Bool.true_eq, decide_eq_true_eq, decide_eq_false_iff_not, Bool.not_eq_true', Bool.not_eq_false', Bool.and_eq_true, Prod.mk.injEq, and_true, true_and, Int.not_lt, Int.not_le, gt_iff_lt, ge_iff_le, List.nil_append, List.length_nil] at hzz); (try (revert hzz; intro _)))
  all_goals try (rename Unit => hq; clear hq)
  all_goals try ((with_reducible refine Held.mk ?_); (with_reducible (first | refine Frz.mk ?_ | refine And.intro (Frz.mk ?_) ?_ | refine And.intro ?_ (Frz.mk ?_))); repeat' first | exact True.intro | (change _ = _; with_reducible rfl) | refine And.intro ?_ ?_ | (with_reducible refine Frz.mk ?_))
  all_goals try (refine Held.mk ?_; (try dsimp only at *); (try simp only [resTy, argTy, eqD, inR, big, wantOf, Bool.not_true, Bool.not_false, Bool.true_eq, decide_eq_true_eq, decide_eq_false_iff_not, Bool.not_eq_true', Bool.not_eq_false', Bool.and_eq_true, Prod.mk.injEq, and_true, true_and, Int.not_lt, Int.not_le, gt_iff_lt, ge_iff_le] at *); (try simp only [resTy, argTy, eqD, inR, big, wantOf, Bool.not_true, Bool.not_false, Bool.true_eq, decide_eq_true_eq, decide_eq_false_iff_not, Bool.not_eq_true', Bool.not_eq_false', Bool.and_eq_true, Prod.mk.injEq, and_true, true_and, Int.not_lt, Int.not_le, gt_iff_lt, ge_iff_le, List.nil_append, List.length_nil] at *))
  all_goals try omega

@[reducible] def sCopy : Spec := { pats := [.dat LoopT], res := [{ t := LoopT }], pre := fun x => pCopy (List.length (α := Int) x.1.1), f := fun x => (x.1, ()) }

/-- ref.Copy -/
theorem h23 : Ok 8 sCopy := by
  refine mk (ctr := [(15, sCopyInts)]) ⟨h45, trivial⟩ (nt := 8) Try.func8 rfl rfl rfl rfl (by kernel_rfl) (by kernel_rfl) (fun _ => []) ?_
  rintro ⟨⟨(T : List Int), (g : Int), _⟩, _⟩ (hp : T.length ≤ 1000000)
  repeat' (intro hzz; (try (rename Two => hq; cases hq)); (try dsimp only at hzz); (try simp only [resTy, argTy, eqD, inR, big, wantOf, Bool.not_true, Bool.not_false, Bool.true_eq, decide_eq_true_eq, decide_eq_false_iff_not, Bool.not_eq_true', Bool.not_eq_false', Bool.and_eq_true, Prod.mk.injEq, and_true, true_and, Int.not_lt, Int.not_le, gt_iff_lt, ge_iff_le] at hzz); (try (revert hzz; intro _)))
  all_goals try (rename Unit => hq; clear hq)
  all_goals try ((with_reducible refine Held.mk ?_); (with_reducible (first | refine Frz.mk ?_ | refine And.intro (Frz.mk ?_) ?_ | refine And.intro ?_ (Frz.mk ?_))); repeat' first | exact True.intro | (change _ = _; with_reducible rfl) | refine And.intro ?_ ?_ | (with_reducible refine Frz.mk ?_))
  all_goals try (refine Held.mk ?_; (try dsimp only at *); (try simp only [resTy, argTy, eqD, inR, big, wantOf, Bool.not_true, Bool.not_false, Bool.true_eq, decide_eq_true_eq, decide_eq_false_iff_not, Bool.not_eq_true', Bool.not_eq_false', Bool.and_eq_true, Prod.mk.injEq, and_true, true_and, Int.not_lt, Int.not_le, gt_iff_lt, ge_iff_le] at *))
  all_goals try omega

@[reducible] def sFew : Spec := { pats := [.dat LoopT], res := [{ t := .bool }], pre := fun _ => True, f := fun x => (decide ((List.length (α := Int) x.1.1 : Int) ≤ 34), ()) }

def rcAnn (T : List Int) : LoopAnn := { σ := Nat, pat := fun k => [sI 3 k], inv := fun k => k ≤ T.length ∧ ∀ i, i < k → big102 (T.getD i 0) = false, meas := fun k => T.length - k }

theorem any_big {T : List Int} (h : ∀ i, i < T.length → big102 (T.getD i 0) = false) : ¬ (T.any big102 = true) := by
  intro hc
  obtain ⟨x, hx, hb⟩ := List.any_eq_true.1 hc
  obtain ⟨i, hi, rfl⟩ := List.mem_iff_getElem.1 hx
  have := h i hi
  simp [List.getD, List.getElem?_eq_getElem hi, hb] at this

theorem tmod0 (x : Int) : (x.tmod 16384000 ≠ 0) = (¬ x % 16384000 = 0) := by
  have h1 := Int.tmod_eq_emod (a := x) (b := 16384000)
  have h2 := Int.emod_nonneg x (show (16384000 : Int) ≠ 0 by decide)
  have h3 := Int.emod_lt_of_pos x (show (0 : Int) < 16384000 by decide)
  apply propext
  split at h1
  · rw [h1]; simp
  · rename_i hc
    constructor
    · intro _ h0
      exact hc (.inr (Int.dvd_of_emod_eq_zero h0))
    · intro _ h0
      simp at h1
      omega

@[reducible] def sRefValue : Spec := { pats := [.dat (.sl DirT), .dat LoopT, .dat I64], res := [{ t := Ball }], pre := fun x => x.1 = theTable ∧ GoodLoop x.2.1.1 x.2.1.2.1 ∧ -1000000 ≤ x.2.2.1 ∧ x.2.2.1 ≤ 1000000, f := fun x => (valueI x.2.1.1 x.2.1.2.1 x.2.2.1, ()) }
def rvAnn (T : List Int) (m : Int) : LoopAnn := { σ := Nat, pat := fun k => [sI 10 k, sI 7 (sm (vX T m) k), sI 8 (sm (vY T m) k), sI 9 (sm (vR T m) k)], inv := fun k => k ≤ T.length, meas := fun k => T.length - k }

@[reducible] def sRefArc : Spec := { pats := [.dat (.sl DirT), .dat LoopT, .dat ArcT], res := [{ t := Ball }], pre := fun x => x.1 = theTable ∧ GoodLoop x.2.1.1 x.2.1.2.1 ∧ fArcErr x.2.2.1.1 x.2.2.1.2.1 = 0, f := fun x => (arcI x.2.1.1 x.2.1.2.1 x.2.2.1.1 x.2.2.1.2.1, ()) }
def raAnn (T : List Int) : LoopAnn := { σ := Nat, pat := fun k => [sI 10 k, sI 9 (sSlope T k)], inv := fun k => k ≤ T.length, meas := fun k => T.length - k }

@[reducible] def sLoopValues : Spec := { pats := [.dat LoopT, .dat I64, .dat ArcT], res := [{ t := .bool }], pre := fun _ => True, f := fun _ => (true, ()) }

theorem vaBad {T : List Int} {g m : Int} (h : fCheckLoop T g = 0) (hm : ¬ (-1000000 ≤ m ∧ m ≤ 1000000)) : fValueAt T g m = ((0, 0, 0, ()), 2) := by
  have hd : decide (-1000000 ≤ m ∧ m ≤ 1000000) = false := decide_eq_false hm
  have e : vaErr T g m = 2 := by simp only [vaErr]; rw [if_pos h, hd]; rfl
  simp only [fValueAt]; rw [if_neg (by rw [e]; decide), e]

end Go.Eng.Lp
