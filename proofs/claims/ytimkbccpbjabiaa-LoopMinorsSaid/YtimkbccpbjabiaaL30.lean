/- Contracts of CopyLists, CopyLines, Small, Fades, and of the reference's CheckLines. Conditions: each contract's own. -/
import Derived.Test.YtimkbccpbjabiaaL29
namespace Go.Eng.Lp
open Go.Eng Go.Proofs
set_option linter.all false
set_option maxRecDepth 100000
set_option maxHeartbeats 8000000

theorem getD_l2 (xs : List (List Int)) (i : Nat) : List.getD xs i (Ty.dflt (.sl I64)) = xs.getD i [] := rfl
theorem getD_i2 (xs : List Int) (i : Nat) : List.getD xs i (Ty.dflt I64) = xs.getD i 0 := rfl

@[reducible] def sCopyLists : Spec := { pats := [.dat MatT], res := [{ t := MatT }], pre := fun x => pLists x.1, f := fun x => (x.1, ()) }
def clsAnn (xs : List (List Int)) : LoopAnn := { σ := Nat, pat := fun k => sI 4 k :: sOwn2 3 60003 31 (xs.take k), inv := fun k => k ≤ xs.length, meas := fun k => xs.length - k }

/-- CopyLists -/
theorem h95 : Ok 95 sCopyLists := by
  refine mk (ctr := [(45, sCopyInts)]) ⟨h45, trivial⟩ (nt := 20) Try.func95 rfl rfl rfl rfl (by kernel_rfl) (by kernel_rfl) (fun x => [fun _ => clsAnn x.1]) ?_
  rintro ⟨(xs : List (List Int)), _⟩ ⟨(hn : xs.length ≤ 1000000), (hp : ∀ i, i < xs.length → (xs.getD i []).length ≤ 1000000)⟩
  repeat' (intro hzz; (try (rename Two => hq; cases hq)); (try dsimp only at hzz); (try simp only [resTy, argTy, eqD, inR, big, wantOf, Bool.not_true, Bool.not_false, Bool.true_eq, decide_eq_true_eq, decide_eq_false_iff_not, Bool.not_eq_true', Bool.not_eq_false', Bool.and_eq_true, Prod.mk.injEq, and_true, true_and, Int.not_lt, Int.not_le, gt_iff_lt, ge_iff_le] at hzz); (try simp only [resTy, argTy, eqD, inR, big, wantOf, Bool.not_true, Bool.not_false, Bool.true_eq, decide_eq_true_eq, decide_eq_false_iff_not, Bool.not_eq_true', Bool.not_eq_false', Bool.and_eq_true, Prod.mk.injEq, and_true, true_and, Int.not_lt, Int.not_le, gt_iff_lt, ge_iff_le, getD_l, List.length_cons, List.length_nil] at hzz); (try (revert hzz; intro _)))
  all_goals try (rename Unit => hq; clear hq)
  all_goals try ((with_reducible refine Held.mk ?_); (with_reducible (first | refine Frz.mk ?_ | refine And.intro (Frz.mk ?_) ?_ | refine And.intro ?_ (Frz.mk ?_))); repeat' first | exact True.intro | (change _ = _; with_reducible rfl) | refine And.intro ?_ ?_ | (with_reducible refine Frz.mk ?_))
  all_goals try (refine Held.mk ?_; (try dsimp only at *); (try simp only [resTy, argTy, eqD, inR, big, wantOf, Bool.not_true, Bool.not_false, Bool.true_eq, decide_eq_true_eq, decide_eq_false_iff_not, Bool.not_eq_true', Bool.not_eq_false', Bool.and_eq_true, Prod.mk.injEq, and_true, true_and, Int.not_lt, Int.not_le, gt_iff_lt, ge_iff_le] at *); (try simp only [resTy, argTy, eqD, inR, big, wantOf, Bool.not_true, Bool.not_false, Bool.true_eq, decide_eq_true_eq, decide_eq_false_iff_not, Bool.not_eq_true', Bool.not_eq_false', Bool.and_eq_true, Prod.mk.injEq, and_true, true_and, Int.not_lt, Int.not_le, gt_iff_lt, ge_iff_le, getD_l, List.length_cons, List.length_nil] at *))
  all_goals try omega
  ·
    refine GHeld.mk ?_
    refine Exists.intro (0 : Nat) ?_
    refine And.intro (Leaf.mk ?_) ?_
    · repeat' first | exact True.intro | refine And.intro ?_ ?_
      all_goals try ((change _ = _ <;> try dsimp only) <;> try with_reducible rfl)
      all_goals try omega
      all_goals (rfl)
    exact Nat.zero_le _
  · rename_i k h1 h2
    exact hp k (by omega)
  · rename_i k h1 h2
    rw [take_len h1]; omega
  · rename_i k h1 h2
    have e := take_snoc [] (show k < xs.length by omega)
    refine GHeld.mk ?_
    refine Exists.intro (k + 1) ?_
    refine And.intro (Leaf.mk ?_) ?_
    · repeat' first | exact True.intro | refine And.intro ?_ ?_
      all_goals try ((change _ = _ <;> try dsimp only) <;> try with_reducible rfl)
      all_goals try omega
      all_goals (first | exact e | exact congrArg List.length e)
    change k + 1 ≤ xs.length ∧ xs.length - (k + 1) < xs.length - k
    omega
  · rename_i k h1 h2
    exact List.take_of_length_le (by omega)

@[reducible] def sCopyLines : Spec := { pats := [.dat LinesT], res := [{ t := LinesT }], pre := fun x => pLists x.1.1, f := fun x => (x.1, ()) }
/-- ref.CopyLines -/
theorem h42 : Ok 42 sCopyLines := by
  refine mk (ctr := [(95, sCopyLists)]) ⟨h95, trivial⟩ (nt := 7) Try.func42 rfl rfl rfl rfl (by kernel_rfl) (by kernel_rfl) (fun _ => []) ?_
  rintro ⟨⟨(xs : List (List Int)), _⟩, _⟩ (hp : pLists xs)
  repeat' (intro hzz; (try (rename Two => hq; cases hq)); (try dsimp only at hzz); (try simp only [resTy, argTy, eqD, inR, big, wantOf, Bool.not_true, Bool.not_false, Bool.true_eq, decide_eq_true_eq, decide_eq_false_iff_not, Bool.not_eq_true', Bool.not_eq_false', Bool.and_eq_true, Prod.mk.injEq, and_true, true_and, Int.not_lt, Int.not_le, gt_iff_lt, ge_iff_le] at hzz); (try (revert hzz; intro _)))
  all_goals try (rename Unit => hq; clear hq)
  all_goals try ((with_reducible refine Held.mk ?_); (with_reducible (first | refine Frz.mk ?_ | refine And.intro (Frz.mk ?_) ?_ | refine And.intro ?_ (Frz.mk ?_))); repeat' first | exact True.intro | (change _ = _; with_reducible rfl) | refine And.intro ?_ ?_ | (with_reducible refine Frz.mk ?_))
  all_goals try (refine Held.mk ?_; (try dsimp only at *); (try simp only [resTy, argTy, eqD, inR, big, wantOf, Bool.not_true, Bool.not_false, Bool.true_eq, decide_eq_true_eq, decide_eq_false_iff_not, Bool.not_eq_true', Bool.not_eq_false', Bool.and_eq_true, Prod.mk.injEq, and_true, true_and, Int.not_lt, Int.not_le, gt_iff_lt, ge_iff_le] at *))
  all_goals try omega

def fSmallL (rows : List (List Int)) : Bool := decide (rows.length ≤ 6 ∧ ∀ i, i < rows.length → (rows.getD i []).length ≤ 6)
@[reducible] def sSmallL : Spec := { pats := [.dat LinesT], res := [{ t := .bool }], pre := fun _ => True, f := fun x => (fSmallL x.1.1, ()) }
def smAnn (rows : List (List Int)) : LoopAnn := { σ := Nat, pat := fun k => [sI 3 k], inv := fun k => k ≤ rows.length ∧ ∀ i, i < k → (rows.getD i []).length ≤ 6, meas := fun k => rows.length - k }

/-- Small -/
theorem h40 : Ok 40 sSmallL := by
  refine mk (ctr := []) trivial (nt := 22) Try.func40 rfl rfl rfl rfl (by kernel_rfl) (by kernel_rfl) (fun x => [fun _ => smAnn x.1.1]) ?_
  rintro ⟨⟨(rows : List (List Int)), _⟩, _⟩ _
  repeat' (intro hzz; (try (rename Two => hq; cases hq)); (try dsimp only at hzz); (try simp only [resTy, argTy, eqD, inR, big, wantOf, Bool.not_true, Bool.not_false, Bool.true_eq, decide_eq_true_eq, decide_eq_false_iff_not, Bool.not_eq_true', Bool.not_eq_false', Bool.and_eq_true, Prod.mk.injEq, and_true, true_and, Int.not_lt, Int.not_le, gt_iff_lt, ge_iff_le] at hzz); (try simp only [resTy, argTy, eqD, inR, big, wantOf, Bool.not_true, Bool.not_false, Bool.true_eq, decide_eq_true_eq, decide_eq_false_iff_not, Bool.not_eq_true', Bool.not_eq_false', Bool.and_eq_true, Prod.mk.injEq, and_true, true_and, Int.not_lt, Int.not_le, gt_iff_lt, ge_iff_le, getD_l] at hzz); (try (revert hzz; intro _)))
  all_goals try (rename Unit => hq; clear hq)
  all_goals try ((with_reducible refine Held.mk ?_); (with_reducible (first | refine Frz.mk ?_ | refine And.intro (Frz.mk ?_) ?_ | refine And.intro ?_ (Frz.mk ?_))); repeat' first | exact True.intro | (change _ = _; with_reducible rfl) | refine And.intro ?_ ?_ | (with_reducible refine Frz.mk ?_))
  all_goals try (refine Held.mk ?_; (try dsimp only at *); (try simp only [resTy, argTy, eqD, inR, big, wantOf, Bool.not_true, Bool.not_false, Bool.true_eq, decide_eq_true_eq, decide_eq_false_iff_not, Bool.not_eq_true', Bool.not_eq_false', Bool.and_eq_true, Prod.mk.injEq, and_true, true_and, Int.not_lt, Int.not_le, gt_iff_lt, ge_iff_le] at *); (try simp only [resTy, argTy, eqD, inR, big, wantOf, Bool.not_true, Bool.not_false, Bool.true_eq, decide_eq_true_eq, decide_eq_false_iff_not, Bool.not_eq_true', Bool.not_eq_false', Bool.and_eq_true, Prod.mk.injEq, and_true, true_and, Int.not_lt, Int.not_le, gt_iff_lt, ge_iff_le, getD_l] at *))
  all_goals try omega
  · rename_i h
    symm; simp only [fSmallL, decide_eq_false_iff_not]; omega
  ·
    refine GHeld.mk ?_
    refine Exists.intro (0 : Nat) ?_
    refine And.intro (Leaf.mk ?_) ?_
    · repeat' first | exact True.intro | refine And.intro ?_ ?_
      all_goals try ((change _ = _ <;> try dsimp only) <;> try with_reducible rfl)
      all_goals try omega
      all_goals (rfl)
    exact ⟨Nat.zero_le _, fun i hi => by omega⟩
  · rename_i h6 k hI hk hl
    symm; simp only [fSmallL, decide_eq_false_iff_not]
    intro hc
    have := hc.2 k (by omega)
    omega
  · rename_i h6 k hI hk hl
    refine GHeld.mk ?_
    refine Exists.intro (k + 1) ?_
    refine And.intro (Leaf.mk ?_) ?_
    · repeat' first | exact True.intro | refine And.intro ?_ ?_
      all_goals try ((change _ = _ <;> try dsimp only) <;> try with_reducible rfl)
      all_goals try omega
      all_goals (rfl)
    refine ⟨⟨by change k + 1 ≤ rows.length; omega, fun i hi => ?_⟩, ?_⟩
    · by_cases hik : i < k
      · exact hI.2 i hik
      · obtain rfl : i = k := by omega
        change (rows.getD i []).length ≤ 6
        omega
    · change rows.length - (k + 1) < rows.length - k
      omega
  · rename_i h6 k hI hk
    simp only [fSmallL, decide_eq_true_eq]
    exact ⟨by omega, fun i hi => hI.2 i (by omega)⟩

/-- All numbers of a list are above 0. -/
def allPos (l : List Int) : Bool := decide (∀ i, i < l.length → 0 < l.getD i 0)
def apAnn (s : Nat) (l : List Int) : LoopAnn := { σ := Nat, pat := fun k => [sI s k], inv := fun k => k ≤ l.length ∧ ∀ i, i < k → 0 < l.getD i 0, meas := fun k => l.length - k }
@[reducible] def sFadesM : Spec := { pats := [.dat MatT], res := [{ t := .bool }], pre := fun x => ∃ N, N ≤ 4 ∧ sqMat N x.1, f := fun x => (allPos (minorsN x.1), ()) }

/-- matrix.fades -/
theorem h96 : Ok 96 sFadesM := by
  refine mk (ctr := [(94, sMinorsM)]) ⟨h94, trivial⟩ (nt := 15) Try.func96 rfl rfl rfl rfl (by kernel_rfl) (by kernel_rfl) (fun x => [fun _ => apAnn 8 (minorsN x.1)]) ?_
  rintro ⟨(m : List (List Int)), _⟩ ⟨N, hN, (hs : sqMat N m)⟩
  repeat' (intro hzz; (try (rename Two => hq; cases hq)); (try dsimp only at hzz); (try simp only [resTy, argTy, eqD, inR, big, wantOf, Bool.not_true, Bool.not_false, Bool.true_eq, decide_eq_true_eq, decide_eq_false_iff_not, Bool.not_eq_true', Bool.not_eq_false', Bool.and_eq_true, Prod.mk.injEq, and_true, true_and, Int.not_lt, Int.not_le, gt_iff_lt, ge_iff_le] at hzz); (try simp only [resTy, argTy, eqD, inR, big, wantOf, Bool.not_true, Bool.not_false, Bool.true_eq, decide_eq_true_eq, decide_eq_false_iff_not, Bool.not_eq_true', Bool.not_eq_false', Bool.and_eq_true, Prod.mk.injEq, and_true, true_and, Int.not_lt, Int.not_le, gt_iff_lt, ge_iff_le, getD_i] at hzz); (try (revert hzz; intro _)))
  all_goals try (rename Unit => hq; clear hq)
  all_goals try ((with_reducible refine Held.mk ?_); (with_reducible (first | refine Frz.mk ?_ | refine And.intro (Frz.mk ?_) ?_ | refine And.intro ?_ (Frz.mk ?_))); repeat' first | exact True.intro | (change _ = _; with_reducible rfl) | refine And.intro ?_ ?_ | (with_reducible refine Frz.mk ?_))
  all_goals try (refine Held.mk ?_; (try dsimp only at *); (try simp only [resTy, argTy, eqD, inR, big, wantOf, Bool.not_true, Bool.not_false, Bool.true_eq, decide_eq_true_eq, decide_eq_false_iff_not, Bool.not_eq_true', Bool.not_eq_false', Bool.and_eq_true, Prod.mk.injEq, and_true, true_and, Int.not_lt, Int.not_le, gt_iff_lt, ge_iff_le] at *); (try simp only [resTy, argTy, eqD, inR, big, wantOf, Bool.not_true, Bool.not_false, Bool.true_eq, decide_eq_true_eq, decide_eq_false_iff_not, Bool.not_eq_true', Bool.not_eq_false', Bool.and_eq_true, Prod.mk.injEq, and_true, true_and, Int.not_lt, Int.not_le, gt_iff_lt, ge_iff_le, getD_i] at *))
  all_goals try omega
  · exact ⟨N, hN, hs⟩
  ·
    refine GHeld.mk ?_
    refine Exists.intro (0 : Nat) ?_
    refine And.intro (Leaf.mk ?_) ?_
    · repeat' first | exact True.intro | refine And.intro ?_ ?_
      all_goals try ((change _ = _ <;> try dsimp only) <;> try with_reducible rfl)
      all_goals try omega
      all_goals (rfl)
    exact ⟨Nat.zero_le _, fun i hi => by omega⟩
  · rename_i k hI hk h0
    symm; simp only [allPos, decide_eq_false_iff_not]
    intro hc
    have := hc k (by omega)
    omega
  · rename_i k hI hk h0
    have : (minorsN m).length = N := by rw [minorsN, tab_len]; exact hs.1
    omega
  · rename_i k hI hk h0
    refine GHeld.mk ?_
    refine Exists.intro (k + 1) ?_
    refine And.intro (Leaf.mk ?_) ?_
    · repeat' first | exact True.intro | refine And.intro ?_ ?_
      all_goals try ((change _ = _ <;> try dsimp only) <;> try with_reducible rfl)
      all_goals try omega
      all_goals (rfl)
    refine ⟨⟨by change k + 1 ≤ (minorsN m).length; omega, fun i hi => ?_⟩, ?_⟩
    · by_cases hik : i < k
      · exact hI.2 i hik
      · obtain rfl : i = k := by omega
        exact h0
    · change (minorsN m).length - (k + 1) < (minorsN m).length - k
      omega
  · rename_i k hI hk
    simp only [allPos, decide_eq_true_eq]
    exact fun i hi => hI.2 i (by omega)

def fFades (rows : List (List Int)) : Bool × Int := if fCheckLines rows = 0 then (allPos (minorsN (matI 0 rows)), 0) else (false, fCheckLines rows)
@[reducible] def sFades : Spec := { pats := [.dat LinesT], res := [{ t := .bool }, { t := I64 }], pre := fun _ => True, f := fun x => ((fFades x.1.1).1, (fFades x.1.1).2, ()) }
/-- Fades -/
theorem h43 : Ok 43 sFades := by
  refine mk (ctr := [(47, sCheckLines), (93, sMatrixOf), (96, sFadesM)]) ⟨h47, h93, h96, trivial⟩ (nt := 13) Try.func43 rfl rfl rfl rfl (by kernel_rfl) (by kernel_rfl) (fun _ => []) ?_
  rintro ⟨⟨(rows : List (List Int)), _⟩, _⟩ _
  repeat' (intro hzz; (try (rename Two => hq; cases hq)); (try dsimp only at hzz); (try simp only [resTy, argTy, eqD, inR, big, wantOf, Bool.not_true, Bool.not_false, Bool.true_eq, decide_eq_true_eq, decide_eq_false_iff_not, Bool.not_eq_true', Bool.not_eq_false', Bool.and_eq_true, Prod.mk.injEq, and_true, true_and, Int.not_lt, Int.not_le, gt_iff_lt, ge_iff_le] at hzz); (try (revert hzz; intro _)))
  all_goals try (rename Unit => hq; clear hq)
  all_goals try ((with_reducible refine Held.mk ?_); (with_reducible (first | refine Frz.mk ?_ | refine And.intro (Frz.mk ?_) ?_ | refine And.intro ?_ (Frz.mk ?_))); repeat' first | exact True.intro | (change _ = _; with_reducible rfl) | refine And.intro ?_ ?_ | (with_reducible refine Frz.mk ?_))
  all_goals try (refine Held.mk ?_; (try dsimp only at *); (try simp only [resTy, argTy, eqD, inR, big, wantOf, Bool.not_true, Bool.not_false, Bool.true_eq, decide_eq_true_eq, decide_eq_false_iff_not, Bool.not_eq_true', Bool.not_eq_false', Bool.and_eq_true, Prod.mk.injEq, and_true, true_and, Int.not_lt, Int.not_le, gt_iff_lt, ge_iff_le] at *))
  · rename_i h
    simp only [fFades]; rw [if_neg h]; exact ⟨rfl, rfl⟩
  · rename_i h
    exact (lines_of h).small
  · rename_i h
    exact ⟨_, (lines_of h).le, (lines_of h).sq⟩
  · rename_i h
    simp only [fFades]; rw [if_pos h]; exact ⟨rfl, rfl⟩

def rcInner (rows : List (List Int)) (st : St) : LoopAnn := withI 3 st fun i => { σ := Nat, pat := fun k => [sI 4 k], inv := fun k => k ≤ (rows.getD i.toNat []).length ∧ clRow ((rows.getD i.toNat []).drop k) = clRow (rows.getD i.toNat []), meas := fun k => (rows.getD i.toNat []).length - k }
def rcOuter (rows : List (List Int)) : LoopAnn := { σ := Nat, pat := fun k => [sI 3 k], inv := fun k => k ≤ rows.length ∧ clRows rows.length (rows.drop k) = clRows rows.length rows, meas := fun k => rows.length - k }

/-- ref.CheckLines -/
theorem h46 : Ok 46 sCheckLines := by
  refine mk (ctr := [(17, sWithin)]) ⟨h17, trivial⟩ (nt := 50) Try.func46 rfl rfl rfl rfl (by kernel_rfl) (by kernel_rfl) (fun x => [fun _ => rcOuter x.1.1, rcInner x.1.1]) ?_
  rintro ⟨⟨(rows : List (List Int)), _⟩, _⟩ _
  repeat' (intro hzz; (try (rename Two => hq; cases hq)); (try dsimp only at hzz); (try simp only [resTy, argTy, eqD, inR, big, wantOf, Bool.not_true, Bool.not_false, Bool.true_eq, decide_eq_true_eq, decide_eq_false_iff_not, Bool.not_eq_true', Bool.not_eq_false', Bool.and_eq_true, Prod.mk.injEq, and_true, true_and, Int.not_lt, Int.not_le, gt_iff_lt, ge_iff_le] at hzz); (try simp only [resTy, argTy, eqD, inR, big, wantOf, Bool.not_true, Bool.not_false, Bool.true_eq, decide_eq_true_eq, decide_eq_false_iff_not, Bool.not_eq_true', Bool.not_eq_false', Bool.and_eq_true, Prod.mk.injEq, and_true, true_and, Int.not_lt, Int.not_le, gt_iff_lt, ge_iff_le, getD_l, getD_i, fWithin, Int.toNat_natCast, getD_l2, getD_i2] at hzz); (try (revert hzz; intro _)))
  all_goals try (rename Unit => hq; clear hq)
  all_goals try ((with_reducible refine Held.mk ?_); (with_reducible (first | refine Frz.mk ?_ | refine And.intro (Frz.mk ?_) ?_ | refine And.intro ?_ (Frz.mk ?_))); repeat' first | exact True.intro | (change _ = _; with_reducible rfl) | refine And.intro ?_ ?_ | (with_reducible refine Frz.mk ?_))
  all_goals try (refine Held.mk ?_; (try dsimp only at *); (try simp only [resTy, argTy, eqD, inR, big, wantOf, Bool.not_true, Bool.not_false, Bool.true_eq, decide_eq_true_eq, decide_eq_false_iff_not, Bool.not_eq_true', Bool.not_eq_false', Bool.and_eq_true, Prod.mk.injEq, and_true, true_and, Int.not_lt, Int.not_le, gt_iff_lt, ge_iff_le] at *); (try simp only [resTy, argTy, eqD, inR, big, wantOf, Bool.not_true, Bool.not_false, Bool.true_eq, decide_eq_true_eq, decide_eq_false_iff_not, Bool.not_eq_true', Bool.not_eq_false', Bool.and_eq_true, Prod.mk.injEq, and_true, true_and, Int.not_lt, Int.not_le, gt_iff_lt, ge_iff_le, getD_l, getD_i, fWithin, Int.toNat_natCast, getD_l2, getD_i2] at *))
  all_goals try omega
  · rename_i h
    have hc : fCountErr rows.length = 10 := by simp only [fCountErr]; rw [if_neg (by omega)]
    simp only [fCheckLines]; rw [hc, if_neg (by decide)]
  · rename_i h h4
    have hc : fCountErr rows.length = 8 := by simp only [fCountErr]; rw [if_pos (by omega), if_neg (by omega)]
    simp only [fCheckLines]; rw [hc, if_neg (by decide)]
  all_goals (have hc : fCountErr rows.length = 0 := by simp only [fCountErr]; rw [if_pos (by omega), if_pos (by omega)])
  all_goals (have hF : fCheckLines rows = clRows rows.length rows := by simp only [fCheckLines]; rw [if_pos hc])
  ·
    refine GHeld.mk ?_
    refine Exists.intro (0 : Nat) ?_
    refine And.intro (Leaf.mk ?_) ?_
    · repeat' first | exact True.intro | refine And.intro ?_ ?_
      all_goals try ((change _ = _ <;> try dsimp only) <;> try with_reducible rfl)
      all_goals try omega
      all_goals (rfl)
    exact ⟨Nat.zero_le _, rfl⟩
  · rename_i k hI hk hl
    have e := hI.2
    rw [clRows_step (by omega), if_neg (by omega)] at e
    rw [hF, ← e]
  ·
    refine GHeld.mk ?_
    refine Exists.intro (0 : Nat) ?_
    refine And.intro (Leaf.mk ?_) ?_
    · repeat' first | exact True.intro | refine And.intro ?_ ?_
      all_goals try ((change _ = _ <;> try dsimp only) <;> try with_reducible rfl)
      all_goals try omega
      all_goals (rfl)
    exact ⟨Nat.zero_le _, rfl⟩
  · rename_i k hI hk hl j hJ hj hb
    have e1 := hJ.2
    rw [clRow_step (by omega), if_neg hb] at e1
    have e := hI.2
    rw [clRows_step (by omega), if_pos (by omega), if_neg (by rw [← e1]; decide)] at e
    rw [hF, ← e]
  · rename_i k hI hk hl j hJ hj hb
    have e1 := hJ.2
    rw [clRow_step (by omega), if_pos hb] at e1
    refine GHeld.mk ?_
    refine Exists.intro (j + 1) ?_
    refine And.intro (Leaf.mk ?_) ?_
    · repeat' first | exact True.intro | refine And.intro ?_ ?_
      all_goals try ((change _ = _ <;> try dsimp only) <;> try with_reducible rfl)
      all_goals try omega
      all_goals (rfl)
    refine ⟨⟨by change j + 1 ≤ (rows.getD k []).length; omega, e1⟩, ?_⟩
    change (rows.getD k []).length - (j + 1) < (rows.getD k []).length - j
    omega
  · rename_i k hI hk hl j hJ hj
    have e1 := hJ.2
    rw [List.drop_eq_nil_of_le (by omega)] at e1
    have e := hI.2
    rw [clRows_step (by omega), if_pos (by omega), if_pos (show clRow (rows.getD k []) = 0 from e1.symm)] at e
    refine GHeld.mk ?_
    refine Exists.intro (k + 1) ?_
    refine And.intro (Leaf.mk ?_) ?_
    · repeat' first | exact True.intro | refine And.intro ?_ ?_
      all_goals try ((change _ = _ <;> try dsimp only) <;> try with_reducible rfl)
      all_goals try omega
      all_goals (rfl)
    refine ⟨⟨by change k + 1 ≤ rows.length; omega, e⟩, ?_⟩
    change rows.length - (k + 1) < rows.length - k
    omega
  · rename_i k hI hk
    have e := hI.2
    rw [List.drop_eq_nil_of_le (by omega)] at e
    rw [hF, ← e]; rfl

end Go.Eng.Lp
