/- The examples of the document are so: awake returns true. Conditions: none. -/
import Derived.Test.YtnficfhnfpbhkaaGreatDoorQ15
import Derived.Test.YtnficfhnfpbhkaaGreatDoorQ10
namespace Go.Eng.Pu
open Go.Eng Go.Proofs
set_option linter.all false
set_option maxRecDepth 100000
set_option maxHeartbeats 8000000

def eqAt (xs ys : List Int) : Nat → Nat → Bool
  | 0, _ => true
  | k + 1, i => if xs.getD i 0 = ys.getD i 0 then eqAt xs ys k (i + 1) else false

theorem eqAt_step {xs ys : List Int} {n i : Nat} (h : i < n) : eqAt xs ys (n - i) i = if xs.getD i 0 = ys.getD i 0 then eqAt xs ys (n - (i + 1)) (i + 1) else false := by
  obtain ⟨k, hk⟩ : ∃ k, n - i = k + 1 := ⟨n - i - 1, by omega⟩
  rw [hk, show n - (i + 1) = k from by omega]
  rfl

theorem eqAt_iff {xs ys : List Int} : ∀ (k i : Nat), eqAt xs ys k i = true ↔ ∀ j, i ≤ j → j < i + k → xs.getD j 0 = ys.getD j 0
  | 0, i => by simp [eqAt]; omega
  | k + 1, i => by
    simp only [eqAt]
    split
    · rename_i h
      rw [eqAt_iff k (i + 1)]
      constructor
      · intro H j h1 h2
        by_cases hj : j = i
        · subst hj; exact h
        · exact H j (by omega) (by omega)
      · intro H j h1 h2
        exact H j (by omega) (by omega)
    · rename_i h
      constructor
      · intro hf; cases hf
      · intro H; exact absurd (H i (Nat.le_refl _) (by omega)) h

theorem eqAt_list {xs ys : List Int} (h : xs.length = ys.length) : eqAt xs ys xs.length 0 = decide (xs = ys) := by
  rw [Bool.eq_iff_iff, eqAt_iff, decide_eq_true_eq]
  constructor
  · intro H
    apply List.ext_getElem h
    intro i h1 h2
    have := H i (by omega) (by omega)
    simpa [List.getD, List.getElem?_eq_getElem h1, List.getElem?_eq_getElem h2] using this
  · rintro rfl j _ _; rfl

@[reducible] def sInts : Spec := { pats := [.dat (.sl I64), .dat (.sl I64)], res := [{ t := .bool }], pre := fun x => pLen (List.length (α := Int) x.1) ∧ pLen (List.length (α := Int) x.2.1), f := fun x => (decide ((show List Int from x.1) = x.2.1), ()) }

/-- base.Ints -/
theorem h26 : Ok 18 sInts := by
  refine mk (ctr := []) trivial (nt := 26) Tryz.func18 rfl rfl rfl rfl (by kernel_rfl) (by kernel_rfl) (fun x => [fun _ => { σ := Nat, pat := fun k => [sI 5 k], inv := fun k => k ≤ List.length (α := Int) x.1 ∧ eqAt x.1 x.2.1 (List.length (α := Int) x.1 - k) k = eqAt x.1 x.2.1 (List.length (α := Int) x.1) 0, meas := fun k => List.length (α := Int) x.1 - k }]) ?_
  rintro ⟨(xs : List Int), (ys : List Int), _⟩ ⟨(h1 : pLen xs.length), (h2 : pLen ys.length)⟩
  have := h1.out
  have := h2.out
  repeat' (intro hzz; (try (rename Two => hq; cases hq)); (try dsimp only at hzz); (try simp only [resTy, argTy, eqD, inR, big, wantOf, Bool.not_true, Bool.not_false, Bool.true_eq, decide_eq_true_eq, decide_eq_false_iff_not, Bool.not_eq_true', Bool.not_eq_false', Bool.and_eq_true, Prod.mk.injEq, and_true, true_and, Int.not_lt, Int.not_le, gt_iff_lt, ge_iff_le] at hzz); (try simp only [resTy, argTy, eqD, inR, big, wantOf, Bool.not_true, Bool.not_false, Bool.true_eq, decide_eq_true_eq, decide_eq_false_iff_not, Bool.not_eq_true', Bool.not_eq_false', Bool.and_eq_true, Prod.mk.injEq, and_true, true_and, Int.not_lt, Int.not_le, gt_iff_lt, ge_iff_le, getD_i] at hzz); (try (first | contradiction | (exfalso; omega))); (try (revert hzz; intro _)))
  all_goals try (rename Unit => hq; clear hq)
  all_goals try ((with_reducible refine Held.mk ?_); (with_reducible (first | refine Frz.mk ?_ | refine And.intro (Frz.mk ?_) ?_ | refine And.intro ?_ (Frz.mk ?_))); repeat' first | exact True.intro | (change _ = _; with_reducible rfl) | refine And.intro ?_ ?_ | (with_reducible refine Frz.mk ?_))
  all_goals try (refine Held.mk ?_; (try dsimp only at *); (try simp only [resTy, argTy, eqD, inR, big, wantOf, Bool.not_true, Bool.not_false, Bool.true_eq, decide_eq_true_eq, decide_eq_false_iff_not, Bool.not_eq_true', Bool.not_eq_false', Bool.and_eq_true, Prod.mk.injEq, and_true, true_and, Int.not_lt, Int.not_le, gt_iff_lt, ge_iff_le] at *); (try simp only [resTy, argTy, eqD, inR, big, wantOf, Bool.not_true, Bool.not_false, Bool.true_eq, decide_eq_true_eq, decide_eq_false_iff_not, Bool.not_eq_true', Bool.not_eq_false', Bool.and_eq_true, Prod.mk.injEq, and_true, true_and, Int.not_lt, Int.not_le, gt_iff_lt, ge_iff_le, getD_i] at *))
  all_goals try omega
  · rename_i h
    symm
    rw [decide_eq_false_iff_not]
    rintro rfl
    exact h rfl
  · rename_i h
    refine GHeld.mk ?_
    refine Exists.intro 0 ?_
    refine And.intro (Leaf.mk ?_) ?_
    · repeat' first | exact True.intro | refine And.intro ?_ ?_
      all_goals try ((change _ = _ <;> try dsimp only) <;> try with_reducible rfl)
      all_goals try omega
    exact ⟨Nat.zero_le _, rfl⟩
  · rename_i h k hk hg h'
    have e := hk.2
    rw [eqAt_step (by omega), if_neg h', eqAt_list (by omega)] at e
    exact e
  · rename_i h k hk hg h'
    have e := hk.2
    rw [eqAt_step (by omega), if_pos h'] at e
    refine GHeld.mk ?_
    refine Exists.intro (k + 1) ?_
    refine And.intro (Leaf.mk ?_) ?_
    · repeat' first | exact True.intro | refine And.intro ?_ ?_
      all_goals try ((change _ = _ <;> try dsimp only) <;> try with_reducible rfl)
      all_goals try omega
    exact ⟨⟨by show k + 1 ≤ xs.length; omega, e⟩, by show xs.length - (k + 1) < xs.length - k; omega⟩
  · rename_i h k hk hg
    have e := hk.2
    rw [show xs.length - k = 0 from by omega, eqAt_list (by omega)] at e
    exact of_decide_eq_true e.symm

@[reducible] def sAwake : Spec := { pats := [], res := [{ t := .bool }], pre := fun _ => True, f := fun _ => (true, ()) }

/-- awake -/
theorem h17 : Ok 4 sAwake := by
  refine mkX (X := xF4) (hX := xF4_ok) (ctr := [(13, sTwo), (12, sPBits), (15, sListC), (14, sExcC), (16, sFirstC), (17, sTrfC), (18, sInts), (19, sSamesC)]) ⟨h82, h18, h30c, h31c, h62c, h35c, h26, h34c, trivial⟩ (nt := 79) Tryz.func4 rfl rfl rfl rfl (by kernel_rfl) (by kernel_rfl) (fun _ => []) ?_
  rintro ⟨⟩ _
  (try (rename Two => hq; cases hq))
  repeat' (intro hzz; (try (rename Two => hq; cases hq)); (try (first | exact absurd hzz (by decide) | exact absurd hzz (by decide +kernel))); (try (revert hzz; intro _)))
  all_goals (try (rename Unit => hq; clear hq))
  all_goals (with_reducible refine Held.mk ?_)
  all_goals (repeat' first | exact True.intro | (with_reducible refine Frz.mk ?_) | refine And.intro ?_ ?_ | (change _ = _; kernel_rfl) | decide | decide +kernel)

end Go.Eng.Pu
