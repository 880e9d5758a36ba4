/- Contracts of functions on registers: the error of one, the greatest state, the error of a start. Conditions: each contract's own. -/
import Derived.Test.YtnficfhnfpbhkaaGreatDoorQ2
namespace Go.Eng.Pu
open Go.Eng Go.Proofs
set_option linter.all false
set_option maxRecDepth 100000
set_option maxHeartbeats 8000000

/-- The greatest of the numbers 0 to k. -/
def mx (xs : List Int) : Nat → Int
  | 0 => xs.getD 0 0
  | k + 1 => if xs.getD (k + 1) 0 > mx xs k then xs.getD (k + 1) 0 else mx xs k

@[reducible] def sMax : Spec := { pats := [.dat (.sl I64)], res := [{ t := I64 }], pre := fun x => 0 < List.length (α := Int) x.1 ∧ pLen (List.length (α := Int) x.1), f := fun x => (mx x.1 (List.length (α := Int) x.1 - 1), ()) }

/-- slices.Max -/
theorem h89 : Ok 55 sMax := by
  refine mk (ctr := []) trivial (nt := 25) Tryz.func55 rfl rfl rfl rfl (by kernel_rfl) (by kernel_rfl) (fun x => [fun _ => { σ := Nat, pat := fun k => [sI 3 (mx x.1 k), sI 4 (k + 1 : Int)], inv := fun k => k + 1 ≤ List.length (α := Int) x.1, meas := fun k => List.length (α := Int) x.1 - k }]) ?_
  rintro ⟨(xs : List Int), _⟩ ⟨(h1 : 0 < xs.length), (h2 : pLen xs.length)⟩
  have := h2.out
  repeat' (intro hzz; (try (rename Two => hq; cases hq)); (try dsimp only at hzz); (try simp only [resTy, argTy, eqD, inR, big, wantOf, Bool.not_true, Bool.not_false, Bool.true_eq, decide_eq_true_eq, decide_eq_false_iff_not, Bool.not_eq_true', Bool.not_eq_false', Bool.and_eq_true, Prod.mk.injEq, and_true, true_and, Int.not_lt, Int.not_le, gt_iff_lt, ge_iff_le] at hzz); (try simp only [resTy, argTy, eqD, inR, big, wantOf, Bool.not_true, Bool.not_false, Bool.true_eq, decide_eq_true_eq, decide_eq_false_iff_not, Bool.not_eq_true', Bool.not_eq_false', Bool.and_eq_true, Prod.mk.injEq, and_true, true_and, Int.not_lt, Int.not_le, gt_iff_lt, ge_iff_le, getD_i] at hzz); (try (first | contradiction | (exfalso; omega))); (try (revert hzz; intro _)))
  all_goals try (rename Unit => hq; clear hq)
  all_goals try ((with_reducible refine Held.mk ?_); (with_reducible (first | refine Frz.mk ?_ | refine And.intro (Frz.mk ?_) ?_ | refine And.intro ?_ (Frz.mk ?_))); repeat' first | exact True.intro | (change _ = _; with_reducible rfl) | refine And.intro ?_ ?_ | (with_reducible refine Frz.mk ?_))
  all_goals try (refine Held.mk ?_; (try dsimp only at *); (try simp only [resTy, argTy, eqD, inR, big, wantOf, Bool.not_true, Bool.not_false, Bool.true_eq, decide_eq_true_eq, decide_eq_false_iff_not, Bool.not_eq_true', Bool.not_eq_false', Bool.and_eq_true, Prod.mk.injEq, and_true, true_and, Int.not_lt, Int.not_le, gt_iff_lt, ge_iff_le] at *); (try simp only [resTy, argTy, eqD, inR, big, wantOf, Bool.not_true, Bool.not_false, Bool.true_eq, decide_eq_true_eq, decide_eq_false_iff_not, Bool.not_eq_true', Bool.not_eq_false', Bool.and_eq_true, Prod.mk.injEq, and_true, true_and, Int.not_lt, Int.not_le, gt_iff_lt, ge_iff_le, getD_i] at *))
  all_goals try omega
  · 
    refine GHeld.mk ?_
    refine Exists.intro 0 ?_
    refine And.intro (Leaf.mk ?_) ?_
    · repeat' first | exact True.intro | refine And.intro ?_ ?_
      all_goals try ((change _ = _ <;> try dsimp only) <;> try with_reducible rfl)
      all_goals try omega
      all_goals (rfl)
    exact h1
  · rename_i k hk hg
    refine GHeld.mk ?_
    refine Exists.intro (k + 1) ?_
    refine And.intro (Leaf.mk ?_) ?_
    · repeat' first | exact True.intro | refine And.intro ?_ ?_
      all_goals try ((change _ = _ <;> try dsimp only) <;> try with_reducible rfl)
      all_goals try omega
      all_goals (rfl)
    exact ⟨by show k + 1 + 1 ≤ xs.length; omega, by show xs.length - (k + 1) < xs.length - k; omega⟩
  · rename_i k hk hg
    rw [show xs.length - 1 = k from by omega]

/-- 2 to the length. -/
def P2 (L : Int) : Int := 2 ^ L.toNat

theorem lens {L : Int} (h : 2 ≤ L ∧ L ≤ 8) : L = 2 ∨ L = 3 ∨ L = 4 ∨ L = 5 ∨ L = 6 ∨ L = 7 ∨ L = 8 := by omega

theorem P2_in {L : Int} (h : 2 ≤ L ∧ L ≤ 8) : 4 ≤ P2 L ∧ P2 L ≤ 256 := by
  rcases lens h with rfl | rfl | rfl | rfl | rfl | rfl | rfl <;> decide

theorem shl_one {L : Int} (h : 2 ≤ L ∧ L ≤ 8) : shlN .i64 1 L = P2 L := by
  rcases lens h with rfl | rfl | rfl | rfl | rfl | rfl | rfl <;> decide

theorem P2_nat (k : Nat) : P2 k = 2 ^ k := rfl
theorem P2_succ (k : Nat) : P2 (k + 1 : Nat) = 2 * P2 k := by
  rw [P2_nat, P2_nat, Int.pow_succ, Int.mul_comm]
theorem P2_le {k : Nat} (h : k ≤ 8) : 1 ≤ P2 k ∧ P2 k ≤ 256 := by
  have : k = 0 ∨ k = 1 ∨ k = 2 ∨ k = 3 ∨ k = 4 ∨ k = 5 ∨ k = 6 ∨ k = 7 ∨ k = 8 := by omega
  rcases this with rfl | rfl | rfl | rfl | rfl | rfl | rfl | rfl | rfl <;> decide

/-- The greatest state. -/
def most (L : Int) : Int := P2 L - 1

@[reducible] def sFull : Spec := { pats := [.dat Reg], res := [{ t := I64 }], pre := fun x => 2 ≤ x.1.1.1 ∧ x.1.1.1 ≤ (8 : Int), f := fun x => (most x.1.1.1, ()) }

/-- register.full -/
theorem h94 : Ok 38 sFull := by
  refine mk (ctr := []) trivial (nt := 8) Tryz.func38 rfl rfl rfl rfl (by kernel_rfl) (by kernel_rfl) (fun _ => []) ?_
  rintro ⟨⟨⟨(L : Int), (xs : List Int), _⟩, _⟩, _⟩ (h : 2 ≤ L ∧ L ≤ 8)
  have h1 := shl_one h
  have h2 := P2_in h
  repeat' (intro hzz; (try (rename Two => hq; cases hq)); (try dsimp only at hzz); (try simp only [resTy, argTy, eqD, inR, big, wantOf, Bool.not_true, Bool.not_false, Bool.true_eq, decide_eq_true_eq, decide_eq_false_iff_not, Bool.not_eq_true', Bool.not_eq_false', Bool.and_eq_true, Prod.mk.injEq, and_true, true_and, Int.not_lt, Int.not_le, gt_iff_lt, ge_iff_le] at hzz); (try simp only [resTy, argTy, eqD, inR, big, wantOf, Bool.not_true, Bool.not_false, Bool.true_eq, decide_eq_true_eq, decide_eq_false_iff_not, Bool.not_eq_true', Bool.not_eq_false', Bool.and_eq_true, Prod.mk.injEq, and_true, true_and, Int.not_lt, Int.not_le, gt_iff_lt, ge_iff_le, h1] at hzz); (try (revert hzz; intro _)))
  all_goals try (rename Unit => hq; clear hq)
  all_goals try ((with_reducible refine Held.mk ?_); (with_reducible (first | refine Frz.mk ?_ | refine And.intro (Frz.mk ?_) ?_ | refine And.intro ?_ (Frz.mk ?_))); repeat' first | exact True.intro | (change _ = _; with_reducible rfl) | refine And.intro ?_ ?_ | (with_reducible refine Frz.mk ?_))
  all_goals try (refine Held.mk ?_; (try dsimp only at *); (try simp only [resTy, argTy, eqD, inR, big, wantOf, Bool.not_true, Bool.not_false, Bool.true_eq, decide_eq_true_eq, decide_eq_false_iff_not, Bool.not_eq_true', Bool.not_eq_false', Bool.and_eq_true, Prod.mk.injEq, and_true, true_and, Int.not_lt, Int.not_le, gt_iff_lt, ge_iff_le] at *); (try simp only [resTy, argTy, eqD, inR, big, wantOf, Bool.not_true, Bool.not_false, Bool.true_eq, decide_eq_true_eq, decide_eq_false_iff_not, Bool.not_eq_true', Bool.not_eq_false', Bool.and_eq_true, Prod.mk.injEq, and_true, true_and, Int.not_lt, Int.not_le, gt_iff_lt, ge_iff_le, h1] at *))
  all_goals first | omega | rfl | trace_state

@[reducible] def sMost : Spec := { pats := [.dat Reg0], res := [{ t := I64 }], pre := fun x => 2 ≤ x.1.1 ∧ x.1.1 ≤ (8 : Int), f := fun x => (most x.1.1, ()) }

end Go.Eng.Pu
