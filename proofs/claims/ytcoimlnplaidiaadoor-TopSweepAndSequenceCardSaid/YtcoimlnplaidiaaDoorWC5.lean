/- Contracts of functions on registers: the error of one, the greatest state, the error of a start. Conditions: each contract's own. Contracts: the error of a register, and of a start; right registers. Conditions: each contract's own. Contracts: the next state of a register; the period and the states are walked by their iterator. Conditions: each contract's own. The iterator of a register's states: it yields the states from a start on, without an end. Conditions: the register is right, the start a state. Lists by places; the states of a register come back to the start: its period. Plain laws. Conditions: none beyond each lemma's own. -/
import Derived.Test.YtcoimlnplaidiaaDoorWC4
import Derived.KernelRfl
namespace Go.Eng.Pu
open Go.Eng Go.Proofs
set_option linter.all false
set_option maxRecDepth 100000
set_option maxHeartbeats 8000000

/-- The greatest of the numbers 0 to k. -/
def mx (xs : List Int) : Nat → Int
  | 0 => xs.getD 0 0
  | k + 1 => if xs.getD (k + 1) 0 > mx xs k then xs.getD (k + 1) 0 else mx xs k

@[reducible] def sMax : Spec := { pats := [.dat (.sl I64)], res := [{ t := I64 }], pre := fun x => 0 < List.length (α := Int) x.1 ∧ pLen (List.length (α := Int) x.1), f := fun x => (mx x.1 (List.length (α := Int) x.1 - 1), ()) }

/-- slices.Max -/
theorem h89 : Ok 71 sMax := by
  refine mk (ctr := []) trivial (nt := 25) Tryd.func71 rfl rfl rfl rfl (by kernel_rfl) (by kernel_rfl) (fun x => [fun _ => { σ := Nat, pat := fun k => [sI 3 (mx x.1 k), sI 4 (k + 1 : Int)], inv := fun k => k + 1 ≤ List.length (α := Int) x.1, meas := fun k => List.length (α := Int) x.1 - k }]) ?_
  rintro ⟨(xs : List Int), _⟩ ⟨(h1 : 0 < xs.length), (h2 : pLen xs.length)⟩
  have := h2.out
  repeat' (intro hzz; (try (rename Two => hq; cases hq)); (try dsimp only at hzz); (try simp only [resTy, argTy, eqD, inR, big, wantOf, Bool.not_true, Bool.not_false, Bool.true_eq, decide_eq_true_eq, decide_eq_false_iff_not, Bool.not_eq_true', Bool.not_eq_false', Bool.and_eq_true, Prod.mk.injEq, and_true, true_and, Int.not_lt, Int.not_le, gt_iff_lt, ge_iff_le] at hzz); (try simp only [resTy, argTy, eqD, inR, big, wantOf, Bool.not_true, Bool.not_false, Bool.true_eq, decide_eq_true_eq, decide_eq_false_iff_not, Bool.not_eq_true', Bool.not_eq_false', Bool.and_eq_true, Prod.mk.injEq, and_true, true_and, Int.not_lt, Int.not_le, gt_iff_lt, ge_iff_le, getD_i] at hzz); (try (first | contradiction | (exfalso; omega))); (try (revert hzz; intro _)))
  all_goals try (rename Unit => hq; clear hq)
  all_goals try ((with_reducible refine Held.mk ?_); (with_reducible (first | refine Frz.mk ?_ | refine And.intro (Frz.mk ?_) ?_ | refine And.intro ?_ (Frz.mk ?_))); repeat' first | exact True.intro | (change _ = _; with_reducible rfl) | refine And.intro ?_ ?_ | (with_reducible refine Frz.mk ?_))
  all_goals try (refine Held.mk ?_; (try dsimp only at *); (try simp only [resTy, argTy, eqD, inR, big, wantOf, Bool.not_true, Bool.not_false, Bool.true_eq, decide_eq_true_eq, decide_eq_false_iff_not, Bool.not_eq_true', Bool.not_eq_false', Bool.and_eq_true, Prod.mk.injEq, and_true, true_and, Int.not_lt, Int.not_le, gt_iff_lt, ge_iff_le] at *); (try simp only [resTy, argTy, eqD, inR, big, wantOf, Bool.not_true, Bool.not_false, Bool.true_eq, decide_eq_true_eq, decide_eq_false_iff_not, Bool.not_eq_true', Bool.not_eq_false', Bool.and_eq_true, Prod.mk.injEq, and_true, true_and, Int.not_lt, Int.not_le, gt_iff_lt, ge_iff_le, getD_i] at *))
  all_goals try omega
  · 
    refine GHeld.mk ?_
    refine Exists.intro 0 ?_
    refine And.intro (Leaf.mk ?_) ?_
    · repeat' first | exact True.intro | refine And.intro ?_ ?_
      all_goals try ((change _ = _ <;> try dsimp only) <;> try with_reducible rfl)
      all_goals try omega
      all_goals (rfl)
    exact h1
  · rename_i k hk hg
    refine GHeld.mk ?_
    refine Exists.intro (k + 1) ?_
    refine And.intro (Leaf.mk ?_) ?_
    · repeat' first | exact True.intro | refine And.intro ?_ ?_
      all_goals try ((change _ = _ <;> try dsimp only) <;> try with_reducible rfl)
      all_goals try omega
      all_goals (rfl)
    exact ⟨by show k + 1 + 1 ≤ xs.length; omega, by show xs.length - (k + 1) < xs.length - k; omega⟩
  · rename_i k hk hg
    rw [show xs.length - 1 = k from by omega]

/-- 2 to the length. -/
def P2 (L : Int) : Int := 2 ^ L.toNat

theorem lens {L : Int} (h : 2 ≤ L ∧ L ≤ 8) : L = 2 ∨ L = 3 ∨ L = 4 ∨ L = 5 ∨ L = 6 ∨ L = 7 ∨ L = 8 := by omega

theorem P2_in {L : Int} (h : 2 ≤ L ∧ L ≤ 8) : 4 ≤ P2 L ∧ P2 L ≤ 256 := by
  rcases lens h with rfl | rfl | rfl | rfl | rfl | rfl | rfl <;> decide

theorem shl_one {L : Int} (h : 2 ≤ L ∧ L ≤ 8) : shlN .i64 1 L = P2 L := by
  rcases lens h with rfl | rfl | rfl | rfl | rfl | rfl | rfl <;> decide

theorem P2_nat (k : Nat) : P2 k = 2 ^ k := rfl
theorem P2_succ (k : Nat) : P2 (k + 1 : Nat) = 2 * P2 k := by
  rw [P2_nat, P2_nat, Int.pow_succ, Int.mul_comm]
theorem P2_le {k : Nat} (h : k ≤ 8) : 1 ≤ P2 k ∧ P2 k ≤ 256 := by
  have : k = 0 ∨ k = 1 ∨ k = 2 ∨ k = 3 ∨ k = 4 ∨ k = 5 ∨ k = 6 ∨ k = 7 ∨ k = 8 := by omega
  rcases this with rfl | rfl | rfl | rfl | rfl | rfl | rfl | rfl | rfl <;> decide

/-- The greatest state. -/
def most (L : Int) : Int := P2 L - 1

@[reducible] def sFull : Spec := { pats := [.dat Reg], res := [{ t := I64 }], pre := fun x => 2 ≤ x.1.1.1 ∧ x.1.1.1 ≤ (8 : Int), f := fun x => (most x.1.1.1, ()) }

/-- register.full -/
theorem h94 : Ok 46 sFull := by
  refine mk (ctr := []) trivial (nt := 8) Tryd.func46 rfl rfl rfl rfl (by kernel_rfl) (by kernel_rfl) (fun _ => []) ?_
  rintro ⟨⟨⟨(L : Int), (xs : List Int), _⟩, _⟩, _⟩ (h : 2 ≤ L ∧ L ≤ 8)
  have h1 := shl_one h
  have h2 := P2_in h
  repeat' (intro hzz; (try (rename Two => hq; cases hq)); (try dsimp only at hzz); (try simp only [resTy, argTy, eqD, inR, big, wantOf, Bool.not_true, Bool.not_false, Bool.true_eq, decide_eq_true_eq, decide_eq_false_iff_not, Bool.not_eq_true', Bool.not_eq_false', Bool.and_eq_true, Prod.mk.injEq, and_true, true_and, Int.not_lt, Int.not_le, gt_iff_lt, ge_iff_le] at hzz); (try simp only [resTy, argTy, eqD, inR, big, wantOf, Bool.not_true, Bool.not_false, Bool.true_eq, decide_eq_true_eq, decide_eq_false_iff_not, Bool.not_eq_true', Bool.not_eq_false', Bool.and_eq_true, Prod.mk.injEq, and_true, true_and, Int.not_lt, Int.not_le, gt_iff_lt, ge_iff_le, h1] at hzz); (try (revert hzz; intro _)))
  all_goals try (rename Unit => hq; clear hq)
  all_goals try ((with_reducible refine Held.mk ?_); (with_reducible (first | refine Frz.mk ?_ | refine And.intro (Frz.mk ?_) ?_ | refine And.intro ?_ (Frz.mk ?_))); repeat' first | exact True.intro | (change _ = _; with_reducible rfl) | refine And.intro ?_ ?_ | (with_reducible refine Frz.mk ?_))
  all_goals try (refine Held.mk ?_; (try dsimp only at *); (try simp only [resTy, argTy, eqD, inR, big, wantOf, Bool.not_true, Bool.not_false, Bool.true_eq, decide_eq_true_eq, decide_eq_false_iff_not, Bool.not_eq_true', Bool.not_eq_false', Bool.and_eq_true, Prod.mk.injEq, and_true, true_and, Int.not_lt, Int.not_le, gt_iff_lt, ge_iff_le] at *); (try simp only [resTy, argTy, eqD, inR, big, wantOf, Bool.not_true, Bool.not_false, Bool.true_eq, decide_eq_true_eq, decide_eq_false_iff_not, Bool.not_eq_true', Bool.not_eq_false', Bool.and_eq_true, Prod.mk.injEq, and_true, true_and, Int.not_lt, Int.not_le, gt_iff_lt, ge_iff_le, h1] at *))
  all_goals first | omega | rfl | trace_state

@[reducible] def sMost : Spec := { pats := [.dat Reg0], res := [{ t := I64 }], pre := fun x => 2 ≤ x.1.1 ∧ x.1.1 ≤ (8 : Int), f := fun x => (most x.1.1, ()) }

/-- ref.Most -/
theorem h68 : Ok 12 sMost := by
  refine mk (ctr := []) trivial (nt := 15) Tryd.func12 rfl rfl rfl rfl (by kernel_rfl) (by kernel_rfl) (fun x => [fun _ => { σ := Nat, pat := fun k => [sI 3 (P2 k), sI 4 k], inv := fun k => (k : Int) ≤ x.1.1, meas := fun k => (show Int from x.1.1).toNat - k }]) ?_
  rintro ⟨⟨(L : Int), (xs : List Int), _⟩, _⟩ (h : 2 ≤ L ∧ L ≤ 8)
  have h2 := P2_in h
  repeat' (intro hzz; (try (rename Two => hq; cases hq)); (try dsimp only at hzz); (try simp only [resTy, argTy, eqD, inR, big, wantOf, Bool.not_true, Bool.not_false, Bool.true_eq, decide_eq_true_eq, decide_eq_false_iff_not, Bool.not_eq_true', Bool.not_eq_false', Bool.and_eq_true, Prod.mk.injEq, and_true, true_and, Int.not_lt, Int.not_le, gt_iff_lt, ge_iff_le] at hzz); (try (first | contradiction | (exfalso; omega))); (try (revert hzz; intro _)))
  all_goals try (rename Unit => hq; clear hq)
  all_goals try ((with_reducible refine Held.mk ?_); (with_reducible (first | refine Frz.mk ?_ | refine And.intro (Frz.mk ?_) ?_ | refine And.intro ?_ (Frz.mk ?_))); repeat' first | exact True.intro | (change _ = _; with_reducible rfl) | refine And.intro ?_ ?_ | (with_reducible refine Frz.mk ?_))
  all_goals try (refine Held.mk ?_; (try dsimp only at *); (try simp only [resTy, argTy, eqD, inR, big, wantOf, Bool.not_true, Bool.not_false, Bool.true_eq, decide_eq_true_eq, decide_eq_false_iff_not, Bool.not_eq_true', Bool.not_eq_false', Bool.and_eq_true, Prod.mk.injEq, and_true, true_and, Int.not_lt, Int.not_le, gt_iff_lt, ge_iff_le] at *))
  all_goals try omega
  · 
    refine GHeld.mk ?_
    refine Exists.intro 0 ?_
    refine And.intro (Leaf.mk ?_) ?_
    · repeat' first | exact True.intro | refine And.intro ?_ ?_
      all_goals try ((change _ = _ <;> try dsimp only) <;> try with_reducible rfl)
      all_goals try omega
      all_goals (rfl)
    show (0 : Int) ≤ L
    omega
  · rename_i k hk hg
    have := P2_nat k
    have := P2_le (k := k) (by omega)
    omega
  · rename_i k hk hg
    refine GHeld.mk ?_
    refine Exists.intro (k + 1) ?_
    refine And.intro (Leaf.mk ?_) ?_
    · repeat' first | exact True.intro | refine And.intro ?_ ?_
      all_goals try ((change _ = _ <;> try dsimp only) <;> try with_reducible rfl)
      all_goals try omega
      all_goals (exact (P2_succ k).symm)
    exact ⟨by show ((k + 1 : Nat) : Int) ≤ L; omega, by show L.toNat - (k + 1) < L.toNat - k; omega⟩
  · rename_i k hk hg
    have hk : (k : Int) = L := by omega
    rw [hk]; omega
  · rename_i k hk hg
    have hk : (k : Int) = L := by omega
    rw [hk]; rfl

end Go.Eng.Pu

namespace Go.Eng.Pu
open Go.Eng Go.Proofs
set_option linter.all false
set_option maxRecDepth 100000
set_option maxHeartbeats 8000000

/-- The error of the taps from i on, k of them. -/
def regE (L : Int) (xs : List Int) : Nat → Nat → Int
  | 0, _ => 0
  | k + 1, i => if 1 ≤ xs.getD i 0 ∧ xs.getD i 0 ≤ L then (if 0 < i ∧ xs.getD i 0 ≤ xs.getD (i - 1) 0 then 9 else regE L xs k (i + 1)) else 2

def chk (L : Int) (xs : List Int) : Int :=
  if 2 ≤ L ∧ L ≤ 8 then (if xs.length = 0 then 10 else if regE L xs xs.length 0 = 0 then (if xs.getD (xs.length - 1) 0 = L then 0 else 6) else regE L xs xs.length 0) else 2

theorem regE_zero {L : Int} {xs : List Int} : ∀ {k i : Nat}, regE L xs k i = 0 → ∀ j, i ≤ j → j < i + k → 1 ≤ xs.getD j 0 ∧ xs.getD j 0 ≤ L ∧ (0 < j → xs.getD (j - 1) 0 < xs.getD j 0)
  | 0, i, _, j, h1, h2 => by omega
  | k + 1, i, h, j, h1, h2 => by
    simp only [regE] at h
    split at h
    · rename_i ha
      split at h
      · cases h
      · rename_i hb
        by_cases hj : j = i
        · subst hj
          exact ⟨ha.1, ha.2, fun h0 => by omega⟩
        · exact regE_zero h j (by omega) (by omega)
    · cases h

theorem mx_asc {xs : List Int} : ∀ {k : Nat}, (∀ j, 0 < j → j ≤ k → xs.getD (j - 1) 0 < xs.getD j 0) → mx xs k = xs.getD k 0
  | 0, _ => rfl
  | k + 1, h => by
    have h1 := mx_asc (k := k) fun j h1 h2 => h j h1 (by omega)
    have h2 := h (k + 1) (by omega) (Nat.le_refl _)
    simp only [Nat.add_sub_cancel] at h2
    simp only [mx, h1]
    rw [if_pos (by omega)]

theorem regE_step {L : Int} {xs : List Int} {i : Nat} (h : i < xs.length) : regE L xs (xs.length - i) i = if 1 ≤ xs.getD i 0 ∧ xs.getD i 0 ≤ L then (if 0 < i ∧ xs.getD i 0 ≤ xs.getD (i - 1) 0 then 9 else regE L xs (xs.length - (i + 1)) (i + 1)) else 2 := by
  obtain ⟨k, hk⟩ : ∃ k, xs.length - i = k + 1 := ⟨xs.length - i - 1, by omega⟩
  rw [hk, show xs.length - (i + 1) = k from by omega]
  rfl

theorem getD_m (xs : List Int) (i : Nat) (h : 0 < i) : List.getD xs ((i : Int) - 1).toNat (Ty.dflt I64) = xs.getD (i - 1) 0 := by
  rw [show ((i : Int) - 1).toNat = i - 1 from by omega]
  rfl

@[reducible] def sChk : Spec := { pats := [.dat Reg0], res := [{ t := I64 }], pre := fun x => pLen (List.length (α := Int) x.1.2.1), f := fun x => (chk x.1.1 x.1.2.1, ()) }

/-- pulse.CheckRegister -/
theorem h21 : Ok 65 sChk := by
  refine mk (ctr := [(29, sWithin), (52, sUnless), (71, sMax)]) ⟨h86, h85, h89, trivial⟩ (nt := 50) Tryd.func65 rfl rfl rfl rfl (by kernel_rfl) (by kernel_rfl) (fun x => [fun _ => { σ := Nat, pat := fun k => [sI 18 k], inv := fun k => k ≤ List.length (α := Int) x.1.2.1 ∧ regE x.1.1 x.1.2.1 (List.length (α := Int) x.1.2.1 - k) k = regE x.1.1 x.1.2.1 (List.length (α := Int) x.1.2.1) 0, meas := fun k => List.length (α := Int) x.1.2.1 - k }]) ?_
  rintro ⟨⟨(L : Int), (xs : List Int), _⟩, _⟩ (hp : pLen xs.length)
  have := hp.out
  repeat' (intro hzz; (try (rename Two => hq; cases hq)); (try dsimp only at hzz); (try simp only [resTy, argTy, eqD, inR, big, wantOf, Bool.not_true, Bool.not_false, Bool.true_eq, decide_eq_true_eq, decide_eq_false_iff_not, Bool.not_eq_true', Bool.not_eq_false', Bool.and_eq_true, Prod.mk.injEq, and_true, true_and, Int.not_lt, Int.not_le, gt_iff_lt, ge_iff_le] at hzz); (try simp only [resTy, argTy, eqD, inR, big, wantOf, Bool.not_true, Bool.not_false, Bool.true_eq, decide_eq_true_eq, decide_eq_false_iff_not, Bool.not_eq_true', Bool.not_eq_false', Bool.and_eq_true, Prod.mk.injEq, and_true, true_and, Int.not_lt, Int.not_le, gt_iff_lt, ge_iff_le, fWithin, getD_i] at hzz); (try (first | contradiction | (exfalso; omega))); (try (revert hzz; intro _)))
  all_goals try (rename Unit => hq; clear hq)
  all_goals try ((with_reducible refine Held.mk ?_); (with_reducible (first | refine Frz.mk ?_ | refine And.intro (Frz.mk ?_) ?_ | refine And.intro ?_ (Frz.mk ?_))); repeat' first | exact True.intro | (change _ = _; with_reducible rfl) | refine And.intro ?_ ?_ | (with_reducible refine Frz.mk ?_))
  all_goals try (refine Held.mk ?_; (try dsimp only at *); (try simp only [resTy, argTy, eqD, inR, big, wantOf, Bool.not_true, Bool.not_false, Bool.true_eq, decide_eq_true_eq, decide_eq_false_iff_not, Bool.not_eq_true', Bool.not_eq_false', Bool.and_eq_true, Prod.mk.injEq, and_true, true_and, Int.not_lt, Int.not_le, gt_iff_lt, ge_iff_le] at *); (try simp only [resTy, argTy, eqD, inR, big, wantOf, Bool.not_true, Bool.not_false, Bool.true_eq, decide_eq_true_eq, decide_eq_false_iff_not, Bool.not_eq_true', Bool.not_eq_false', Bool.and_eq_true, Prod.mk.injEq, and_true, true_and, Int.not_lt, Int.not_le, gt_iff_lt, ge_iff_le, fWithin, getD_i] at *))
  all_goals try omega
  · rename_i h; rw [chk, if_neg h]
  · rename_i h1 h; rw [chk, if_pos h1, if_pos (by omega)]
  · rename_i h1 h
    refine GHeld.mk ?_
    refine Exists.intro 0 ?_
    refine And.intro (Leaf.mk ?_) ?_
    · repeat' first | exact True.intro | refine And.intro ?_ ?_
      all_goals try ((change _ = _ <;> try dsimp only) <;> try with_reducible rfl)
      all_goals try omega
    exact ⟨Nat.zero_le _, rfl⟩
  · rename_i h1 h2 k hk hg h
    have e := hk.2
    rw [regE_step (by omega), if_neg h] at e
    rw [chk, if_pos h1, if_neg (by omega), ← e]; rfl
  · rename_i h1 h2 k hk hg h3 h4 h5
    have e := hk.2
    rw [getD_m xs k (by omega)] at h5
    rw [regE_step (by omega), if_pos h3, if_pos ⟨by omega, h5⟩] at e
    rw [chk, if_pos h1, if_neg (by omega), ← e]; rfl
  · rename_i h1 h2 k hk hg h3 h4 h5
    have e := hk.2
    rw [getD_m xs k (by omega)] at h5
    rw [regE_step (by omega), if_pos h3, if_neg (by omega)] at e
    refine GHeld.mk ?_
    refine Exists.intro (k + 1) ?_
    refine And.intro (Leaf.mk ?_) ?_
    · repeat' first | exact True.intro | refine And.intro ?_ ?_
      all_goals try ((change _ = _ <;> try dsimp only) <;> try with_reducible rfl)
      all_goals try omega
    exact ⟨⟨by show k + 1 ≤ xs.length; omega, e⟩, by show xs.length - (k + 1) < xs.length - k; omega⟩
  · rename_i h1 h2 k hk hg h3 h4
    have e := hk.2
    rw [regE_step (by omega), if_pos h3, if_neg (by omega)] at e
    refine GHeld.mk ?_
    refine Exists.intro (k + 1) ?_
    refine And.intro (Leaf.mk ?_) ?_
    · repeat' first | exact True.intro | refine And.intro ?_ ?_
      all_goals try ((change _ = _ <;> try dsimp only) <;> try with_reducible rfl)
      all_goals try omega
    exact ⟨⟨by show k + 1 ≤ xs.length; omega, e⟩, by show xs.length - (k + 1) < xs.length - k; omega⟩
  · exact ⟨by omega, hp⟩
  · rename_i h1 h2 k hk hg
    have e := hk.2
    rw [show xs.length - k = 0 from by omega] at e
    have e : regE L xs xs.length 0 = 0 := e.symm
    have hz := regE_zero e
    show (bif decide (mx xs (xs.length - 1) = L) then (0 : Int) else 6) = chk L xs
    rw [mx_asc (fun j h3 h4 => (hz j (by omega) (by omega)).2.2 h3), chk, if_pos h1, if_neg (by omega), if_pos e]
    by_cases h : xs.getD (xs.length - 1) 0 = L <;> simp [h]

theorem len_m (xs : List Int) (h : ¬ (xs.length : Int) = 0) : List.getD xs ((xs.length : Int) - 1).toNat (Ty.dflt I64) = xs.getD (xs.length - 1) 0 := getD_m xs xs.length (by omega)

/-- ref.CheckRegister -/
theorem h22 : Ok 61 sChk := by
  refine mk (ctr := [(13, sWithin)]) ⟨h25, trivial⟩ (nt := 55) Tryd.func61 rfl rfl rfl rfl (by kernel_rfl) (by kernel_rfl) (fun x => [fun _ => { σ := Nat, pat := fun k => [sI 3 k], inv := fun k => k ≤ List.length (α := Int) x.1.2.1 ∧ regE x.1.1 x.1.2.1 (List.length (α := Int) x.1.2.1 - k) k = regE x.1.1 x.1.2.1 (List.length (α := Int) x.1.2.1) 0, meas := fun k => List.length (α := Int) x.1.2.1 - k }]) ?_
  rintro ⟨⟨(L : Int), (xs : List Int), _⟩, _⟩ (hp : pLen xs.length)
  have := hp.out
  repeat' (intro hzz; (try (rename Two => hq; cases hq)); (try dsimp only at hzz); (try simp only [resTy, argTy, eqD, inR, big, wantOf, Bool.not_true, Bool.not_false, Bool.true_eq, decide_eq_true_eq, decide_eq_false_iff_not, Bool.not_eq_true', Bool.not_eq_false', Bool.and_eq_true, Prod.mk.injEq, and_true, true_and, Int.not_lt, Int.not_le, gt_iff_lt, ge_iff_le] at hzz); (try simp only [resTy, argTy, eqD, inR, big, wantOf, Bool.not_true, Bool.not_false, Bool.true_eq, decide_eq_true_eq, decide_eq_false_iff_not, Bool.not_eq_true', Bool.not_eq_false', Bool.and_eq_true, Prod.mk.injEq, and_true, true_and, Int.not_lt, Int.not_le, gt_iff_lt, ge_iff_le, fWithin, getD_i] at hzz); (try (first | contradiction | (exfalso; omega))); (try (revert hzz; intro _)))
  all_goals try (rename Unit => hq; clear hq)
  all_goals try ((with_reducible refine Held.mk ?_); (with_reducible (first | refine Frz.mk ?_ | refine And.intro (Frz.mk ?_) ?_ | refine And.intro ?_ (Frz.mk ?_))); repeat' first | exact True.intro | (change _ = _; with_reducible rfl) | refine And.intro ?_ ?_ | (with_reducible refine Frz.mk ?_))
  all_goals try (refine Held.mk ?_; (try dsimp only at *); (try simp only [resTy, argTy, eqD, inR, big, wantOf, Bool.not_true, Bool.not_false, Bool.true_eq, decide_eq_true_eq, decide_eq_false_iff_not, Bool.not_eq_true', Bool.not_eq_false', Bool.and_eq_true, Prod.mk.injEq, and_true, true_and, Int.not_lt, Int.not_le, gt_iff_lt, ge_iff_le] at *); (try simp only [resTy, argTy, eqD, inR, big, wantOf, Bool.not_true, Bool.not_false, Bool.true_eq, decide_eq_true_eq, decide_eq_false_iff_not, Bool.not_eq_true', Bool.not_eq_false', Bool.and_eq_true, Prod.mk.injEq, and_true, true_and, Int.not_lt, Int.not_le, gt_iff_lt, ge_iff_le, fWithin, getD_i] at *))
  all_goals try omega
  · rename_i h; rw [chk, if_neg h]
  · rename_i h1 h; rw [chk, if_pos h1, if_pos (by omega)]
  · rename_i h1 h
    refine GHeld.mk ?_
    refine Exists.intro 0 ?_
    refine And.intro (Leaf.mk ?_) ?_
    · repeat' first | exact True.intro | refine And.intro ?_ ?_
      all_goals try ((change _ = _ <;> try dsimp only) <;> try with_reducible rfl)
      all_goals try omega
    exact ⟨Nat.zero_le _, rfl⟩
  · rename_i h1 h2 k hk hg h
    have e := hk.2
    rw [regE_step (by omega), if_neg h] at e
    rw [chk, if_pos h1, if_neg (by omega), ← e]; rfl
  · rename_i h1 h2 k hk hg h3 h4 h5
    have e := hk.2
    rw [getD_m xs k (by omega)] at h5
    rw [regE_step (by omega), if_pos h3, if_pos ⟨by omega, h5⟩] at e
    rw [chk, if_pos h1, if_neg (by omega), ← e]; rfl
  · rename_i h1 h2 k hk hg h3 h4 h5
    have e := hk.2
    rw [getD_m xs k (by omega)] at h5
    rw [regE_step (by omega), if_pos h3, if_neg (by omega)] at e
    refine GHeld.mk ?_
    refine Exists.intro (k + 1) ?_
    refine And.intro (Leaf.mk ?_) ?_
    · repeat' first | exact True.intro | refine And.intro ?_ ?_
      all_goals try ((change _ = _ <;> try dsimp only) <;> try with_reducible rfl)
      all_goals try omega
    exact ⟨⟨by show k + 1 ≤ xs.length; omega, e⟩, by show xs.length - (k + 1) < xs.length - k; omega⟩
  · rename_i h1 h2 k hk hg h3 h4
    have e := hk.2
    rw [regE_step (by omega), if_pos h3, if_neg (by omega)] at e
    refine GHeld.mk ?_
    refine Exists.intro (k + 1) ?_
    refine And.intro (Leaf.mk ?_) ?_
    · repeat' first | exact True.intro | refine And.intro ?_ ?_
      all_goals try ((change _ = _ <;> try dsimp only) <;> try with_reducible rfl)
      all_goals try omega
    exact ⟨⟨by show k + 1 ≤ xs.length; omega, e⟩, by show xs.length - (k + 1) < xs.length - k; omega⟩
  · rename_i h1 h2 k hk hg h
    have e := hk.2
    rw [show xs.length - k = 0 from by omega] at e
    have e : regE L xs xs.length 0 = 0 := e.symm
    rw [len_m xs h2] at h
    rw [chk, if_pos h1, if_neg (by omega), if_pos e, if_neg h]
  · rename_i h1 h2 k hk hg h
    have e := hk.2
    rw [show xs.length - k = 0 from by omega] at e
    have e : regE L xs xs.length 0 = 0 := e.symm
    rw [len_m xs h2] at h
    rw [chk, if_pos h1, if_neg (by omega), if_pos e, if_pos h]

theorem chk_zero {L : Int} {xs : List Int} (h : chk L xs = 0) : (2 ≤ L ∧ L ≤ 8) ∧ 0 < xs.length ∧ regE L xs xs.length 0 = 0 ∧ xs.getD (xs.length - 1) 0 = L := by
  unfold chk at h
  split at h
  · rename_i h1
    split at h
    · cases h
    · split at h
      · rename_i h2 h3
        split at h
        · rename_i h4; exact ⟨h1, by omega, h3, h4⟩
        · cases h
      · rename_i h3; exact absurd h h3
  · cases h

def stErr (L s : Int) : Int := if 1 ≤ s ∧ s ≤ most L then 0 else 2

@[reducible] def sStart : Spec := { pats := [.dat Reg, .dat I64], res := [{ t := I64 }], pre := fun x => 2 ≤ x.1.1.1 ∧ x.1.1.1 ≤ (8 : Int), f := fun x => (stErr x.1.1.1 x.2.1, ()) }

/-- register.startErr -/
theorem h144 : Ok 66 sStart := by
  refine mk (ctr := [(29, sWithin), (52, sUnless), (46, sFull)]) ⟨h86, h85, h94, trivial⟩ (nt := 10) Tryd.func66 rfl rfl rfl rfl (by kernel_rfl) (by kernel_rfl) (fun _ => []) ?_
  rintro ⟨⟨⟨(L : Int), (xs : List Int), _⟩, _⟩, (s : Int), _⟩ (h : 2 ≤ L ∧ L ≤ 8)
  repeat' (intro hzz; (try (rename Two => hq; cases hq)); (try dsimp only at hzz); (try simp only [resTy, argTy, eqD, inR, big, wantOf, Bool.not_true, Bool.not_false, Bool.true_eq, decide_eq_true_eq, decide_eq_false_iff_not, Bool.not_eq_true', Bool.not_eq_false', Bool.and_eq_true, Prod.mk.injEq, and_true, true_and, Int.not_lt, Int.not_le, gt_iff_lt, ge_iff_le] at hzz); (try simp only [resTy, argTy, eqD, inR, big, wantOf, Bool.not_true, Bool.not_false, Bool.true_eq, decide_eq_true_eq, decide_eq_false_iff_not, Bool.not_eq_true', Bool.not_eq_false', Bool.and_eq_true, Prod.mk.injEq, and_true, true_and, Int.not_lt, Int.not_le, gt_iff_lt, ge_iff_le, fWithin] at hzz); (try (revert hzz; intro _)))
  all_goals try (rename Unit => hq; clear hq)
  all_goals try ((with_reducible refine Held.mk ?_); (with_reducible (first | refine Frz.mk ?_ | refine And.intro (Frz.mk ?_) ?_ | refine And.intro ?_ (Frz.mk ?_))); repeat' first | exact True.intro | (change _ = _; with_reducible rfl) | refine And.intro ?_ ?_ | (with_reducible refine Frz.mk ?_))
  all_goals try (refine Held.mk ?_; (try dsimp only at *); (try simp only [resTy, argTy, eqD, inR, big, wantOf, Bool.not_true, Bool.not_false, Bool.true_eq, decide_eq_true_eq, decide_eq_false_iff_not, Bool.not_eq_true', Bool.not_eq_false', Bool.and_eq_true, Prod.mk.injEq, and_true, true_and, Int.not_lt, Int.not_le, gt_iff_lt, ge_iff_le] at *); (try simp only [resTy, argTy, eqD, inR, big, wantOf, Bool.not_true, Bool.not_false, Bool.true_eq, decide_eq_true_eq, decide_eq_false_iff_not, Bool.not_eq_true', Bool.not_eq_false', Bool.and_eq_true, Prod.mk.injEq, and_true, true_and, Int.not_lt, Int.not_le, gt_iff_lt, ge_iff_le, fWithin] at *))
  · exact h
  · by_cases h1 : 1 ≤ s ∧ s ≤ most L <;> simp [stErr, h1]

def opErr (L : Int) (xs : List Int) (s : Int) : Int := if chk L xs = 0 then stErr L s else chk L xs

@[reducible] def sOpen : Spec := { pats := [.dat Reg0, .dat I64], res := [{ t := Reg }, { t := I64 }], pre := fun x => pLen (List.length (α := Int) x.1.2.1), f := fun x => ((x.1, ()), opErr x.1.1 x.1.2.1 x.2.1, ()) }

/-- pulse.open -/
theorem h83 : Ok 44 sOpen := by
  refine mk (ctr := [(65, sChk), (66, sStart)]) ⟨h21, h144, trivial⟩ (nt := 20) Tryd.func44 rfl rfl rfl rfl (by kernel_rfl) (by kernel_rfl) (fun _ => []) ?_
  rintro ⟨⟨(L : Int), (xs : List Int), _⟩, (s : Int), _⟩ (hp : pLen xs.length)
  repeat' (intro hzz; (try (rename Two => hq; cases hq)); (try dsimp only at hzz); (try simp only [resTy, argTy, eqD, inR, big, wantOf, Bool.not_true, Bool.not_false, Bool.true_eq, decide_eq_true_eq, decide_eq_false_iff_not, Bool.not_eq_true', Bool.not_eq_false', Bool.and_eq_true, Prod.mk.injEq, and_true, true_and, Int.not_lt, Int.not_le, gt_iff_lt, ge_iff_le] at hzz); (try (first | contradiction | (exfalso; omega))); (try (revert hzz; intro _)))
  all_goals try (rename Unit => hq; clear hq)
  all_goals try ((with_reducible refine Held.mk ?_); (with_reducible (first | refine Frz.mk ?_ | refine And.intro (Frz.mk ?_) ?_ | refine And.intro ?_ (Frz.mk ?_))); repeat' first | exact True.intro | (change _ = _; with_reducible rfl) | refine And.intro ?_ ?_ | (with_reducible refine Frz.mk ?_))
  all_goals try (refine Held.mk ?_; (try dsimp only at *); (try simp only [resTy, argTy, eqD, inR, big, wantOf, Bool.not_true, Bool.not_false, Bool.true_eq, decide_eq_true_eq, decide_eq_false_iff_not, Bool.not_eq_true', Bool.not_eq_false', Bool.and_eq_true, Prod.mk.injEq, and_true, true_and, Int.not_lt, Int.not_le, gt_iff_lt, ge_iff_le] at *))
  all_goals try omega
  · rename_i h; exact (if_neg h).symm
  · rename_i h; exact (chk_zero h).1
  · rename_i h; exact (if_pos h).symm

@[reducible] def sStartR : Spec := { pats := [.dat Reg0, .dat I64], res := [{ t := I64 }], pre := fun x => pLen (List.length (α := Int) x.1.2.1), f := fun x => (opErr x.1.1 x.1.2.1 x.2.1, ()) }

/-- ref.StartErr -/
theorem h23 : Ok 34 sStartR := by
  refine mk (ctr := [(61, sChk), (12, sMost), (13, sWithin)]) ⟨h22, h68, h25, trivial⟩ (nt := 16) Tryd.func34 rfl rfl rfl rfl (by kernel_rfl) (by kernel_rfl) (fun _ => []) ?_
  rintro ⟨⟨(L : Int), (xs : List Int), _⟩, (s : Int), _⟩ (hp : pLen xs.length)
  repeat' (intro hzz; (try (rename Two => hq; cases hq)); (try dsimp only at hzz); (try simp only [resTy, argTy, eqD, inR, big, wantOf, Bool.not_true, Bool.not_false, Bool.true_eq, decide_eq_true_eq, decide_eq_false_iff_not, Bool.not_eq_true', Bool.not_eq_false', Bool.and_eq_true, Prod.mk.injEq, and_true, true_and, Int.not_lt, Int.not_le, gt_iff_lt, ge_iff_le] at hzz); (try simp only [resTy, argTy, eqD, inR, big, wantOf, Bool.not_true, Bool.not_false, Bool.true_eq, decide_eq_true_eq, decide_eq_false_iff_not, Bool.not_eq_true', Bool.not_eq_false', Bool.and_eq_true, Prod.mk.injEq, and_true, true_and, Int.not_lt, Int.not_le, gt_iff_lt, ge_iff_le, fWithin] at hzz); (try (first | contradiction | (exfalso; omega))); (try (revert hzz; intro _)))
  all_goals try (rename Unit => hq; clear hq)
  all_goals try ((with_reducible refine Held.mk ?_); (with_reducible (first | refine Frz.mk ?_ | refine And.intro (Frz.mk ?_) ?_ | refine And.intro ?_ (Frz.mk ?_))); repeat' first | exact True.intro | (change _ = _; with_reducible rfl) | refine And.intro ?_ ?_ | (with_reducible refine Frz.mk ?_))
  all_goals try (refine Held.mk ?_; (try dsimp only at *); (try simp only [resTy, argTy, eqD, inR, big, wantOf, Bool.not_true, Bool.not_false, Bool.true_eq, decide_eq_true_eq, decide_eq_false_iff_not, Bool.not_eq_true', Bool.not_eq_false', Bool.and_eq_true, Prod.mk.injEq, and_true, true_and, Int.not_lt, Int.not_le, gt_iff_lt, ge_iff_le] at *); (try simp only [resTy, argTy, eqD, inR, big, wantOf, Bool.not_true, Bool.not_false, Bool.true_eq, decide_eq_true_eq, decide_eq_false_iff_not, Bool.not_eq_true', Bool.not_eq_false', Bool.and_eq_true, Prod.mk.injEq, and_true, true_and, Int.not_lt, Int.not_le, gt_iff_lt, ge_iff_le, fWithin] at *))
  all_goals try omega
  · rename_i h; exact (if_neg h).symm
  · rename_i h; exact (chk_zero h).1
  · rename_i h0 h; rw [opErr, if_pos h0, stErr, if_neg h]
  · rename_i h0 h; rw [opErr, if_pos h0, stErr, if_pos h]

@[reducible] def sCopy : Spec := { pats := [.dat Reg0], res := [{ t := Reg0 }], pre := fun x => pLen (List.length (α := Int) x.1.2.1) ∧ List.length (α := Int) x.1.2.1 ≤ 2000000000, f := fun x => (x.1, ()) }

/-- ref.Copy -/
theorem h19 : Ok 19 sCopy := by
  refine mk (ctr := [(49, sCopyInts)]) ⟨h36, trivial⟩ (nt := 9) Tryd.func19 rfl rfl rfl rfl (by kernel_rfl) (by kernel_rfl) (fun _ => []) ?_
  rintro ⟨⟨(L : Int), (xs : List Int), _⟩, _⟩ (hp : pLen xs.length ∧ xs.length ≤ 2000000000)
  repeat' (intro hzz; (try (rename Two => hq; cases hq)); (try dsimp only at hzz); (try simp only [resTy, argTy, eqD, inR, big, wantOf, Bool.not_true, Bool.not_false, Bool.true_eq, decide_eq_true_eq, decide_eq_false_iff_not, Bool.not_eq_true', Bool.not_eq_false', Bool.and_eq_true, Prod.mk.injEq, and_true, true_and, Int.not_lt, Int.not_le, gt_iff_lt, ge_iff_le] at hzz); (try (first | contradiction | (exfalso; omega))); (try (revert hzz; intro _)))
  all_goals try (rename Unit => hq; clear hq)
  all_goals try ((with_reducible refine Held.mk ?_); (with_reducible (first | refine Frz.mk ?_ | refine And.intro (Frz.mk ?_) ?_ | refine And.intro ?_ (Frz.mk ?_))); repeat' first | exact True.intro | (change _ = _; with_reducible rfl) | refine And.intro ?_ ?_ | (with_reducible refine Frz.mk ?_))
  all_goals try (refine Held.mk ?_; (try dsimp only at *); (try simp only [resTy, argTy, eqD, inR, big, wantOf, Bool.not_true, Bool.not_false, Bool.true_eq, decide_eq_true_eq, decide_eq_false_iff_not, Bool.not_eq_true', Bool.not_eq_false', Bool.and_eq_true, Prod.mk.injEq, and_true, true_and, Int.not_lt, Int.not_le, gt_iff_lt, ge_iff_le] at *))
  all_goals try omega

end Go.Eng.Pu

namespace Go.Eng.Pu
open Go.Eng Go.Proofs
set_option linter.all false
set_option maxRecDepth 100000
set_option maxHeartbeats 8000000

theorem and1 {n : Int} (h0 : 0 ≤ n) (h1 : n < 256) : bits .and .i64 n 1 = n % 2 := by
  have all : (List.range 256).all (fun n => decide (bits .and .i64 (n : Int) 1 = (n : Int) % 2)) = true := by decide +kernel
  rw [List.all_eq_true] at all
  have := all n.toNat (List.mem_range.2 (by omega))
  rw [decide_eq_true_eq, Int.toNat_of_nonneg h0] at this
  exact this

theorem xor01 {m n : Int} (h0 : 0 ≤ m ∧ m < 2) (h1 : 0 ≤ n ∧ n < 2) : bits .xor .i64 m n = (m + n) % 2 := by
  have hm : m = 0 ∨ m = 1 := by omega
  have hn : n = 0 ∨ n = 1 := by omega
  rcases hm with rfl | rfl <;> rcases hn with rfl | rfl <;> decide +kernel

theorem or_add {a b : Int} {k : Nat} (hk : k < 8) (h0 : 0 ≤ a) (h1 : a < 2 ^ k) (h2 : b = 0 ∨ b = 1) : bits .or .i64 a (b * 2 ^ k) = a + b * 2 ^ k := by
  have all : (List.range 8).all (fun k => (List.range (2 ^ k)).all fun a => decide (bits .or .i64 (a : Int) (0 * 2 ^ k) = (a : Int) + 0 * 2 ^ k) && decide (bits .or .i64 (a : Int) (1 * 2 ^ k) = (a : Int) + 1 * 2 ^ k)) = true := by decide +kernel
  rw [List.all_eq_true] at all
  have h3 := all k (List.mem_range.2 hk)
  rw [List.all_eq_true] at h3
  have ha : ((a.toNat : Nat) : Int) = a := Int.toNat_of_nonneg h0
  have hlt : a.toNat < 2 ^ k := by
    have : ((a.toNat : Nat) : Int) < ((2 ^ k : Nat) : Int) := by rw [ha]; exact_mod_cast h1
    exact_mod_cast this
  have h4 := h3 a.toNat (List.mem_range.2 hlt)
  rw [Bool.and_eq_true, decide_eq_true_eq, decide_eq_true_eq, ha] at h4
  rcases h2 with rfl | rfl
  · exact h4.1
  · exact h4.2

theorem shr_div {s n : Int} (h0 : 0 ≤ n) (h1 : n ≤ 60) : shrN .i64 s n = s / 2 ^ n.toNat := by
  unfold shrN
  rw [show min n.toNat IntKind.i64.bits = n.toNat from Nat.min_eq_left (by show n.toNat ≤ 64; omega)]
  exact Int.fdiv_eq_ediv_of_nonneg _ (Int.pow_nonneg (by omega))

theorem shl_mul {s n : Int} (h0 : 0 ≤ n) (h1 : n ≤ 60) : shlN .i64 s n = s * 2 ^ n.toNat := by
  unfold shlN
  rw [show min n.toNat IntKind.i64.bits = n.toNat from Nat.min_eq_left (by show n.toNat ≤ 64; omega)]

/-- The bit of a state that a tap reads. -/
def tapBit (L s t : Int) : Int := s / 2 ^ (L - t).toNat % 2

def parK (L : Int) (xs : List Int) (s : Int) : Nat → Int
  | 0 => 0
  | k + 1 => (parK L xs s k + tapBit L s (xs.getD k 0)) % 2

/-- The next state. -/
def nxt (L : Int) (xs : List Int) (s : Int) : Int := s / 2 + parK L xs s xs.length * 2 ^ (L - 1).toNat

theorem parK_01 (L : Int) (xs : List Int) (s : Int) : ∀ k, 0 ≤ parK L xs s k ∧ parK L xs s k < 2
  | 0 => by simp [parK]
  | k + 1 => by simp only [parK]; omega

theorem pow_half {L : Int} (h : 2 ≤ L ∧ L ≤ 8) : P2 L = 2 * 2 ^ (L - 1).toNat := by
  rcases lens h with rfl | rfl | rfl | rfl | rfl | rfl | rfl <;> decide

theorem nxt_in {L : Int} {xs : List Int} {s : Int} (h : 2 ≤ L ∧ L ≤ 8) (h0 : 0 ≤ s) (h1 : s < P2 L) : 0 ≤ nxt L xs s ∧ nxt L xs s < P2 L := by
  have e := pow_half h
  have hp : (0 : Int) < 2 ^ (L - 1).toNat := Int.pow_pos (by omega)
  rcases (show parK L xs s xs.length = 0 ∨ parK L xs s xs.length = 1 from by have := parK_01 L xs s xs.length; omega) with hb | hb <;> (rw [nxt, hb]; omega)

/-- Right registers with a state. -/
def pSt (L : Int) (xs : List Int) (s : Int) : Prop := chk L xs = 0 ∧ pLen xs.length ∧ 0 ≤ s ∧ s < P2 L

@[reducible] def sNext : Spec := { pats := [.dat Reg, .dat I64], res := [{ t := I64 }], pre := fun x => pSt x.1.1.1 x.1.1.2.1 x.2.1, f := fun x => (nxt x.1.1.1 x.1.1.2.1 x.2.1, ()) }

/-- register.next -/
theorem h146 : Ok 80 sNext := by
  refine mk (ctr := []) trivial (nt := 36) Tryd.func80 rfl rfl rfl rfl (by kernel_rfl) (by kernel_rfl) (fun x => [fun _ => { σ := Nat, pat := fun k => [sI 12 k, sI 5 (parK x.1.1.1 x.1.1.2.1 x.2.1 k)], inv := fun k => k ≤ List.length (α := Int) x.1.1.2.1, meas := fun k => List.length (α := Int) x.1.1.2.1 - k }]) ?_
  rintro ⟨⟨⟨(L : Int), (xs : List Int), _⟩, _⟩, (s : Int), _⟩ (hp : pSt L xs s)
  obtain ⟨hc, hl, hs0, hs1⟩ := hp
  obtain ⟨hL, hlen, hz, hlast⟩ := chk_zero hc
  have hz := regE_zero hz
  have := hl.out
  have hP := P2_in hL
  repeat' (intro hzz; (try (rename Two => hq; cases hq)); (try dsimp only at hzz); (try simp only [resTy, argTy, eqD, inR, big, wantOf, Bool.not_true, Bool.not_false, Bool.true_eq, decide_eq_true_eq, decide_eq_false_iff_not, Bool.not_eq_true', Bool.not_eq_false', Bool.and_eq_true, Prod.mk.injEq, and_true, true_and, Int.not_lt, Int.not_le, gt_iff_lt, ge_iff_le] at hzz); (try simp only [resTy, argTy, eqD, inR, big, wantOf, Bool.not_true, Bool.not_false, Bool.true_eq, decide_eq_true_eq, decide_eq_false_iff_not, Bool.not_eq_true', Bool.not_eq_false', Bool.and_eq_true, Prod.mk.injEq, and_true, true_and, Int.not_lt, Int.not_le, gt_iff_lt, ge_iff_le, getD_i] at hzz); (try (first | contradiction | (exfalso; omega))); (try (revert hzz; intro _)))
  all_goals try (rename Unit => hq; clear hq)
  all_goals try ((with_reducible refine Held.mk ?_); (with_reducible (first | refine Frz.mk ?_ | refine And.intro (Frz.mk ?_) ?_ | refine And.intro ?_ (Frz.mk ?_))); repeat' first | exact True.intro | (change _ = _; with_reducible rfl) | refine And.intro ?_ ?_ | (with_reducible refine Frz.mk ?_))
  all_goals try (refine Held.mk ?_; (try dsimp only at *); (try simp only [resTy, argTy, eqD, inR, big, wantOf, Bool.not_true, Bool.not_false, Bool.true_eq, decide_eq_true_eq, decide_eq_false_iff_not, Bool.not_eq_true', Bool.not_eq_false', Bool.and_eq_true, Prod.mk.injEq, and_true, true_and, Int.not_lt, Int.not_le, gt_iff_lt, ge_iff_le] at *); (try simp only [resTy, argTy, eqD, inR, big, wantOf, Bool.not_true, Bool.not_false, Bool.true_eq, decide_eq_true_eq, decide_eq_false_iff_not, Bool.not_eq_true', Bool.not_eq_false', Bool.and_eq_true, Prod.mk.injEq, and_true, true_and, Int.not_lt, Int.not_le, gt_iff_lt, ge_iff_le, getD_i] at *))
  all_goals try omega
  · 
    refine GHeld.mk ?_
    refine Exists.intro 0 ?_
    refine And.intro (Leaf.mk ?_) ?_
    · repeat' first | exact True.intro | refine And.intro ?_ ?_
      all_goals try ((change _ = _ <;> try dsimp only) <;> try with_reducible rfl)
      all_goals try omega
      all_goals (rfl)
    exact Nat.zero_le _
  · rename_i k hk hg
    have := hz k (by omega) (by omega)
    omega
  · rename_i k hk hg
    have := hz k (by omega) (by omega)
    omega
  · rename_i k hk hg
    have ht := hz k (by omega) (by omega)
    have key : bits .xor .i64 (parK L xs s k) (bits .and .i64 (shrN .i64 s (L - xs.getD k 0)) 1) = parK L xs s (k + 1) := by
      rw [shr_div (by omega) (by omega)]
      have hd0 : 0 ≤ s / 2 ^ (L - xs.getD k 0).toNat := Int.ediv_nonneg hs0 (Int.pow_nonneg (by omega))
      have hd1 : s / 2 ^ (L - xs.getD k 0).toNat ≤ s := Int.ediv_le_self _ hs0
      rw [and1 hd0 (by omega), xor01 (parK_01 L xs s k) (by omega)]
      rfl
    refine GHeld.mk ?_
    refine Exists.intro (k + 1) ?_
    refine And.intro (Leaf.mk ?_) ?_
    · repeat' first | exact True.intro | refine And.intro ?_ ?_
      all_goals try ((change _ = _ <;> try dsimp only) <;> try with_reducible rfl)
      all_goals try omega
      all_goals (exact key)
    exact ⟨by show k + 1 ≤ xs.length; omega, by show xs.length - (k + 1) < xs.length - k; omega⟩
  · rename_i k hk hg
    have hb := parK_01 L xs s k
    have e := pow_half hL
    have hp : (0 : Int) < 2 ^ (L - 1).toNat := Int.pow_pos (by omega)
    rw [shl_mul (by omega) (by omega)]
    rcases (show parK L xs s k = 0 ∨ parK L xs s k = 1 from by omega) with hb | hb <;> (rw [hb]; omega)
  · rename_i k hk hg
    have hkl : k = xs.length := by omega
    subst hkl
    have hb := parK_01 L xs s xs.length
    have e := pow_half hL
    have hp : (0 : Int) < 2 ^ (L - 1).toNat := Int.pow_pos (by omega)
    show bits .or .i64 (shrN .i64 s 1) (shlN .i64 (parK L xs s xs.length) (L - 1)) = nxt L xs s
    rw [shl_mul (by omega) (by omega), shr_div (by omega) (by omega)]
    rw [show (2 : Int) ^ (1 : Int).toNat = 2 from rfl]
    exact or_add (by omega) (by omega) (by omega) (by omega)

end Go.Eng.Pu

namespace Go.Eng.Pu
open Go.Eng Go.Proofs
set_option linter.all false
set_option maxRecDepth 100000
set_option maxHeartbeats 8000000

/-- The states from a start on. -/
def stI (L : Int) (xs : List Int) (s : Int) : Nat → Int
  | 0 => s
  | i + 1 => nxt L xs (stI L xs s i)

theorem stI_pSt {L : Int} {xs : List Int} {s : Int} (h : pSt L xs s) : ∀ i, pSt L xs (stI L xs s i)
  | 0 => h
  | i + 1 => by
    obtain ⟨h1, h2, h3, h4⟩ := stI_pSt h i
    exact ⟨h1, h2, nxt_in (chk_zero h1).1 h3 h4⟩

@[reducible] def isp159 : ISpec := { rd := [(0, 0, I64), (1, 0, Reg)], e := I64, seq := fun x i => stI x.2.1.1.1 x.2.1.1.2.1 x.1 i, len := fun _ => none, pre := fun x => pSt x.2.1.1.1 x.2.1.1.2.1 x.1 }

/-- What stays in the iterator's slots. -/
structure Slots (a : Act) (y p q : Value) (s : Int) : Prop where
  size : 12 ≤ a.tmps.size
  defers : a.defers = []
  y : a.tmps.getD 0 undef = y
  p : a.tmps.getD 1 undef = p
  q : a.tmps.getD 2 undef = q
  s : a.tmps.getD 4 undef = .int .i64 s

theorem getD_put {a : Act} {t u : Nat} {v : Value} (h : t < a.tmps.size) : (a.put (some t) v).tmps.getD u undef = if u = t then v else a.tmps.getD u undef := by
  simp only [Act.put, Array.getD_eq_getD_getElem?]
  by_cases hu : u = t
  · subst hu; simp [h]
  · rw [if_neg hu, Array.getElem?_setIfInBounds_ne (Ne.symm hu)]

theorem size_put (a : Act) (t : Nat) (v : Value) : (a.put (some t) v).tmps.size = a.tmps.size := by simp [Act.put]
theorem defers_put (a : Act) (t : Nat) (v : Value) : (a.put (some t) v).defers = a.defers := rfl

theorem enters146 : Enters Tryd.prog 80 := h146.2

/-- A call of the next state. -/
theorem next_call {w : World} {V : View} (hV : ∀ b c, V b c → ∃ el f, w.heap[b]? = some (.cells c el f)) {r : Reg.Den} {s : Int} {ys : List Value} (hr : Rep V Reg r ys) (hp : pSt r.1.1 r.1.2.1 s) :
    Calls Tryd.prog 80 #[.agg ys.toArray, .int .i64 s] w fun e w' => e = .returned (.int .i64 (nxt r.1.1 r.1.2.1 s)) ∧ OwnStep w w' [] [] := by
  have h := h146.1 w (fun _ => False) (r, (s, ())) [.agg ys.toArray, .int .i64 s] [] (fun _ h => h.elim)
    ⟨.agg ys.toArray, [.int .i64 s], rfl, ⟨ys, Rep.mono (fun b c h => ⟨fun h => h, hV b c h⟩) _ _ _ hr, .inl ⟨rfl, rfl⟩⟩, ⟨.int .i64 s, [], rfl, RepV.mk1 rfl rfl, rfl, rfl⟩⟩ hp
  refine h.mono fun e w' ⟨rs, g, h1, h2, h3⟩ => ?_
  obtain ⟨v, vs', h4, h5, h6, h7⟩ := h3
  subst h6
  subst h4
  obtain ⟨l, hl, ⟨hf, _⟩ | ⟨_, hv⟩⟩ := h5
  · cases hf
  have hl : l = [.int .i64 (nxt r.1.1 r.1.2.1 s)] := hl
  rw [hl] at hv
  have hv : v = _ := (List.cons.inj hv).1.symm
  subst hv
  exact ⟨h1, h2.os, h2.tape, h2.output, h2.size, fun b hb _ => h2.keep b hb (by simp), fun p hp => by cases hp⟩

/-- The two variables can be read. -/
theorem reads159 {w : World} {vs : List Value} {x : (rdTy isp159.rd).Den} (h : Readable isp159.rd w vs x) : ∃ V : View, (∀ b c, V b c → ∃ el f, w.heap[b]? = some (.cells c el f)) ∧
    (∃ ad : Addr, vs[0]? = some (.pointer (some ad)) ∧ (loadVar 3 ad).run Tryd.prog w = .ok (.int .i64 x.1) w) ∧
    ∃ (ad : Addr) (ys : List Value), vs[1]? = some (.pointer (some ad)) ∧ Rep V Reg x.2.1 ys ∧ (loadVar 84 ad).run Tryd.prog w = .ok (.agg ys.toArray) w := by
  obtain ⟨V, hV, ⟨b, off, h1, ys, h2, h3, h4⟩, ⟨b', off', h1', ys', h2', h3', h4'⟩, _⟩ := h
  refine ⟨V, hV, ⟨⟨b, off, none⟩, h1, ?_⟩, ⟨b', off', none⟩, ys', h1', h2', ?_⟩
  · have h2 : ys = [.int .i64 x.1] := h2
    exact run_loadVar_one row3 rfl (by have := h4 0 (.int .i64 x.1) (by rw [h2]; rfl); simpa using this)
  · exact run_loadVar_agg row84 rfl (by rw [h3']; rfl) (fun j v hj => by rw [add_none]; have := h4' j v hj; simpa using this)

section
variable {P : Program} {Q : Exit → Act → World → Prop} {a : Act} {w : World} {K : Act → World → Prop}

theorem op_val {o : Oper} {v : Value} (hnd : ∀ d, o.op ≠ .defer d) (hr : (execOp a.eval o).run P w = .ok (.value v) w) (h : K (a.put o.dst v) w) : o.wpIn (Fw none) 0 P a w K Q :=
  wpIn_of_run hnd hr h

theorem op_enter {o : Oper} {f : Nat} {args : Array Value} (hnd : ∀ d, o.op ≠ .defer d) (hr : (execOp a.eval o).run P w = .ok (.enter f args) w)
    (h : Calls P f args w fun e w' => ∃ v, e = .returned v ∧ K (a.put o.dst v) w') : o.wpIn (Fw none) 0 P a w K Q :=
  wpIn_of_run hnd hr ⟨fun h => (by cases h), callsFw (h.mono fun e w' ⟨v, h1, h2⟩ => by subst h1; exact h2)⟩

theorem op_round {o : Oper} {l f : Nat} {tmps : Array Value} {assign body : Code} (hnd : ∀ d, o.op ≠ .defer d) (hr : (execOp a.eval o).run P w = .ok (.round l f tmps assign body) w)
    (h : RoundIn (Fw none) 0 P l f tmps assign body w fun e w' => ∃ v, e = .returned v ∧ K (a.put o.dst v) w') : o.wpIn (Fw none) 0 P a w K Q :=
  wpIn_of_run hnd hr ⟨fun h => (by cases h), RoundIn.mono h (fun e w' ⟨v, h1, h2⟩ => by subst h1; exact h2)⟩

theorem list_nil {ops : Array Oper} (h : Q .normal a w) : wpListIn (Fw none) 0 P ops Q [] a w := h

theorem list_step {ops : Array Oper} {o : Oper} {rest : List Oper} (hg : o.guard = none) (h : o.wpIn (Fw none) 0 P a w (wpListIn (Fw none) 0 P ops Q rest) Q) : wpListIn (Fw none) 0 P ops Q (o :: rest) a w := by
  have hw : Region.wanted o (yielded ops a.tmps) = true := by simp [Region.wanted, hg]
  simp only [wpListIn, hw, if_true]
  exact h
end

theorem ih159 : IHolds Tryd.prog 81 isp159 := by
  intro fv cv x l N J Jx W hnb hpre hJ hJa hJxa hJN hY hJ0
  have hfv : fv = [] := List.eq_nil_of_length_eq_zero hnb
  subst hfv
  obtain ⟨s0, r, u⟩ := x
  have hpre : pSt r.1.1 r.1.2.1 s0 := hpre
  obtain ⟨V0, hV0, ⟨adp, hp0, hpl⟩, adq, yq, hq0, hqr, hql⟩ := reads159 (hJ 0 [] W hJ0).1
  have rd : ∀ i W, J i [] W → (loadVar 3 adp).run Tryd.prog W = .ok (.int .i64 s0) W ∧ ∃ (V : View) (ys : List Value), (∀ b c, V b c → ∃ el f, W.heap[b]? = some (.cells c el f)) ∧ Rep V Reg r ys ∧ (loadVar 84 adq).run Tryd.prog W = .ok (.agg ys.toArray) W := by
    intro i W h
    obtain ⟨V, hV, ⟨ad, h1, h2⟩, ad', ys, h3, h4, h5⟩ := reads159 (hJ i [] W h).1
    rw [hp0] at h1
    rw [hq0] at h3
    have e1 : adp = ad := by simpa using h1
    have e2 : adq = ad' := by simpa using h3
    subst e1 e2
    exact ⟨h2, V, ys, hV, h4, h5⟩
  obtain ⟨y, hy⟩ : ∃ y, y = Value.func (.yield l) #[] #[] := ⟨_, rfl⟩
  refine callsIn_of_wp (F := Fw none) (n := 0) (fn := Tryd.f81) Tryd.func81 rfl trivial ?_
  rw [← hy]
  obtain ⟨a0, ha0⟩ : ∃ a0 : Act, a0 = { tmps := ([] : List Value).toArray ++ #[y] ++ cv.toArray ++ Array.replicate (Tryd.f81.ntmps - (([] : List Value).toArray ++ #[y] ++ cv.toArray).size) undef, defers := [] } := ⟨_, rfl⟩
  rw [← ha0]
  have hsz : 12 ≤ a0.tmps.size := by
    have : Tryd.f81.ntmps = 12 := rfl
    rw [ha0]; simp [this]; omega
  have hc0 : cv[0]? = some (.pointer (some adp)) := hp0
  have hc1 : cv[1]? = some (.pointer (some adq)) := hq0
  have g0 : a0.tmps.getD 0 undef = y := by
    rw [ha0]
    simp only [Array.getD_eq_getD_getElem?]
    rw [Array.getElem?_append_left (by simp), Array.getElem?_append_left (by simp)]
    rfl
  have g1 : a0.tmps.getD 1 undef = .pointer (some adp) := by
    have hl : 0 < cv.length := (List.getElem?_eq_some_iff.1 hc0).1
    rw [ha0]
    simp only [Array.getD_eq_getD_getElem?]
    rw [Array.getElem?_append_left (by simp; omega), Array.getElem?_append_right (by simp)]
    simp [hc0]
  have g2 : a0.tmps.getD 2 undef = .pointer (some adq) := by
    have hl : 1 < cv.length := (List.getElem?_eq_some_iff.1 hc1).1
    rw [ha0]
    simp only [Array.getD_eq_getD_getElem?]
    rw [Array.getElem?_append_left (by simp; omega), Array.getElem?_append_right (by simp)]
    simp [hc1]
  have hd0 : a0.defers = [] := by rw [ha0]
  have ev : ∀ (a : Act) (t : Nat), a.eval (.tmp t) = a.tmps.getD t undef := fun a t => rfl
  have evf : ∀ (a : Act) (t : Nat), a.eval (.func t) = .func (.func t) #[] #[] := fun a t => rfl
  refine wpIn_seq (wpIn_region_list ?_)
  refine list_step rfl (op_val (v := .int .i64 s0) (by intro d h; cases h) ?_ ?_)
  · simp [execOp, ev, g1, Instr.loadAt, Instr.sureAddr, (rd 0 W hJ0).1]
  refine list_step rfl (op_val (v := .int .i64 s0) (by intro d h; cases h) ?_ ?_)
  · simp [execOp, ev, getD_put (show 5 < a0.tmps.size by omega)]
  obtain ⟨a1, ha1⟩ : ∃ a1 : Act, a1 = (a0.put (some 5) (.int .i64 s0)).put (some 4) (.int .i64 s0) := ⟨_, rfl⟩
  have S1 : Slots a1 y (.pointer (some adp)) (.pointer (some adq)) s0 := by
    rw [ha1]
    constructor
    · simpa only [size_put] using hsz
    · exact hd0
    all_goals (rw [getD_put (by simp only [size_put]; omega)]; first | rfl | rw [if_neg (by decide), getD_put (by omega), if_neg (by decide)]; assumption)
  refine list_nil ?_
  show Code.wpIn (Fw none) 0 Tryd.prog _ _ ((a0.put (some 5) (.int .i64 s0)).put (some 4) (.int .i64 s0)) W
  rw [← ha1]
  refine wpIn_block (wp_loop_rel (fun n a w => ∃ i, J i [] w ∧ n = N - i ∧ Slots a y (.pointer (some adp)) (.pointer (some adq)) (stI r.1.1 r.1.2.1 s0 i)) ⟨0, hJ0, rfl, S1⟩ ?_)
  rintro n a w ⟨i, hJi, rfl, S⟩
  have hsz := S.size
  obtain ⟨fl, tl, al, bl, hrun, hround⟩ := hY i [] w hJi (fun L hL => by cases hL)
  refine wpIn_seq (wpIn_seq (wpIn_region_list ?_))
  refine list_step rfl (op_val (v := y) (by intro d h; cases h) ?_ ?_)
  · simp [execOp, ev, S.y]
  refine list_step rfl (op_val (v := .int .i64 (stI r.1.1 r.1.2.1 s0 i)) (by intro d h; cases h) ?_ ?_)
  · simp [execOp, ev, getD_put (show 6 < a.tmps.size by omega), S.s]
  obtain ⟨a2, ha2⟩ : ∃ a2 : Act, a2 = (a.put (some 6) y).put (some 7) (.int .i64 (stI r.1.1 r.1.2.1 s0 i)) := ⟨_, rfl⟩
  have h6 : a2.tmps.getD 6 undef = y := by rw [ha2, getD_put (by simp only [size_put]; omega), if_neg (by decide), getD_put (by omega)]; rfl
  have h7 : a2.tmps.getD 7 undef = .int .i64 (stI r.1.1 r.1.2.1 s0 i) := by rw [ha2, getD_put (by simp only [size_put]; omega)]; rfl
  have S2 : Slots a2 y (.pointer (some adp)) (.pointer (some adq)) (stI r.1.1 r.1.2.1 s0 i) := by
    rw [ha2]
    constructor
    · simpa only [size_put] using hsz
    · exact S.defers
    all_goals (rw [getD_put (by simp only [size_put]; omega), if_neg (by decide), getD_put (by omega), if_neg (by decide)])
    · exact S.y
    · exact S.p
    · exact S.q
    · exact S.s
  show wpListIn (Fw none) 0 Tryd.prog _ _ [_] ((a.put (some 6) y).put (some 7) (.int .i64 (stI r.1.1 r.1.2.1 s0 i))) w
  rw [← ha2]
  refine list_step rfl (op_round (l := l) (f := fl) (tmps := tl) (assign := al) (body := bl) (by intro d h; cases h) ?_ (RoundIn.mono hround ?_))
  · simp [execOp, resolve, Deferred.ofValue, ev, h6, h7, hy, invoke, callFunc]
    exact hrun
  rintro e w2 (⟨rfl, hJ2⟩ | ⟨rfl, hJx2⟩)
  · refine ⟨.bool true, rfl, list_nil ?_⟩
    obtain ⟨a3, ha3⟩ : ∃ a3 : Act, a3 = a2.put (some 8) (.bool true) := ⟨_, rfl⟩
    have hsz2 := S2.size
    have S3 : Slots a3 y (.pointer (some adp)) (.pointer (some adq)) (stI r.1.1 r.1.2.1 s0 i) := by
      rw [ha3]
      constructor
      · simpa only [size_put] using hsz2
      · exact S2.defers
      all_goals (rw [getD_put (by omega), if_neg (by decide)])
      · exact S2.y
      · exact S2.p
      · exact S2.q
      · exact S2.s
    have h8 : a3.eval (.tmp 8) = .bool true := by rw [ev, ha3, getD_put (by omega)]; rfl
    show Code.wpIn (Fw none) 0 Tryd.prog _ _ (a2.put (some 8) (.bool true)) w2
    rw [← ha3]
    refine wpIn_cond_true h8 (wpIn_skip ?_)
    show Code.wpIn (Fw none) 0 Tryd.prog _ _ a3 w2
    obtain ⟨_, V, ys, hV, hr, hl⟩ := rd (i + 1) w2 hJ2
    have hsz3 := S3.size
    refine wpIn_block (wpIn_region_list ?_)
    refine list_step rfl (op_val (v := .agg ys.toArray) (by intro d h; cases h) ?_ ?_)
    · simp [execOp, ev, S3.q, Instr.loadAt, Instr.sureAddr, hl]
    refine list_step rfl (op_val (v := .int .i64 (stI r.1.1 r.1.2.1 s0 i)) (by intro d h; cases h) ?_ ?_)
    · simp [execOp, ev, getD_put (show 9 < a3.tmps.size by omega), S3.s]
    refine list_step rfl (op_enter (f := 80) (args := #[.agg ys.toArray, .int .i64 (stI r.1.1 r.1.2.1 s0 i)]) (by intro d h; cases h) ?_ ?_)
    · obtain ⟨fn, e1, e2, e3⟩ := enters146
      have e2' : ¬ fn.name = "runtime.NumGoroutine" := by simpa using e2
      have e3' : ¬ fn.body = none := by intro hn; rw [hn] at e3; cases e3
      have q9 : ((a3.put (some 9) (.agg ys.toArray)).put (some 10) (.int .i64 (stI r.1.1 r.1.2.1 s0 i))).tmps.getD 9 undef = .agg ys.toArray := by rw [getD_put (by simp only [size_put]; omega), if_neg (by decide), getD_put (by omega)]; rfl
      have q10 : ((a3.put (some 9) (.agg ys.toArray)).put (some 10) (.int .i64 (stI r.1.1 r.1.2.1 s0 i))).tmps.getD 10 undef = .int .i64 (stI r.1.1 r.1.2.1 s0 i) := by rw [getD_put (by simp only [size_put]; omega)]; rfl
      simp [execOp, resolve, Deferred.ofValue, ev, q9, q10, evf, invoke, callFunc, e1, e2', e3']
    refine (next_call hV hr (stI_pSt hpre i)).mono ?_
    rintro e w3 ⟨rfl, hown⟩
    refine ⟨_, rfl, ?_⟩
    refine list_step rfl (op_val (v := .int .i64 (stI r.1.1 r.1.2.1 s0 (i + 1))) (by intro d h; cases h) ?_ (list_nil ?_))
    · have q11 : (((a3.put (some 9) (.agg ys.toArray)).put (some 10) (.int .i64 (stI r.1.1 r.1.2.1 s0 i))).put (some 11) (.int .i64 (nxt r.1.1 r.1.2.1 (stI r.1.1 r.1.2.1 s0 i)))).tmps.getD 11 undef = .int .i64 (stI r.1.1 r.1.2.1 s0 (i + 1)) := by
        rw [getD_put (by simp only [size_put]; omega)]; rfl
      simp only [execOp, ev, q11]
      rfl
    have hlt : i + 1 < N := hJN (i + 1) [] w2 hJ2
    refine ⟨N - (i + 1), by omega, i + 1, hJa (i + 1) [] [] w2 w3 hJ2 hown, rfl, ?_⟩
    constructor
    · simpa only [size_put] using hsz3
    · exact S3.defers
    all_goals (rw [getD_put (by simp only [size_put]; omega)])
    all_goals try (rw [if_neg (by decide), getD_put (by simp only [size_put]; omega), if_neg (by decide), getD_put (by simp only [size_put]; omega), if_neg (by decide), getD_put (by omega), if_neg (by decide)])
    · exact S3.y
    · exact S3.p
    · exact S3.q
    · rfl
  · refine ⟨.bool false, rfl, list_nil ?_⟩
    have hsz2 := S2.size
    have h8 : (a2.put (some 8) (.bool false)).eval (.tmp 8) = .bool false := by rw [ev, getD_put (by omega)]; rfl
    refine wpIn_cond_false h8 (wpIn_exit ?_)
    exact ⟨S2.defers, .tuple #[], results_run (fn := Tryd.f81) (vs := []) rfl, ⟨_, rfl⟩, .inr ⟨i, [], hJx2⟩⟩

theorem enters159 : Enters Tryd.prog 81 := ⟨Tryd.f81, Tryd.func81, by kernel_rfl, by kernel_rfl⟩

/-- With the states' iterator. -/
@[reducible] def xS : Xt := { its := [(81, isp159)], clos := [(81, [I64, Reg])] }
theorem xS_ok : Its xS.its := ⟨⟨ih159, enters159⟩, trivial⟩

end Go.Eng.Pu

namespace Go.Eng.Pu
open Go.Eng Go.Proofs
set_option linter.all false
set_option maxRecDepth 100000
set_option maxHeartbeats 8000000

/-- The first k values of a function, as a list. -/
def tab {α : Type} (f : Nat → α) : Nat → List α
  | 0 => []
  | k + 1 => tab f k ++ [f k]

/-- The sum of the first k values. -/
def sm (f : Nat → Int) : Nat → Int
  | 0 => 0
  | k + 1 => sm f k + f k

theorem tab_len {α : Type} (f : Nat → α) : ∀ k, (tab f k).length = k
  | 0 => rfl
  | k + 1 => by simp [tab, tab_len f k]

theorem tab_get {α : Type} (f : Nat → α) (d : α) : ∀ k i, i < k → (tab f k).getD i d = f i
  | 0, i, h => by omega
  | k + 1, i, h => by
    simp only [tab, List.getD_eq_getElem?_getD]
    by_cases hi : i < k
    · rw [List.getElem?_append_left (by rw [tab_len]; exact hi)]
      have := tab_get f d k i hi
      rwa [List.getD_eq_getElem?_getD] at this
    · have : i = k := by omega
      subst this
      rw [List.getElem?_append_right (by rw [tab_len]; omega), tab_len]
      simp

theorem tab_congr {α : Type} {f g : Nat → α} : ∀ k, (∀ i, i < k → f i = g i) → tab f k = tab g k
  | 0, _ => rfl
  | k + 1, h => by simp only [tab]; rw [tab_congr k (fun i hi => h i (by omega)), h k (by omega)]

theorem sm_congr {f g : Nat → Int} : ∀ k, (∀ i, i < k → f i = g i) → sm f k = sm g k
  | 0, _ => rfl
  | k + 1, h => by simp only [sm]; rw [sm_congr k (fun i hi => h i (by omega)), h k (by omega)]

theorem sm_le {f : Nat → Int} {B : Int} : ∀ k : Nat, (∀ i, i < k → -B ≤ f i ∧ f i ≤ B) → -(k * B) ≤ sm f k ∧ sm f k ≤ k * B
  | 0, _ => by simp [sm]
  | k + 1, h => by
    have ih := sm_le k (fun i hi => h i (by omega))
    have := h k (by omega)
    simp only [sm]
    have e : (((k + 1 : Nat) : Int) * B) = (k : Int) * B + B := by rw [Int.natCast_add, Int.add_mul]; simp
    rw [e]
    omega

theorem list_tab {α : Type} (d : α) : ∀ (xs : List α), xs = tab (fun i => xs.getD i d) xs.length := by
  intro xs
  apply List.ext_getElem?
  intro i
  by_cases hi : i < xs.length
  · have h1 := tab_get (fun i => xs.getD i d) d xs.length i hi
    rw [List.getD_eq_getElem?_getD] at h1
    have h2 : (tab (fun i => xs.getD i d) xs.length)[i]? = some ((tab (fun i => xs.getD i d) xs.length)[i]'(by rw [tab_len]; exact hi)) := List.getElem?_eq_getElem _
    rw [h2] at h1 ⊢
    simp only [Option.getD_some] at h1
    rw [h1]
    simp [List.getD, List.getElem?_eq_getElem hi]
  · rw [List.getElem?_eq_none (by omega), List.getElem?_eq_none (by rw [tab_len]; omega)]

theorem tab_mem {α : Type} {f : Nat → α} : ∀ {k : Nat} {x : α}, x ∈ tab f k → ∃ i, i < k ∧ x = f i
  | 0, x, h => by simp [tab] at h
  | k + 1, x, h => by
    simp only [tab, List.mem_append, List.mem_singleton] at h
    rcases h with h | h
    · obtain ⟨i, h1, h2⟩ := tab_mem h
      exact ⟨i, by omega, h2⟩
    · exact ⟨k, by omega, h⟩


/-- Two of n + 1 numbers below n are equal. -/
theorem pigeon : ∀ (n : Nat) (f : Nat → Nat), (∀ i, i ≤ n → f i < n) → ∃ i j, i < j ∧ j ≤ n ∧ f i = f j
  | 0, f, h => by have := h 0 (Nat.le_refl 0); omega
  | n + 1, f, h => by
    by_cases hx : ∃ i, i ≤ n ∧ f i = f (n + 1)
    · obtain ⟨i, h1, h2⟩ := hx
      exact ⟨i, n + 1, by omega, Nat.le_refl _, h2⟩
    · let g : Nat → Nat := fun i => if f i = n then f (n + 1) else f i
      have hg : ∀ i, i ≤ n → g i < n := by
        intro i hi
        have h1 := h i (by omega)
        have h2 := h (n + 1) (Nat.le_refl _)
        have h3 : f i ≠ f (n + 1) := fun e => hx ⟨i, hi, e⟩
        show (if f i = n then f (n + 1) else f i) < n
        split <;> omega
      obtain ⟨i, j, h1, h2, h3⟩ := pigeon n g hg
      refine ⟨i, j, h1, by omega, ?_⟩
      have e3 : (if f i = n then f (n + 1) else f i) = (if f j = n then f (n + 1) else f j) := h3
      have hi : f i ≠ f (n + 1) := fun e => hx ⟨i, by omega, e⟩
      have hj : f j ≠ f (n + 1) := fun e => hx ⟨j, by omega, e⟩
      split at e3 <;> split at e3 <;> omega

theorem parK_half {L : Int} {xs : List Int} {s s' : Int} (hs : s / 2 = s' / 2) : ∀ k, (∀ j, j < k → 1 ≤ xs.getD j 0 ∧ xs.getD j 0 < L) → parK L xs s k = parK L xs s' k
  | 0, _ => rfl
  | k + 1, h => by
    have ih := parK_half hs k (fun j hj => h j (by omega))
    have ht := h k (by omega)
    have e : tapBit L s (xs.getD k 0) = tapBit L s' (xs.getD k 0) := by
      unfold tapBit
      obtain ⟨m, hm⟩ : ∃ m : Nat, (L - xs.getD k 0).toNat = m + 1 := ⟨(L - xs.getD k 0).toNat - 1, by omega⟩
      rw [hm, Int.pow_succ, Int.mul_comm, ← Int.ediv_ediv_of_nonneg (by omega), ← Int.ediv_ediv_of_nonneg (by omega), hs]
    simp only [parK, ih, e]

/-- The next state tells the state. -/
theorem nxt_inj {L : Int} {xs : List Int} {s s' : Int} (h : pSt L xs s) (h' : pSt L xs s') (he : nxt L xs s = nxt L xs s') : s = s' := by
  obtain ⟨hL, hlen, hz, hlast⟩ := chk_zero h.1
  have hz := regE_zero hz
  have hp := pow_half hL
  have hpos : (0 : Int) < 2 ^ (L - 1).toNat := Int.pow_pos (by omega)
  have b1 := parK_01 L xs s xs.length
  have b2 := parK_01 L xs s' xs.length
  have r1 := h.2.2
  have r2 := h'.2.2
  have hd : s / 2 = s' / 2 ∧ parK L xs s xs.length = parK L xs s' xs.length := by
    unfold nxt at he
    rcases (show parK L xs s xs.length = 0 ∨ parK L xs s xs.length = 1 from by omega) with e1 | e1 <;>
      rcases (show parK L xs s' xs.length = 0 ∨ parK L xs s' xs.length = 1 from by omega) with e2 | e2 <;> (rw [e1, e2] at he ⊢; omega)
  obtain ⟨k, hk⟩ : ∃ k, xs.length = k + 1 := ⟨xs.length - 1, by omega⟩
  have hlast' : xs.getD k 0 = L := by rw [← hlast, hk]; rfl
  have hasc : ∀ j, j < k → xs.getD j 0 < L := by
    have mono : ∀ d j, j + d = k → 0 < d → xs.getD j 0 < xs.getD k 0 := by
      intro d
      induction d with
      | zero => intro j _ h0; omega
      | succ d ih =>
        intro j hj _
        have h1 := (hz (j + 1) (by omega) (by omega)).2.2 (by omega)
        simp only [Nat.add_sub_cancel] at h1
        by_cases hd0 : d = 0
        · have : j + 1 = k := by omega
          rw [← this]; exact h1
        · have := ih (j + 1) (by omega) (by omega)
          omega
    intro j hj
    have := mono (k - j) j (by omega) (by omega)
    omega
  have e1 := parK_half (L := L) (xs := xs) hd.1 k (fun j hj => ⟨(hz j (by omega) (by omega)).1, hasc j hj⟩)
  have e2 := hd.2
  rw [hk] at e2
  simp only [parK, e1, hlast', tapBit, show L - L = 0 from by omega] at e2
  have e3 : ∀ t : Int, t / 2 ^ (0 : Int).toNat % 2 = t % 2 := fun t => by
    rw [show (2 : Int) ^ (0 : Int).toNat = 1 from rfl, Int.ediv_one]
  rw [e3, e3] at e2
  have := parK_01 L xs s' k
  omega

theorem stI_add (L : Int) (xs : List Int) (s : Int) (i : Nat) : ∀ j, stI L xs (stI L xs s i) j = stI L xs s (i + j)
  | 0 => rfl
  | j + 1 => by simp only [stI, stI_add L xs s i j, Nat.add_eq, ← Nat.add_assoc]

theorem stI_nxt (L : Int) (xs : List Int) (s : Int) (j : Nat) : stI L xs (nxt L xs s) j = stI L xs s (j + 1) := by
  have := stI_add L xs s 1 j
  rw [show j + 1 = 1 + j from by omega, ← this]; rfl

theorem back_to {L : Int} {xs : List Int} {s : Int} (h : pSt L xs s) (d : Nat) : ∀ i, stI L xs s i = stI L xs s (i + d) → stI L xs s d = s
  | 0, e => by rw [Nat.zero_add] at e; exact e.symm
  | i + 1, e => by
    refine back_to h d i (nxt_inj (stI_pSt h i) (stI_pSt h (i + d)) ?_)
    rw [show i + 1 + d = (i + d) + 1 from by omega] at e
    exact e

/-- The states come back to the start within 256 steps. -/
theorem comes_back {L : Int} {xs : List Int} {s : Int} (h : pSt L xs s) : ∃ i : Nat, 0 < i ∧ (i : Int) ≤ P2 L ∧ stI L xs s i = s := by
  have hL := (chk_zero h.1).1
  have hP := P2_in hL
  have hst := stI_pSt h
  obtain ⟨i, j, h1, h2, h3⟩ := pigeon (P2 L).toNat (fun i => (stI L xs s i).toNat) (fun i _ => by have := (hst i).2.2; omega)
  have h3 : (stI L xs s i).toNat = (stI L xs s j).toNat := h3
  have e : stI L xs s i = stI L xs s j := by have := (hst i).2.2; have := (hst j).2.2; omega
  refine ⟨j - i, by omega, by omega, back_to h (j - i) i ?_⟩
  rw [show i + (j - i) = j from by omega]
  exact e

/-- The first number from i on, of k, at which something is so. -/
def firstAt (p : Nat → Bool) : Nat → Nat → Nat
  | 0, i => i
  | k + 1, i => if p i = true then i else firstAt p k (i + 1)

theorem firstAt_spec {p : Nat → Bool} : ∀ {k i j : Nat}, i ≤ j → j < i + k → p j = true → p (firstAt p k i) = true ∧ i ≤ firstAt p k i ∧ firstAt p k i ≤ j ∧ ∀ m, i ≤ m → m < firstAt p k i → p m = false
  | 0, i, j, h1, h2, _ => by omega
  | k + 1, i, j, h1, h2, h3 => by
    simp only [firstAt]
    split
    · rename_i h; exact ⟨h, Nat.le_refl _, h1, fun m h4 h5 => by omega⟩
    · rename_i h
      have hne : i ≠ j := fun e => h (e ▸ h3)
      obtain ⟨q1, q2, q3, q4⟩ := firstAt_spec (k := k) (i := i + 1) (by omega) (by omega) h3
      refine ⟨q1, by omega, q3, fun m h4 h5 => ?_⟩
      by_cases hm : m = i
      · subst hm; simpa using h
      · exact q4 m (by omega) h5

/-- The period of a start. -/
def per (L : Int) (xs : List Int) (s : Int) : Nat := firstAt (fun i => decide (stI L xs s i = s)) 256 1

theorem per_spec {L : Int} {xs : List Int} {s : Int} (h : pSt L xs s) : stI L xs s (per L xs s) = s ∧ 1 ≤ per L xs s ∧ (per L xs s : Int) ≤ P2 L ∧ ∀ m, 1 ≤ m → m < per L xs s → stI L xs s m ≠ s := by
  obtain ⟨i, h1, h2, h3⟩ := comes_back h
  have hP := P2_in (chk_zero h.1).1
  obtain ⟨q1, q2, q3, q4⟩ := firstAt_spec (p := fun i => decide (stI L xs s i = s)) (k := 256) (i := 1) (j := i) h1 (by omega) (by simpa using h3)
  refine ⟨of_decide_eq_true q1, q2, by unfold per; omega, fun m h4 h5 => ?_⟩
  have := q4 m h4 h5
  simpa using this

end Go.Eng.Pu
