/- Contracts: Bits, Period, IsMaximal; the reference's bits, next state and period. Conditions: each contract's own. -/
import Derived.Test.YtnficfhnfpbhkaaGreatDoorQ8
namespace Go.Eng.Pu
open Go.Eng Go.Proofs
set_option linter.all false
set_option maxRecDepth 100000
set_option maxHeartbeats 8000000

theorem op_pSt {L : Int} {xs : List Int} {s : Int} (hl : pLen xs.length) (h : opErr L xs s = 0) : pSt L xs s ∧ 1 ≤ s := by
  unfold opErr at h
  split at h
  · rename_i hc
    unfold stErr at h
    split at h
    · rename_i h1
      unfold most at h1
      exact ⟨⟨hc, hl, by omega, by omega⟩, h1.1⟩
    · cases h
  · rename_i hc; exact absurd h hc

theorem first2 (a b : Int) : firstI [a, b] = if a = 0 then b else a := by
  simp only [firstI]
  by_cases h : a = 0 <;> by_cases h2 : b = 0 <;> simp [h, h2]

def bitsErr (L : Int) (xs : List Int) (s n : Int) : Int := if opErr L xs s = 0 then (if 0 ≤ n ∧ n ≤ 1024 then 0 else 2) else opErr L xs s
def bitsL (L : Int) (xs : List Int) (s n : Int) : List Int := if bitsErr L xs s n = 0 then tab (bitI L xs s) n.toNat else []

@[reducible] def sPBits : Spec := { pats := [.dat Reg0, .dat I64, .dat I64], res := [{ t := .sl I64 }, { t := I64 }], pre := fun x => pLen (List.length (α := Int) x.1.2.1), f := fun x => (bitsL x.1.1 x.1.2.1 x.2.1 x.2.2.1, bitsErr x.1.1 x.1.2.1 x.2.1 x.2.2.1, ()) }

theorem bitsErr_eq (L : Int) (xs : List Int) (s n : Int) : firstI [opErr L xs s, cond (decide (0 ≤ n ∧ n ≤ 1024)) 0 2] = bitsErr L xs s n := by
  rw [first2]
  unfold bitsErr
  by_cases h : opErr L xs s = 0 <;> by_cases h2 : 0 ≤ n ∧ n ≤ 1024 <;> simp [h, h2]

theorem bitsErr_zero {L : Int} {xs : List Int} {s n : Int} (h : bitsErr L xs s n = 0) : opErr L xs s = 0 ∧ 0 ≤ n ∧ n ≤ 1024 := by
  unfold bitsErr at h
  split at h
  · rename_i h1
    split at h
    · rename_i h2; exact ⟨h1, h2⟩
    · cases h
  · rename_i h1; exact absurd h h1

/-- pulse.Bits -/
theorem h18 : Ok 12 sPBits := by
  refine mk (ctr := [(31, sOpen), (32, sFirst), (33, sUnless), (34, sWithin), (35, sBits)]) ⟨h83, h84, h85, h86, h87, trivial⟩ (nt := 29) Tryz.func12 rfl rfl rfl rfl (by kernel_rfl) (by kernel_rfl) (fun _ => []) ?_
  rintro ⟨⟨(L : Int), (xs : List Int), _⟩, (s : Int), (n : Int), _⟩ (hl : pLen xs.length)
  have e := bitsErr_eq L xs s n
  repeat' (intro hzz; (try (rename Two => hq; cases hq)); (try dsimp only at hzz); (try simp only [resTy, argTy, eqD, inR, big, wantOf, Bool.not_true, Bool.not_false, Bool.true_eq, decide_eq_true_eq, decide_eq_false_iff_not, Bool.not_eq_true', Bool.not_eq_false', Bool.and_eq_true, Prod.mk.injEq, and_true, true_and, Int.not_lt, Int.not_le, gt_iff_lt, ge_iff_le] at hzz); (try simp only [resTy, argTy, eqD, inR, big, wantOf, Bool.not_true, Bool.not_false, Bool.true_eq, decide_eq_true_eq, decide_eq_false_iff_not, Bool.not_eq_true', Bool.not_eq_false', Bool.and_eq_true, Prod.mk.injEq, and_true, true_and, Int.not_lt, Int.not_le, gt_iff_lt, ge_iff_le, fWithin] at hzz); (try (first | contradiction | (exfalso; omega))); (try (revert hzz; intro _)))
  all_goals try (rename Unit => hq; clear hq)
  all_goals try ((with_reducible refine Held.mk ?_); (with_reducible (first | refine Frz.mk ?_ | refine And.intro (Frz.mk ?_) ?_ | refine And.intro ?_ (Frz.mk ?_))); repeat' first | exact True.intro | (change _ = _; with_reducible rfl) | refine And.intro ?_ ?_ | (with_reducible refine Frz.mk ?_))
  all_goals try (refine Held.mk ?_; (try dsimp only at *); (try simp only [resTy, argTy, eqD, inR, big, wantOf, Bool.not_true, Bool.not_false, Bool.true_eq, decide_eq_true_eq, decide_eq_false_iff_not, Bool.not_eq_true', Bool.not_eq_false', Bool.and_eq_true, Prod.mk.injEq, and_true, true_and, Int.not_lt, Int.not_le, gt_iff_lt, ge_iff_le] at *); (try simp only [resTy, argTy, eqD, inR, big, wantOf, Bool.not_true, Bool.not_false, Bool.true_eq, decide_eq_true_eq, decide_eq_false_iff_not, Bool.not_eq_true', Bool.not_eq_false', Bool.and_eq_true, Prod.mk.injEq, and_true, true_and, Int.not_lt, Int.not_le, gt_iff_lt, ge_iff_le, fWithin] at *))
  all_goals try omega
  · simp [pLen]
  · rename_i h
    have h : ¬ bitsErr L xs s n = 0 := by rw [← e]; exact h
    refine ⟨(if_neg h).symm, ?_⟩
    exact e
  · rename_i h
    have h : bitsErr L xs s n = 0 := by rw [← e]; exact h
    obtain ⟨h1, h2⟩ := bitsErr_zero h
    exact ⟨(op_pSt hl h1).1, h2⟩
  · rename_i h
    have h : bitsErr L xs s n = 0 := by rw [← e]; exact h
    exact ⟨(if_pos h).symm, h.symm⟩

@[reducible] def sPPer : Spec := { pats := [.dat Reg0, .dat I64], res := [{ t := I64 }, { t := I64 }], pre := fun x => pLen (List.length (α := Int) x.1.2.1), f := fun x => ((if opErr x.1.1 x.1.2.1 x.2.1 = 0 then (per x.1.1 x.1.2.1 x.2.1 : Int) else 0), opErr x.1.1 x.1.2.1 x.2.1, ()) }

/-! ### The bits, as the reference makes them -/

theorem div_mid {a M : Int} {k m : Nat} (h0 : 0 ≤ a) (p : Int) : (a + p * 2 ^ (k + 1 + m)) / 2 ^ k % 2 = a / 2 ^ k % 2 := by
  have hk : (0 : Int) < 2 ^ k := Int.pow_pos (by omega)
  have e : p * 2 ^ (k + 1 + m) = 2 ^ k * (2 * (p * 2 ^ m)) := by
    rw [Nat.add_assoc, Int.pow_add, Int.pow_add, Int.pow_one]
    rw [show p * (2 ^ k * (2 * 2 ^ m)) = 2 ^ k * (2 * (p * 2 ^ m)) from by
      rw [Int.mul_left_comm p, Int.mul_left_comm p]]
  rw [e, Int.add_mul_ediv_left _ _ (by omega), Int.add_mul_emod_self_left]

/-- The bit k of the state behind t steps is the bit t + k of the sequence. -/
theorem st_bit {L : Int} {xs : List Int} {s : Int} (h : pSt L xs s) : ∀ (k t : Nat), (k : Int) < L → stI L xs s t / 2 ^ k % 2 = bitI L xs s (t + k)
  | 0, t, _ => by rw [Int.pow_zero, Int.ediv_one]; rfl
  | k + 1, t, hk => by
    have hs := stI_pSt h t
    have ih := st_bit h k (t + 1) (by omega)
    rw [show t + 1 + k = t + (k + 1) from by omega] at ih
    rw [← ih]
    simp only [stI, nxt]
    obtain ⟨m, hm⟩ : ∃ m, (L - 1).toNat = k + 1 + m := ⟨(L - 1).toNat - (k + 1), by omega⟩
    rw [hm, div_mid (M := 0) (Int.ediv_nonneg hs.2.2.1 (by omega)), Int.pow_succ, Int.mul_comm, ← Int.ediv_ediv_of_nonneg (by omega)]

def tapSum (L : Int) (xs : List Int) (s : Int) (t : Nat) : Nat → Int := sm (fun j => bitI L xs s (t - (xs.getD j 0).toNat))

theorem parK_sum {L : Int} {xs : List Int} {s : Int} (h : pSt L xs s) (t : Nat) : ∀ k, k ≤ xs.length → parK L xs (stI L xs s t) k = tapSum L xs s (t + L.toNat) k % 2
  | 0, _ => rfl
  | k + 1, hk => by
    obtain ⟨hL, hlen, hz, hlast⟩ := chk_zero h.1
    have hz := regE_zero hz k (by omega) (by omega)
    have ih := parK_sum h t k (by omega)
    have e : tapBit L (stI L xs s t) (xs.getD k 0) = bitI L xs s (t + L.toNat - (xs.getD k 0).toNat) := by
      rw [show t + L.toNat - (xs.getD k 0).toNat = t + (L - xs.getD k 0).toNat from by omega]
      exact st_bit h _ t (by omega)
    simp only [parK, ih, e, tapSum, sm]
    omega

/-- A bit behind the first ones is the sum of those that the taps tell. -/
theorem bit_tail {L : Int} {xs : List Int} {s : Int} (h : pSt L xs s) {t : Nat} (ht : L ≤ t) : bitI L xs s t = tapSum L xs s t xs.length % 2 := by
  have hL := (chk_zero h.1).1
  obtain ⟨u, hu⟩ : ∃ u, t = u + L.toNat := ⟨t - L.toNat, by omega⟩
  subst hu
  rw [← parK_sum h u xs.length (Nat.le_refl _)]
  have hs := (stI_pSt h u).2.2
  have e := st_bit h (L - 1).toNat (u + 1) (by omega)
  rw [show u + 1 + (L - 1).toNat = u + L.toNat from by omega] at e
  rw [← e]
  simp only [stI, nxt]
  have hp := pow_half hL
  have hpos : (0 : Int) < 2 ^ (L - 1).toNat := Int.pow_pos (by omega)
  rw [Int.add_mul_ediv_right _ _ (by omega), Int.ediv_eq_zero_of_lt (by omega) (by omega)]
  have := parK_01 L xs (stI L xs s u) xs.length
  omega

theorem bit_head {L : Int} {xs : List Int} {s : Int} (h : pSt L xs s) {t : Nat} (ht : (t : Int) < L) : bitI L xs s t = s / 2 ^ t % 2 := by
  have := st_bit h t 0 ht
  rw [Nat.zero_add] at this
  exact this.symm

theorem bit_01 {L : Int} {xs : List Int} {s : Int} (t : Nat) : 0 ≤ bitI L xs s t ∧ bitI L xs s t ≤ 1 := by unfold bitI; omega

end Go.Eng.Pu
