/- Maximal registers: each start has the whole period; signs add up to -1, and correlate with themselves with -1. Plain laws. Conditions: the register is right and maximal. -/
import Derived.Test.YtcoimlnplaidiaaDoorQ18
namespace Go.Eng.Pu
open Go.Eng Go.Proofs
set_option linter.all false
set_option maxRecDepth 100000
set_option maxHeartbeats 8000000

theorem sm_add (f g : Nat → Int) : ∀ k, sm (fun i => f i + g i) k = sm f k + sm g k
  | 0 => rfl
  | k + 1 => by simp only [sm, sm_add f g k]; omega

theorem sm_mul (c : Int) (f : Nat → Int) : ∀ k, sm (fun i => c * f i) k = c * sm f k
  | 0 => by simp [sm]
  | k + 1 => by simp only [sm, sm_mul c f k, Int.mul_add]

theorem sm_const (c : Int) : ∀ k : Nat, sm (fun _ => c) k = k * c
  | 0 => by simp [sm]
  | k + 1 => by simp only [sm, sm_const c k]; rw [Int.natCast_add, Int.add_mul]; simp

theorem sm_comm (f : Nat → Nat → Int) (m : Nat) : ∀ n, sm (fun i => sm (fun j => f i j) m) n = sm (fun j => sm (fun i => f i j) n) m
  | 0 => by
    have : ∀ m, sm (fun _ => (0 : Int)) m = 0 := fun m => by rw [sm_const]; simp
    simp only [sm]
    exact (this m).symm
  | n + 1 => by
    simp only [sm, sm_comm f m n]
    rw [← sm_add]

/-- The sum over a whole period does not hang on where it begins. -/
theorem sm_turn {f : Nat → Int} {n : Nat} (h : ∀ i, f (i + n) = f i) : ∀ k, sm (fun i => f (i + k)) n = sm f n
  | 0 => rfl
  | k + 1 => by
    have ih := sm_turn h k
    have e1 : ∀ m, sm (fun i => f (i + (k + 1))) m + f k = sm (fun i => f (i + k)) m + f (m + k) := by
      intro m
      induction m with
      | zero => simp [sm]
      | succ m ihm =>
        simp only [sm]
        have e : m + (k + 1) = m + 1 + k := by omega
        rw [e] at *
        omega
    have := e1 n
    have h2 := h k
    rw [Nat.add_comm n k, h2] at this
    omega

def Maxi (L : Int) (xs : List Int) : Prop := (per L xs 1 : Int) = most L

section
variable {L : Int} {xs : List Int} {s : Int}

theorem stI_inj (h : pSt L xs s) {i j : Nat} (hij : i ≤ j) (he : stI L xs s i = stI L xs s j) : stI L xs s (j - i) = s := by
  refine back_to h (j - i) i ?_
  rw [show i + (j - i) = j from by omega]
  exact he

/-- A state that comes back in d steps: the period divides d. -/
theorem per_dvd (h : pSt L xs s) {d : Nat} (hd : stI L xs s d = s) : d % per L xs s = 0 := by
  obtain ⟨h1, h2, h3, h4⟩ := per_spec h
  have hm : ∀ q : Nat, stI L xs s (per L xs s * q) = s := by
    intro q
    induction q with
    | zero => rfl
    | succ q ih =>
      rw [Nat.mul_succ, ← stI_add, ih]; exact h1
  have e : stI L xs s (d % per L xs s) = s := by
    have := hd
    rw [← Nat.div_add_mod d (per L xs s), ← stI_add, hm] at this
    exact this
  by_cases hz : d % per L xs s = 0
  · exact hz
  · exact absurd e (h4 _ (by omega) (Nat.mod_lt _ (by omega)))

theorem per_turns (h : pSt L xs s) (q : Nat) : stI L xs s (per L xs s * q) = s := by
  obtain ⟨h1, _⟩ := per_spec h
  induction q with
  | zero => rfl
  | succ q ih => rw [Nat.mul_succ, ← stI_add, ih]; exact h1

theorem zero_stays (h : pSt L xs s) (hz : nxt L xs s = 0) : s = 0 := by
  have h0 : pSt L xs 0 := ⟨h.1, h.2.1, by omega, by have := h.2.2; omega⟩
  have e : nxt L xs 0 = 0 := by
    have hp : ∀ k, parK L xs 0 k = 0 := by
      intro k
      induction k with
      | zero => rfl
      | succ k ih => simp only [parK, ih, tapBit, Int.zero_ediv]; rfl
    simp only [nxt, hp]
    simp
  exact nxt_inj h h0 (hz.trans e.symm)

theorem stI_pos (h : pSt L xs s) (hs : 1 ≤ s) : ∀ i, 1 ≤ stI L xs s i
  | 0 => hs
  | i + 1 => by
    have ih := stI_pos h hs i
    have h1 := stI_pSt h i
    have h2 := (stI_pSt h (i + 1)).2.2
    have h3 : nxt L xs (stI L xs s i) ≠ 0 := fun e => by have := zero_stays h1 e; omega
    have h4 : stI L xs s (i + 1) = nxt L xs (stI L xs s i) := rfl
    rw [h4] at h2 ⊢
    omega

/-- In a maximal register each state is on the way from 1. -/
theorem on_way (hc : chk L xs = 0) (hl : pLen xs.length) (hM : Maxi L xs) (h : pSt L xs s) (hs : 1 ≤ s) : ∃ j, stI L xs 1 j = s := by
  have h1 := one_pSt hc hl
  obtain ⟨p1, p2, p3, p4⟩ := per_spec h1
  have hM' : (per L xs 1 : Int) = most L := hM
  unfold most at hM'
  have hpos := stI_pos h1 (by omega)
  have hst := stI_pSt h1
  have hs2 := h.2.2
  obtain ⟨i, j, q1, q2, q3⟩ := pigeon (per L xs 1) (fun i => if i < per L xs 1 then (stI L xs 1 i - 1).toNat else (s - 1).toNat) (fun i _ => by
    have a1 := hpos i
    have a2 := (hst i).2.2
    show (if i < per L xs 1 then (stI L xs 1 i - 1).toNat else (s - 1).toNat) < per L xs 1
    split <;> omega)
  have q3 : (if i < per L xs 1 then (stI L xs 1 i - 1).toNat else (s - 1).toNat) = (if j < per L xs 1 then (stI L xs 1 j - 1).toNat else (s - 1).toNat) := q3
  rw [if_pos (by omega)] at q3
  have a1 := hpos i
  have a2 := hpos j
  by_cases hj : j < per L xs 1
  · rw [if_pos hj] at q3
    have e := stI_inj h1 (Nat.le_of_lt q1) (show stI L xs 1 i = stI L xs 1 j by omega)
    exact absurd e (p4 (j - i) (by omega) (by omega))
  · rw [if_neg hj] at q3
    exact ⟨i, by omega⟩

theorem per_max (hc : chk L xs = 0) (hl : pLen xs.length) (hM : Maxi L xs) (h : pSt L xs s) (hs : 1 ≤ s) : per L xs s = per L xs 1 := by
  have h1 := one_pSt hc hl
  obtain ⟨j, hj⟩ := on_way hc hl hM h hs
  obtain ⟨p1, p2, p3, p4⟩ := per_spec h1
  obtain ⟨r1, r2, r3, r4⟩ := per_spec h
  have e1 : stI L xs s (per L xs 1) = s := by
    rw [← hj, stI_add, Nat.add_comm, ← stI_add, p1]
  have e2 : stI L xs 1 (per L xs s) = 1 := by
    have := r1
    rw [← hj, stI_add] at this
    have := stI_inj h1 (Nat.le_add_right j _) this.symm
    rwa [show j + per L xs (stI L xs 1 j) - j = per L xs s from by rw [hj]; omega] at this
  have d1 := per_dvd h e1
  have d2 := per_dvd h1 e2
  by_cases hlt : per L xs s < per L xs 1
  · rw [Nat.mod_eq_of_lt hlt] at d2; omega
  · by_cases hgt : per L xs 1 < per L xs s
    · rw [Nat.mod_eq_of_lt hgt] at d1; omega
    · omega

/-- A list of bits that keeps the register's rule is the sequence of the start that its first bits make. -/
def startOf (c : Nat → Int) : Nat → Int
  | 0 => 0
  | k + 1 => startOf c k + c k * 2 ^ k

theorem startOf_in {c : Nat → Int} (hc : ∀ i, 0 ≤ c i ∧ c i ≤ 1) : ∀ k : Nat, 0 ≤ startOf c k ∧ startOf c k < 2 ^ k
  | 0 => by simp [startOf]
  | k + 1 => by
    have ih := startOf_in hc k
    have h := hc k
    simp only [startOf]
    rw [Int.pow_succ]
    rcases (show c k = 0 ∨ c k = 1 from by omega) with e | e <;> (rw [e]; omega)

theorem startOf_bit {c : Nat → Int} (hc : ∀ i, 0 ≤ c i ∧ c i ≤ 1) : ∀ (k j : Nat), j < k → startOf c k / 2 ^ j % 2 = c j
  | 0, j, h => by omega
  | k + 1, j, h => by
    have hin := startOf_in hc k
    have hk := hc k
    simp only [startOf]
    by_cases hj : j = k
    · subst hj
      have hp : (0 : Int) < 2 ^ j := Int.pow_pos (by omega)
      rw [Int.add_mul_ediv_right _ _ (by omega), Int.ediv_eq_zero_of_lt hin.1 hin.2]
      omega
    · have ih := startOf_bit hc k j (by omega)
      obtain ⟨m, hm⟩ : ∃ m, k = j + 1 + m := ⟨k - (j + 1), by omega⟩
      rw [← ih, hm]
      exact div_mid (M := 0) (by rw [← hm]; exact hin.1) (c (j + 1 + m))

theorem uniq (hc : chk L xs = 0) (hl : pLen xs.length) {c : Nat → Int} (h01 : ∀ i, 0 ≤ c i ∧ c i ≤ 1) (hr : ∀ t : Nat, L ≤ (t : Int) → c t = sm (fun j => c (t - (xs.getD j 0).toNat)) xs.length % 2) :
    pSt L xs (startOf c L.toNat) ∧ ∀ t, bitI L xs (startOf c L.toNat) t = c t := by
  have hL := (chk_zero hc).1
  have hz := regE_zero (chk_zero hc).2.2.1
  have hin := startOf_in h01 L.toNat
  have hst : pSt L xs (startOf c L.toNat) := ⟨hc, hl, hin.1, hin.2⟩
  refine ⟨hst, fun t => ?_⟩
  induction t using Nat.strongRecOn with
  | _ t ih =>
    by_cases ht : (t : Int) < L
    · rw [bit_head hst ht]
      exact startOf_bit h01 L.toNat t (by omega)
    · rw [bit_tail hst (by omega), hr t (by omega)]
      unfold tapSum
      rw [sm_congr xs.length (fun j hj => ih (t - (xs.getD j 0).toNat) (by have := hz j (by omega) (by omega); omega))]

theorem sm_mod (f g : Nat → Int) : ∀ k, sm (fun i => (f i + g i) % 2) k % 2 = (sm f k + sm g k) % 2
  | 0 => rfl
  | k + 1 => by
    have ih := sm_mod f g k
    simp only [sm]
    omega

theorem bitI_add (s : Int) (k i : Nat) : bitI L xs (stI L xs s k) i = bitI L xs s (k + i) := by
  unfold bitI; rw [stI_add]

/-- Two states with one sequence are one state. -/
theorem bits_inj (h : pSt L xs s) {s' : Int} (h' : pSt L xs s') (he : ∀ i, bitI L xs s i = bitI L xs s' i) : s = s' := by
  have hL := (chk_zero h.1).1
  have key : ∀ (k : Nat), (k : Int) ≤ L → s % 2 ^ k = s' % 2 ^ k := by
    intro k
    induction k with
    | zero => intro _; simp [Int.emod_one]
    | succ k ih =>
      intro hk
      have e1 := ih (by omega)
      have e2 := he k
      rw [bit_head h (by omega), bit_head h' (by omega)] at e2
      have d : ∀ x : Int, x % 2 ^ (k + 1) = x % 2 ^ k + (x / 2 ^ k % 2) * 2 ^ k := by
        intro x
        have hp : (0 : Int) < 2 ^ k := Int.pow_pos (by omega)
        rw [Int.pow_succ]
        have e1 := Int.mul_ediv_add_emod x (2 ^ k)
        have e2 := Int.mul_ediv_add_emod (x / 2 ^ k) 2
        have e3 := Int.emod_nonneg x (show (2 : Int) ^ k ≠ 0 by omega)
        have e4 := Int.emod_lt_of_pos x hp
        have e5 := Int.emod_nonneg (x / 2 ^ k) (show (2 : Int) ≠ 0 by omega)
        have e6 := Int.emod_lt_of_pos (x / 2 ^ k) (show (0 : Int) < 2 by omega)
        have e7 : x = 2 ^ k * 2 * (x / 2 ^ k / 2) + (x % 2 ^ k + (x / 2 ^ k % 2) * 2 ^ k) := by
          have : 2 ^ k * (x / 2 ^ k) = 2 ^ k * 2 * (x / 2 ^ k / 2) + (x / 2 ^ k % 2) * 2 ^ k := by
            rw [Int.mul_assoc, Int.mul_comm (x / 2 ^ k % 2) (2 ^ k), ← Int.mul_add, e2]
          omega
        have e8 : 0 ≤ x % 2 ^ k + (x / 2 ^ k % 2) * 2 ^ k ∧ x % 2 ^ k + (x / 2 ^ k % 2) * 2 ^ k < 2 ^ k * 2 := by
          rcases (show x / 2 ^ k % 2 = 0 ∨ x / 2 ^ k % 2 = 1 from by omega) with h | h <;> (rw [h]; omega)
        have e9 : x % (2 ^ k * 2) = (x % 2 ^ k + (x / 2 ^ k % 2) * 2 ^ k) % (2 ^ k * 2) := by
          conv => lhs; rw [e7]
          rw [Int.mul_add_emod_self_left]
        rw [e9, Int.emod_eq_of_lt e8.1 e8.2]
      rw [d, d, e1, e2]
  have h1 := key L.toNat (by omega)
  have r1 := h.2.2
  have r2 := h'.2.2
  unfold P2 at r1 r2
  rw [Int.emod_eq_of_lt r1.1 r1.2, Int.emod_eq_of_lt r2.1 r2.2] at h1
  exact h1

end

end Go.Eng.Pu
