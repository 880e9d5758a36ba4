/- Maximal registers: the sum of the signs, and their correlation with themselves. Plain laws. Conditions: the register is right and maximal. -/
import Derived.Test.YtcoimlnplaidiaaQ22
namespace Go.Eng.Pu
open Go.Eng Go.Proofs
set_option linter.all false
set_option maxRecDepth 100000
set_option maxHeartbeats 8000000

section
variable {L : Int} {xs : List Int} {s : Int}

theorem sgI_add (s : Int) (k i : Nat) : sgI L xs (stI L xs s k) i = sgI L xs s (k + i) := by
  unfold sgI; rw [bitI_add]

theorem sgI_per (h : pSt L xs s) (i : Nat) : sgI L xs s (i + per L xs s) = sgI L xs s i := by
  rw [Nat.add_comm, ← sgI_add, (per_spec h).1]

theorem sgI_turns (h : pSt L xs s) (q i : Nat) : sgI L xs s (per L xs s * q + i) = sgI L xs s i := by
  rw [← sgI_add, per_turns h]

theorem sgI_mod (h : pSt L xs s) (m : Nat) : sgI L xs s (m % per L xs s) = sgI L xs s m := by
  have e := sgI_turns h (m / per L xs s) (m % per L xs s)
  rw [Nat.div_add_mod] at e
  exact e.symm

/-- The sum of the signs of a start. -/
def sumS (L : Int) (xs : List Int) (s : Int) : Int := sm (sgI L xs s) (per L xs 1)
def corS (L : Int) (xs : List Int) (s : Int) (k : Nat) : Int := sm (fun i => sgI L xs s i * sgI L xs s (i + k)) (per L xs 1)

theorem sumS_one (hc : chk L xs = 0) (hl : pLen xs.length) (hM : Maxi L xs) (h : pSt L xs s) (hs : 1 ≤ s) : sumS L xs s = sumS L xs 1 := by
  have h1 := one_pSt hc hl
  obtain ⟨j, hj⟩ := on_way hc hl hM h hs
  have e := sm_turn (f := sgI L xs 1) (n := per L xs 1) (fun i => sgI_per h1 i) j
  unfold sumS
  rw [← e, ← hj]
  exact sm_congr _ fun i _ => by rw [sgI_add, Nat.add_comm]

theorem cor_zero (h : pSt L xs s) (hp : per L xs s = per L xs 1) {k : Nat} (hk : k % per L xs 1 = 0) : corS L xs s k = per L xs 1 := by
  have e : ∀ i, i < per L xs 1 → sgI L xs s i * sgI L xs s (i + k) = 1 := by
    intro i _
    have e1 : sgI L xs s (i + k) = sgI L xs s i := by
      have := sgI_turns h (k / per L xs s) i
      rw [hp, Nat.mul_div_cancel' (Nat.dvd_of_mod_eq_zero hk), Nat.add_comm] at this
      exact this
    rw [e1]
    have := bit_01 (L := L) (xs := xs) (s := s) i
    unfold sgI
    rcases (show bitI L xs s i = 0 ∨ bitI L xs s i = 1 from by omega) with h0 | h0 <;> (rw [h0]; rfl)
  unfold corS
  rw [sm_congr _ e, sm_const]
  omega

/-- Shifted and added, the signs are the signs of another start. -/
theorem cor_shift (hc : chk L xs = 0) (hl : pLen xs.length) (hM : Maxi L xs) (h : pSt L xs s) (hs : 1 ≤ s) {k : Nat} (hk : ¬ k % per L xs 1 = 0) : corS L xs s k = sumS L xs 1 := by
  have hp := per_max hc hl hM h hs
  have hz := regE_zero (chk_zero hc).2.2.1
  have b := fun i => bit_01 (L := L) (xs := xs) (s := s) i
  obtain ⟨c, hcd⟩ : ∃ c : Nat → Int, c = fun i => (bitI L xs s i + bitI L xs s (i + k)) % 2 := ⟨_, rfl⟩
  have ce : ∀ i, c i = (bitI L xs s i + bitI L xs s (i + k)) % 2 := fun i => by rw [hcd]
  have h01 : ∀ i, 0 ≤ c i ∧ c i ≤ 1 := fun i => by rw [ce]; omega
  have hr : ∀ t : Nat, L ≤ (t : Int) → c t = sm (fun j => c (t - (xs.getD j 0).toNat)) xs.length % 2 := by
    intro t ht
    have e1 := bit_tail h ht
    have e2 := bit_tail h (t := t + k) (by omega)
    have e3 : tapSum L xs s (t + k) xs.length = sm (fun j => bitI L xs s (t - (xs.getD j 0).toNat + k)) xs.length := by
      refine sm_congr _ fun j hj => ?_
      have := hz j (by omega) (by omega)
      rw [show t + k - (xs.getD j 0).toNat = t - (xs.getD j 0).toNat + k from by omega]
    have e4 := sm_mod (fun j => bitI L xs s (t - (xs.getD j 0).toNat)) (fun j => bitI L xs s (t - (xs.getD j 0).toNat + k)) xs.length
    have e5 : sm (fun j => c (t - (xs.getD j 0).toNat)) xs.length = sm (fun j => (bitI L xs s (t - (xs.getD j 0).toNat) + bitI L xs s (t - (xs.getD j 0).toNat + k)) % 2) xs.length := sm_congr _ fun j _ => ce _
    have e6 : tapSum L xs s t xs.length = sm (fun j => bitI L xs s (t - (xs.getD j 0).toNat)) xs.length := rfl
    rw [ce, e1, e2, e3, e5, e4, e6]
    omega
  obtain ⟨hu, hub⟩ := uniq hc hl h01 hr
  have hu1 : 1 ≤ startOf c L.toNat := by
    have := hu.2.2
    by_cases h0 : startOf c L.toNat = 0
    · exfalso
      have h00 : pSt L xs 0 := by rw [← h0]; exact hu
      have z : ∀ i, bitI L xs 0 i = 0 := by
        have st0 : ∀ i, stI L xs 0 i = 0 := by
          intro i
          induction i with
          | zero => rfl
          | succ i ih =>
            have hpz : ∀ m, parK L xs 0 m = 0 := by
              intro m
              induction m with
              | zero => rfl
              | succ m ihm => simp only [parK, ihm, tapBit, Int.zero_ediv]; rfl
            simp only [stI, ih, nxt, hpz]
            simp
        intro i
        unfold bitI
        rw [st0]; rfl
      have e : s = stI L xs s k := bits_inj h (stI_pSt h k) fun i => by
        have e1 := hub i
        rw [h0, z i, ce] at e1
        rw [bitI_add, Nat.add_comm]
        have := b i
        have := b (i + k)
        omega
      have := per_dvd h e.symm
      rw [hp] at this
      exact hk this
    · omega
  rw [← sumS_one hc hl hM hu hu1]
  unfold corS sumS
  refine sm_congr _ fun i _ => ?_
  unfold sgI
  rw [hub, ce]
  have b1 := b i
  have b2 := b (i + k)
  rcases (show bitI L xs s i = 0 ∨ bitI L xs s i = 1 from by omega) with e1 | e1 <;> rcases (show bitI L xs s (i + k) = 0 ∨ bitI L xs s (i + k) = 1 from by omega) with e2 | e2 <;> (rw [e1, e2]; rfl)

theorem sm_first (a b : Int) : ∀ n : Nat, sm (fun k => if k = 0 then a else b) (n + 1) = a + n * b
  | 0 => by simp [sm]
  | n + 1 => by
    have ih := sm_first a b n
    have e : sm (fun k => if k = 0 then a else b) (n + 1 + 1) = sm (fun k => if k = 0 then a else b) (n + 1) + (if n + 1 = 0 then a else b) := rfl
    rw [e, ih, if_neg (by omega), Int.natCast_add, Int.add_mul]
    simp
    omega

theorem sm_nonneg_zero {f : Nat → Int} (h : ∀ i, 0 ≤ f i) : ∀ {n : Nat}, sm f n = 0 → ∀ i, i < n → f i = 0
  | 0, _, i, hi => by omega
  | n + 1, hz, i, hi => by
    have hn : ∀ m, 0 ≤ sm f m := by
      intro m
      induction m with
      | zero => exact Int.le_refl _
      | succ m ih => have := h m; simp only [sm]; omega
    simp only [sm] at hz
    have h1 := hn n
    have h2 := h n
    by_cases he : i = n
    · subst he; omega
    · exact sm_nonneg_zero h (n := n) (by omega) i (by omega)

/-- The signs of a maximal register add up to -1. -/
theorem sum_max (hc : chk L xs = 0) (hl : pLen xs.length) (hM : Maxi L xs) : sumS L xs 1 = -1 := by
  have h1 := one_pSt hc hl
  have hL := (chk_zero hc).1
  obtain ⟨p1, p2, p3, p4⟩ := per_spec h1
  obtain ⟨n, hn⟩ : ∃ n, per L xs 1 = n + 1 := ⟨per L xs 1 - 1, by omega⟩
  obtain ⟨S, hS⟩ : ∃ S, S = sumS L xs 1 := ⟨_, rfl⟩
  -- all correlations, added up
  have e1 : sm (fun k => corS L xs 1 k) (per L xs 1) = (n + 1 : Int) + n * S := by
    have : sm (fun k => corS L xs 1 k) (per L xs 1) = sm (fun k => if k = 0 then ((n + 1 : Nat) : Int) else S) (n + 1) := by
      rw [← hn]
      refine sm_congr _ fun k hk => ?_
      by_cases h0 : k = 0
      · rw [if_pos h0, cor_zero h1 rfl (by rw [h0]; exact Nat.zero_mod _)]
      · rw [if_neg h0, cor_shift hc hl hM h1 (by omega) (by rw [Nat.mod_eq_of_lt hk]; exact h0), hS]
    rw [this, sm_first]
    simp
  have e2 : sm (fun k => corS L xs 1 k) (per L xs 1) = S * S := by
    have f1 : sm (fun k => corS L xs 1 k) (per L xs 1) = sm (fun i => sm (fun k => sgI L xs 1 i * sgI L xs 1 (i + k)) (per L xs 1)) (per L xs 1) := (sm_comm (fun i k => sgI L xs 1 i * sgI L xs 1 (i + k)) (per L xs 1) (per L xs 1)).symm
    rw [f1]
    have f2 : ∀ i, i < per L xs 1 → sm (fun k => sgI L xs 1 i * sgI L xs 1 (i + k)) (per L xs 1) = S * sgI L xs 1 i := by
      intro i _
      rw [sm_mul]
      have f3 := sm_turn (f := sgI L xs 1) (n := per L xs 1) (fun i => sgI_per h1 i) i
      have f4 : sm (fun k => sgI L xs 1 (i + k)) (per L xs 1) = sm (fun k => sgI L xs 1 (k + i)) (per L xs 1) := sm_congr _ fun k _ => by rw [Nat.add_comm]
      rw [f4, f3, Int.mul_comm, hS]; rfl
    rw [sm_congr _ f2, sm_mul, hS]; rfl
  have e3 : (S - (n + 1 : Int)) * (S + 1) = 0 := by
    have e := e1.symm.trans e2
    have : (S - (n + 1 : Int)) * (S + 1) = S * S - ((n + 1 : Int) + n * S) := by
      rw [Int.sub_mul, Int.mul_add, Int.mul_add, Int.mul_one, Int.mul_one, Int.add_mul, Int.one_mul]
      omega
    rw [this, ← e]; omega
  rcases Int.mul_eq_zero.1 e3 with h | h
  · exfalso
    -- all bits would be 0
    have e4 : S = (n + 1 : Int) - 2 * sm (bitI L xs 1) (per L xs 1) := by
      rw [hS]
      unfold sumS
      have : sm (sgI L xs 1) (per L xs 1) = sm (fun i => 1 + (-2) * bitI L xs 1 i) (per L xs 1) := sm_congr _ fun i _ => by unfold sgI; omega
      rw [this, sm_add, sm_const, sm_mul, hn]
      simp
      omega
    have hz : sm (bitI L xs 1) (per L xs 1) = 0 := by omega
    have := sm_nonneg_zero (fun i => (bit_01 (L := L) (xs := xs) (s := 1) i).1) hz 0 (by omega)
    rw [bit_head h1 (by omega)] at this
    simp at this
  · rw [← hS]; omega

end

end Go.Eng.Pu
