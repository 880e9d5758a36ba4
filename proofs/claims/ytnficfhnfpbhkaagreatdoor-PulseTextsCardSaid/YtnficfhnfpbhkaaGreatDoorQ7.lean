/- Lists by places; the states of a register come back to the start: its period. Plain laws. Conditions: none beyond each lemma's own. -/
import Derived.Test.YtnficfhnfpbhkaaGreatDoorQ6
namespace Go.Eng.Pu
open Go.Eng Go.Proofs
set_option linter.all false
set_option maxRecDepth 100000
set_option maxHeartbeats 8000000

/-- The first k values of a function, as a list. -/
def tab {α : Type} (f : Nat → α) : Nat → List α
  | 0 => []
  | k + 1 => tab f k ++ [f k]

/-- The sum of the first k values. -/
def sm (f : Nat → Int) : Nat → Int
  | 0 => 0
  | k + 1 => sm f k + f k

theorem tab_len {α : Type} (f : Nat → α) : ∀ k, (tab f k).length = k
  | 0 => rfl
  | k + 1 => by simp [tab, tab_len f k]

theorem tab_get {α : Type} (f : Nat → α) (d : α) : ∀ k i, i < k → (tab f k).getD i d = f i
  | 0, i, h => by omega
  | k + 1, i, h => by
    simp only [tab, List.getD_eq_getElem?_getD]
    by_cases hi : i < k
    · rw [List.getElem?_append_left (by rw [tab_len]; exact hi)]
      have := tab_get f d k i hi
      rwa [List.getD_eq_getElem?_getD] at this
    · have : i = k := by omega
      subst this
      rw [List.getElem?_append_right (by rw [tab_len]; omega), tab_len]
      simp

theorem tab_congr {α : Type} {f g : Nat → α} : ∀ k, (∀ i, i < k → f i = g i) → tab f k = tab g k
  | 0, _ => rfl
  | k + 1, h => by simp only [tab]; rw [tab_congr k (fun i hi => h i (by omega)), h k (by omega)]

theorem sm_congr {f g : Nat → Int} : ∀ k, (∀ i, i < k → f i = g i) → sm f k = sm g k
  | 0, _ => rfl
  | k + 1, h => by simp only [sm]; rw [sm_congr k (fun i hi => h i (by omega)), h k (by omega)]

theorem sm_le {f : Nat → Int} {B : Int} : ∀ k : Nat, (∀ i, i < k → -B ≤ f i ∧ f i ≤ B) → -(k * B) ≤ sm f k ∧ sm f k ≤ k * B
  | 0, _ => by simp [sm]
  | k + 1, h => by
    have ih := sm_le k (fun i hi => h i (by omega))
    have := h k (by omega)
    simp only [sm]
    have e : (((k + 1 : Nat) : Int) * B) = (k : Int) * B + B := by rw [Int.natCast_add, Int.add_mul]; simp
    rw [e]
    omega

theorem list_tab {α : Type} (d : α) : ∀ (xs : List α), xs = tab (fun i => xs.getD i d) xs.length := by
  intro xs
  apply List.ext_getElem?
  intro i
  by_cases hi : i < xs.length
  · have h1 := tab_get (fun i => xs.getD i d) d xs.length i hi
    rw [List.getD_eq_getElem?_getD] at h1
    have h2 : (tab (fun i => xs.getD i d) xs.length)[i]? = some ((tab (fun i => xs.getD i d) xs.length)[i]'(by rw [tab_len]; exact hi)) := List.getElem?_eq_getElem _
    rw [h2] at h1 ⊢
    simp only [Option.getD_some] at h1
    rw [h1]
    simp [List.getD, List.getElem?_eq_getElem hi]
  · rw [List.getElem?_eq_none (by omega), List.getElem?_eq_none (by rw [tab_len]; omega)]

theorem tab_mem {α : Type} {f : Nat → α} : ∀ {k : Nat} {x : α}, x ∈ tab f k → ∃ i, i < k ∧ x = f i
  | 0, x, h => by simp [tab] at h
  | k + 1, x, h => by
    simp only [tab, List.mem_append, List.mem_singleton] at h
    rcases h with h | h
    · obtain ⟨i, h1, h2⟩ := tab_mem h
      exact ⟨i, by omega, h2⟩
    · exact ⟨k, by omega, h⟩


/-- Two of n + 1 numbers below n are equal. -/
theorem pigeon : ∀ (n : Nat) (f : Nat → Nat), (∀ i, i ≤ n → f i < n) → ∃ i j, i < j ∧ j ≤ n ∧ f i = f j
  | 0, f, h => by have := h 0 (Nat.le_refl 0); omega
  | n + 1, f, h => by
    by_cases hx : ∃ i, i ≤ n ∧ f i = f (n + 1)
    · obtain ⟨i, h1, h2⟩ := hx
      exact ⟨i, n + 1, by omega, Nat.le_refl _, h2⟩
    · let g : Nat → Nat := fun i => if f i = n then f (n + 1) else f i
      have hg : ∀ i, i ≤ n → g i < n := by
        intro i hi
        have h1 := h i (by omega)
        have h2 := h (n + 1) (Nat.le_refl _)
        have h3 : f i ≠ f (n + 1) := fun e => hx ⟨i, hi, e⟩
        show (if f i = n then f (n + 1) else f i) < n
        split <;> omega
      obtain ⟨i, j, h1, h2, h3⟩ := pigeon n g hg
      refine ⟨i, j, h1, by omega, ?_⟩
      have e3 : (if f i = n then f (n + 1) else f i) = (if f j = n then f (n + 1) else f j) := h3
      have hi : f i ≠ f (n + 1) := fun e => hx ⟨i, by omega, e⟩
      have hj : f j ≠ f (n + 1) := fun e => hx ⟨j, by omega, e⟩
      split at e3 <;> split at e3 <;> omega

theorem parK_half {L : Int} {xs : List Int} {s s' : Int} (hs : s / 2 = s' / 2) : ∀ k, (∀ j, j < k → 1 ≤ xs.getD j 0 ∧ xs.getD j 0 < L) → parK L xs s k = parK L xs s' k
  | 0, _ => rfl
  | k + 1, h => by
    have ih := parK_half hs k (fun j hj => h j (by omega))
    have ht := h k (by omega)
    have e : tapBit L s (xs.getD k 0) = tapBit L s' (xs.getD k 0) := by
      unfold tapBit
      obtain ⟨m, hm⟩ : ∃ m : Nat, (L - xs.getD k 0).toNat = m + 1 := ⟨(L - xs.getD k 0).toNat - 1, by omega⟩
      rw [hm, Int.pow_succ, Int.mul_comm, ← Int.ediv_ediv_of_nonneg (by omega), ← Int.ediv_ediv_of_nonneg (by omega), hs]
    simp only [parK, ih, e]

/-- The next state tells the state. -/
theorem nxt_inj {L : Int} {xs : List Int} {s s' : Int} (h : pSt L xs s) (h' : pSt L xs s') (he : nxt L xs s = nxt L xs s') : s = s' := by
  obtain ⟨hL, hlen, hz, hlast⟩ := chk_zero h.1
  have hz := regE_zero hz
  have hp := pow_half hL
  have hpos : (0 : Int) < 2 ^ (L - 1).toNat := Int.pow_pos (by omega)
  have b1 := parK_01 L xs s xs.length
  have b2 := parK_01 L xs s' xs.length
  have r1 := h.2.2
  have r2 := h'.2.2
  have hd : s / 2 = s' / 2 ∧ parK L xs s xs.length = parK L xs s' xs.length := by
    unfold nxt at he
    rcases (show parK L xs s xs.length = 0 ∨ parK L xs s xs.length = 1 from by omega) with e1 | e1 <;>
      rcases (show parK L xs s' xs.length = 0 ∨ parK L xs s' xs.length = 1 from by omega) with e2 | e2 <;> (rw [e1, e2] at he ⊢; omega)
  obtain ⟨k, hk⟩ : ∃ k, xs.length = k + 1 := ⟨xs.length - 1, by omega⟩
  have hlast' : xs.getD k 0 = L := by rw [← hlast, hk]; rfl
  have hasc : ∀ j, j < k → xs.getD j 0 < L := by
    have mono : ∀ d j, j + d = k → 0 < d → xs.getD j 0 < xs.getD k 0 := by
      intro d
      induction d with
      | zero => intro j _ h0; omega
      | succ d ih =>
        intro j hj _
        have h1 := (hz (j + 1) (by omega) (by omega)).2.2 (by omega)
        simp only [Nat.add_sub_cancel] at h1
        by_cases hd0 : d = 0
        · have : j + 1 = k := by omega
          rw [← this]; exact h1
        · have := ih (j + 1) (by omega) (by omega)
          omega
    intro j hj
    have := mono (k - j) j (by omega) (by omega)
    omega
  have e1 := parK_half (L := L) (xs := xs) hd.1 k (fun j hj => ⟨(hz j (by omega) (by omega)).1, hasc j hj⟩)
  have e2 := hd.2
  rw [hk] at e2
  simp only [parK, e1, hlast', tapBit, show L - L = 0 from by omega] at e2
  have e3 : ∀ t : Int, t / 2 ^ (0 : Int).toNat % 2 = t % 2 := fun t => by
    rw [show (2 : Int) ^ (0 : Int).toNat = 1 from rfl, Int.ediv_one]
  rw [e3, e3] at e2
  have := parK_01 L xs s' k
  omega

theorem stI_add (L : Int) (xs : List Int) (s : Int) (i : Nat) : ∀ j, stI L xs (stI L xs s i) j = stI L xs s (i + j)
  | 0 => rfl
  | j + 1 => by simp only [stI, stI_add L xs s i j, Nat.add_eq, ← Nat.add_assoc]

theorem stI_nxt (L : Int) (xs : List Int) (s : Int) (j : Nat) : stI L xs (nxt L xs s) j = stI L xs s (j + 1) := by
  have := stI_add L xs s 1 j
  rw [show j + 1 = 1 + j from by omega, ← this]; rfl

theorem back_to {L : Int} {xs : List Int} {s : Int} (h : pSt L xs s) (d : Nat) : ∀ i, stI L xs s i = stI L xs s (i + d) → stI L xs s d = s
  | 0, e => by rw [Nat.zero_add] at e; exact e.symm
  | i + 1, e => by
    refine back_to h d i (nxt_inj (stI_pSt h i) (stI_pSt h (i + d)) ?_)
    rw [show i + 1 + d = (i + d) + 1 from by omega] at e
    exact e

/-- The states come back to the start within 256 steps. -/
theorem comes_back {L : Int} {xs : List Int} {s : Int} (h : pSt L xs s) : ∃ i : Nat, 0 < i ∧ (i : Int) ≤ P2 L ∧ stI L xs s i = s := by
  have hL := (chk_zero h.1).1
  have hP := P2_in hL
  have hst := stI_pSt h
  obtain ⟨i, j, h1, h2, h3⟩ := pigeon (P2 L).toNat (fun i => (stI L xs s i).toNat) (fun i _ => by have := (hst i).2.2; omega)
  have h3 : (stI L xs s i).toNat = (stI L xs s j).toNat := h3
  have e : stI L xs s i = stI L xs s j := by have := (hst i).2.2; have := (hst j).2.2; omega
  refine ⟨j - i, by omega, by omega, back_to h (j - i) i ?_⟩
  rw [show i + (j - i) = j from by omega]
  exact e

/-- The first number from i on, of k, at which something is so. -/
def firstAt (p : Nat → Bool) : Nat → Nat → Nat
  | 0, i => i
  | k + 1, i => if p i = true then i else firstAt p k (i + 1)

theorem firstAt_spec {p : Nat → Bool} : ∀ {k i j : Nat}, i ≤ j → j < i + k → p j = true → p (firstAt p k i) = true ∧ i ≤ firstAt p k i ∧ firstAt p k i ≤ j ∧ ∀ m, i ≤ m → m < firstAt p k i → p m = false
  | 0, i, j, h1, h2, _ => by omega
  | k + 1, i, j, h1, h2, h3 => by
    simp only [firstAt]
    split
    · rename_i h; exact ⟨h, Nat.le_refl _, h1, fun m h4 h5 => by omega⟩
    · rename_i h
      have hne : i ≠ j := fun e => h (e ▸ h3)
      obtain ⟨q1, q2, q3, q4⟩ := firstAt_spec (k := k) (i := i + 1) (by omega) (by omega) h3
      refine ⟨q1, by omega, q3, fun m h4 h5 => ?_⟩
      by_cases hm : m = i
      · subst hm; simpa using h
      · exact q4 m (by omega) h5

/-- The period of a start. -/
def per (L : Int) (xs : List Int) (s : Int) : Nat := firstAt (fun i => decide (stI L xs s i = s)) 256 1

theorem per_spec {L : Int} {xs : List Int} {s : Int} (h : pSt L xs s) : stI L xs s (per L xs s) = s ∧ 1 ≤ per L xs s ∧ (per L xs s : Int) ≤ P2 L ∧ ∀ m, 1 ≤ m → m < per L xs s → stI L xs s m ≠ s := by
  obtain ⟨i, h1, h2, h3⟩ := comes_back h
  have hP := P2_in (chk_zero h.1).1
  obtain ⟨q1, q2, q3, q4⟩ := firstAt_spec (p := fun i => decide (stI L xs s i = s)) (k := 256) (i := 1) (j := i) h1 (by omega) (by simpa using h3)
  refine ⟨of_decide_eq_true q1, q2, by unfold per; omega, fun m h4 h5 => ?_⟩
  have := q4 m h4 h5
  simpa using this

end Go.Eng.Pu
