/- The primes of a number: what primesOf finds; when a number is a root. Plain laws. -/
import Derived.Test.YtcoimlnplaidiaaDoorQ24
import Derived.Test.YtcoimlnplaidiaaDoorQ30
namespace Go.Eng.Pu
open Go.Eng Go.Proofs
set_option linter.all false
set_option maxRecDepth 100000
set_option maxHeartbeats 8000000

theorem strip_dvd (d : Int) : ∀ (f : Nat) (n : Int), strip d f n ∣ n
  | 0, n => Int.dvd_refl n
  | f + 1, n => by
    simp only [strip]
    split
    · rename_i h
      have h1 := strip_dvd d f (n / d)
      have h2 : n / d ∣ n := ⟨d, by rw [Int.ediv_mul_cancel (Int.dvd_of_emod_eq_zero h)]⟩
      exact Int.dvd_trans h1 h2
    · exact Int.dvd_refl n

theorem strip_not {d : Int} (hd : 2 ≤ d) : ∀ (f : Nat) {n : Int}, 1 ≤ n → n < 2 ^ f → strip d f n % d ≠ 0
  | 0, n, h1, h2 => by rw [Int.pow_zero] at h2; omega
  | f + 1, n, h1, h2 => by
    simp only [strip]
    split
    · rename_i hz
      have e1 := Int.mul_ediv_add_emod n d
      have e3 : 0 ≤ n / d := Int.ediv_nonneg (by omega) (by omega)
      have hq : 1 ≤ n / d := by
        rcases (show n / d = 0 ∨ 1 ≤ n / d from by omega) with h0 | h0
        · rw [h0, hz] at e1; omega
        · exact h0
      exact strip_not hd f hq (two_pow_half h2 hd h1)
    · assumption

theorem strip_pr {q d : Int} (hq : Pr q) : ∀ (f : Nat) {n : Int}, q ∣ n → q ∣ strip d f n ∨ q ∣ d
  | 0, n, h => .inl h
  | f + 1, n, h => by
    simp only [strip]
    split
    · rename_i hz
      have e : d * (n / d) = n := by
        have := Int.mul_ediv_add_emod n d
        rwa [hz, Int.add_zero] at this
      rw [← e] at h
      rcases pr_mul hq h with h | h
      · exact .inr h
      · exact strip_pr hq f h
    · exact .inl h

/-- No small divisors are left. -/
theorem rs_not {n : Int} (h1 : 1 ≤ n) (h2 : n ≤ 2000) : ∀ (k : Nat) (d : Int), 2 ≤ d → d < (k : Int) + 2 → (rs n k).1 % d ≠ 0
  | 0, d, hd, hk => by omega
  | k + 1, d, hd, hk => by
    have hin := rs_in h1 k
    have e : (rs n (k + 1)).1 = strip (k + 2 : Int) 11 (rs n k).1 := rfl
    rw [e]
    by_cases he : d = (k : Int) + 2
    · rw [he]
      exact strip_not (by omega) 11 hin.1 (by have : (2 : Int) ^ 11 = 2048 := rfl; omega)
    · have ih := rs_not h1 h2 k d hd (by omega)
      intro hz
      refine ih (Int.emod_eq_zero_of_dvd (Int.dvd_trans (Int.dvd_of_emod_eq_zero hz) (strip_dvd _ _ _)))

/-- A prime divisor is found, or is left. -/
theorem rs_has {n q : Int} (h1 : 1 ≤ n) (h2 : n ≤ 2000) (hq : Pr q) (hd : q ∣ n) : ∀ k : Nat, q ∈ (rs n k).2 ∨ q ∣ (rs n k).1
  | 0 => .inr hd
  | k + 1 => by
    have e2 : (rs n (k + 1)).2 = if (rs n k).1 % (k + 2 : Int) = 0 then (rs n k).2 ++ [(k + 2 : Int)] else (rs n k).2 := rfl
    have e1 : (rs n (k + 1)).1 = strip (k + 2 : Int) 11 (rs n k).1 := rfl
    rw [e1, e2]
    rcases rs_has h1 h2 hq hd k with h | h
    · left
      split
      · exact List.mem_append_left _ h
      · exact h
    · by_cases hz : (rs n k).1 % (k + 2 : Int) = 0
      · rw [if_pos hz]
        rcases strip_pr (d := (k + 2 : Int)) hq 11 h with h' | h'
        · exact .inr h'
        · left
          have hle := Int.le_of_dvd (by omega) h'
          by_cases he : q = (k : Int) + 2
          · rw [he]; exact List.mem_append_right _ (List.mem_singleton.2 rfl)
          · exact absurd (Int.emod_eq_zero_of_dvd h) (rs_not h1 h2 k q hq.1 (by omega))
      · rw [if_neg hz]
        right
        have : strip (k + 2 : Int) 11 (rs n k).1 = (rs n k).1 := by simp only [strip, if_neg hz]
        rw [this]; exact h

theorem prK_stop {n : Int} (h1 : 1 ≤ n) (h2 : n ≤ 2000) : (rs n (prK n)).1 < (prK n + 2 : Int) * (prK n + 2 : Int) ∧ prK n ≤ 43 := by
  obtain ⟨q1, q2, q3, q4⟩ := firstAt_spec (p := fun k => decide ((rs n k).1 < (k + 2 : Int) * (k + 2 : Int))) (k := 50) (i := 0) (j := 43) (Nat.zero_le _) (by omega) (decide_eq_true (by have := sq_big (k := 43) (Nat.le_refl _); have := rs_in h1 43; omega))
  exact ⟨of_decide_eq_true q1, q3⟩

/-- What is left has no divisor below itself. -/
theorem left_pr {n : Int} (h1 : 1 ≤ n) (h2 : n ≤ 2000) (d : Int) (hd : 2 ≤ d) (hlt : d < (rs n (prK n)).1) : (rs n (prK n)).1 % d ≠ 0 := by
  have hs := (prK_stop h1 h2).1
  have hno := rs_not h1 h2 (prK n)
  have hin := rs_in h1 (prK n)
  have hK0 : (0 : Int) ≤ ((prK n : Nat) : Int) := Int.natCast_nonneg _
  generalize (rs n (prK n)).1 = r at *
  generalize ((prK n : Nat) : Int) = K at *
  intro hz
  by_cases hk : d < K + 2
  · exact hno d hd hk hz
  · have e : d * (r / d) = r := by
      have := Int.mul_ediv_add_emod r d
      rwa [hz, Int.add_zero] at this
    have hq2 : 2 ≤ r / d := by
      by_cases h : 2 ≤ r / d
      · exact h
      · exfalso
        have : d * (r / d) ≤ d * 1 := Int.mul_le_mul_of_nonneg_left (by omega) (by omega)
        omega
    have hqk : r / d < K + 2 := by
      by_cases h : r / d < K + 2
      · exact h
      · exfalso
        have : (K + 2) * (K + 2) ≤ d * (r / d) := Int.mul_le_mul (by omega) (by omega) (by omega) (by omega)
        omega
    exact hno (r / d) hq2 hqk (Int.emod_eq_zero_of_dvd ⟨d, by rw [Int.mul_comm]; exact e.symm⟩)

/-- Each prime divisor is among them. -/
theorem prO_has {n q : Int} (h1 : 1 ≤ n) (h2 : n ≤ 2000) (hq : Pr q) (hd : q ∣ n) : q ∈ prO n := by
  have hl := left_pr h1 h2
  have hin := rs_in h1 (prK n)
  have hq2 := hq.1
  unfold prO
  rcases rs_has h1 h2 hq hd (prK n) with h | h
  · split
    · exact List.mem_append_left _ h
    · exact h
  · have hle := Int.le_of_dvd (by omega) h
    rw [if_pos (by omega)]
    by_cases he : q = (rs n (prK n)).1
    · rw [← he]; exact List.mem_append_right _ (List.mem_singleton.2 rfl)
    · exact absurd (Int.emod_eq_zero_of_dvd h) (hl q hq2 (by omega))

/-- A number has a prime divisor. -/
theorem has_pr : ∀ (k : Nat) {m : Int}, m ≤ k → 2 ≤ m → ∃ q, Pr q ∧ q ∣ m
  | 0, m, h, h' => by omega
  | k + 1, m, h, h' => by
    by_cases hp : Pr m
    · exact ⟨m, hp, Int.dvd_refl m⟩
    · have : ∃ d : Int, 2 ≤ d ∧ d < m ∧ m % d = 0 := by
        apply Classical.byContradiction
        intro hn
        exact hp ⟨h', fun d h1 h2 hz => hn ⟨d, h1, h2, hz⟩⟩
      obtain ⟨d, h1, h2, hz⟩ := this
      obtain ⟨q, hq, hqd⟩ := has_pr k (show d ≤ k by omega) h1
      exact ⟨q, hq, Int.dvd_trans hqd (Int.dvd_of_emod_eq_zero hz)⟩

/-- The reference's list: where all is found. -/
theorem rs_last {n : Int} (h1 : 1 ≤ n) (h2 : n ≤ 2000) {k : Nat} (hk : ∀ m : Nat, m < k → 1 < (rs n m).1) (hs : (rs n k).1 ≤ 1) : (rs n k).2 = prO n ∧ k ≤ 2000 := by
  have hst := prK_stop h1 h2
  have hl := left_pr h1 h2
  have hin := rs_in h1
  -- behind a number of steps with nothing to divide nothing changes
  have stay : ∀ (a j : Nat), (∀ m : Nat, a ≤ m → m < a + j → (rs n a).1 % (m + 2 : Int) ≠ 0) → rs n (a + j) = rs n a := by
    intro a j
    induction j with
    | zero => intro _; rfl
    | succ j ih =>
      intro h
      have e := ih fun m hm1 hm2 => h m hm1 (by omega)
      have hz := h (a + j) (by omega) (by omega)
      have e2 : rs n (a + (j + 1)) = (strip ((a + j : Nat) + 2 : Int) 11 (rs n (a + j)).1, if (rs n (a + j)).1 % ((a + j : Nat) + 2 : Int) = 0 then (rs n (a + j)).2 ++ [((a + j : Nat) + 2 : Int)] else (rs n (a + j)).2) := rfl
      rw [e2, e, if_neg hz]
      simp only [strip, if_neg hz]
  by_cases hr : 1 < (rs n (prK n)).1
  · -- something is left
    have hkK : prK n < k := by
      have mono : ∀ j, (rs n (k + j)).1 ≤ 1 := by
        intro j
        induction j with
        | zero => exact hs
        | succ j ih =>
          have := strip_in (d := ((k + j : Nat) + 2 : Int)) (by omega) 11 (hin (k + j)).1
          have e : (rs n (k + (j + 1))).1 = strip ((k + j : Nat) + 2 : Int) 11 (rs n (k + j)).1 := rfl
          rw [e]; omega
      by_cases h : prK n < k
      · exact h
      · have := mono (prK n - k)
        rw [show k + (prK n - k) = prK n by omega] at this
        omega
    have hb := hin (prK n)
    have hnot := rs_not h1 h2 (prK n)
    have hrk : (prK n : Int) + 2 ≤ (rs n (prK n)).1 := by
      by_cases h : (prK n : Int) + 2 ≤ (rs n (prK n)).1
      · exact h
      · exact absurd Int.emod_self (hnot (rs n (prK n)).1 (by omega) (by omega))
    obtain ⟨j, hj⟩ : ∃ j : Nat, (rs n (prK n)).1 = (prK n : Int) + j + 2 := ⟨((rs n (prK n)).1 - prK n - 2).toNat, by omega⟩
    have e := stay (prK n) j fun m hm1 hm2 => hl (m + 2 : Int) (by omega) (by omega)
    have e2 : rs n (prK n + j + 1) = (strip ((prK n + j : Nat) + 2 : Int) 11 (rs n (prK n + j)).1, if (rs n (prK n + j)).1 % ((prK n + j : Nat) + 2 : Int) = 0 then (rs n (prK n + j)).2 ++ [((prK n + j : Nat) + 2 : Int)] else (rs n (prK n + j)).2) := rfl
    have ec : ((prK n + j : Nat) + 2 : Int) = (rs n (prK n)).1 := by omega
    rw [e, ec, if_pos Int.emod_self] at e2
    have es : strip (rs n (prK n)).1 11 (rs n (prK n)).1 = 1 := by
      rw [show (11 : Nat) = 10 + 1 from rfl, strip, if_pos Int.emod_self, Int.ediv_self (by omega), strip, if_neg (by rw [Int.emod_eq_of_lt (by omega) (by omega)]; decide)]
    rw [es] at e2
    have hk2 : k = prK n + j + 1 := by
      have h3 : ¬ prK n + j + 1 < k := fun h => by have := hk _ h; rw [e2] at this; exact absurd this (Int.lt_irrefl 1)
      by_cases h4 : k = prK n + j + 1
      · exact h4
      · exfalso
        have hlt : k ≤ prK n + j := by omega
        have := stay (prK n) (k - prK n) fun m hm1 hm2 => hl (m + 2 : Int) (by omega) (by omega)
        rw [show prK n + (k - prK n) = k by omega] at this
        rw [this] at hs
        omega
    refine ⟨?_, by omega⟩
    rw [hk2, e2]
    unfold prO
    rw [if_pos hr]
  · -- nothing is left
    have hkK : k ≤ prK n := by
      by_cases h : k ≤ prK n
      · exact h
      · exact absurd (hk (prK n) (by omega)) hr
    have e1 : (rs n k).1 = 1 := by have := hin k; omega
    have e := stay k (prK n - k) fun m hm1 hm2 => by rw [e1, Int.emod_eq_of_lt (by omega) (by omega)]; decide
    rw [show k + (prK n - k) = prK n by omega] at e
    refine ⟨?_, by omega⟩
    unfold prO
    rw [if_neg hr, e]

/-- A root, as the program looks for it. -/
theorem root_of {p w n : Int} (hp : Pr p) (h1 : 1 ≤ n) (h2 : n ≤ 2000) (hw : Cg p (w ^ n.toNat) 1) (hq : ∀ q ∈ prO n, ¬ Cg p (w ^ (n / q).toNat) 1) : Root p w n.toNat := by
  refine ⟨hw, fun k hk0 hkn hk => ?_⟩
  -- the least one
  have hex : ∃ d : Nat, 0 < d ∧ Cg p (w ^ d) 1 ∧ ∀ m : Nat, 0 < m → m < d → ¬ Cg p (w ^ m) 1 := by
    have key : ∀ b k : Nat, k ≤ b → 0 < k → Cg p (w ^ k) 1 → ∃ d : Nat, 0 < d ∧ d ≤ k ∧ Cg p (w ^ d) 1 ∧ ∀ m : Nat, 0 < m → m < d → ¬ Cg p (w ^ m) 1 := by
      intro b
      induction b with
      | zero => intro k h1 h2; omega
      | succ b ih =>
        intro k h1 h2 h3
        by_cases hmin : ∀ m : Nat, 0 < m → m < k → ¬ Cg p (w ^ m) 1
        · exact ⟨k, h2, Nat.le_refl _, h3, hmin⟩
        · have : ∃ m : Nat, 0 < m ∧ m < k ∧ Cg p (w ^ m) 1 := by
            apply Classical.byContradiction
            intro hn
            exact hmin fun m a b c => hn ⟨m, a, b, c⟩
          obtain ⟨m, a, b', c⟩ := this
          obtain ⟨d, d1, d2, d3⟩ := ih m (by omega) a c
          exact ⟨d, d1, by omega, d3⟩
    obtain ⟨d, d1, _, d3⟩ := key k k (Nat.le_refl _) hk0 hk
    exact ⟨d, d1, d3⟩
  obtain ⟨d, d0, d1, dmin⟩ := hex
  have hdk : d ≤ k := by
    by_cases h : d ≤ k
    · exact h
    · exact absurd hk (dmin k hk0 (by omega))
  have hdn : n.toNat % d = 0 := by
    have h := (pow_modN d1 n.toNat).trans hw
    by_cases h0 : n.toNat % d = 0
    · exact h0
    · exact absurd h (dmin _ (by omega) (Nat.mod_lt _ d0))
  obtain ⟨m, hm⟩ := Nat.dvd_of_mod_eq_zero hdn
  have hm2 : 2 ≤ m := by
    rcases (show m = 0 ∨ m = 1 ∨ 2 ≤ m by omega) with h | h | h
    · rw [h] at hm; omega
    · rw [h] at hm; omega
    · exact h
  obtain ⟨q, hqp, hqm⟩ := has_pr m (m := (m : Int)) (by omega) (by omega)
  obtain ⟨c, hc⟩ := hqm
  have hq2 := hqp.1
  have hn : n = q * ((d : Int) * c) := by
    have : n = ((n.toNat : Nat) : Int) := by omega
    rw [this, hm, Int.natCast_mul, hc]
    grind
  have hc0 : 0 ≤ c := by
    by_cases h : 0 ≤ c
    · exact h
    · exfalso
      have : q * c ≤ q * 0 := Int.mul_le_mul_of_nonneg_left (by omega) (by omega)
      omega
  refine hq q (prO_has h1 h2 hqp ⟨_, hn⟩) ?_
  have e : n / q = (d : Int) * c := by
    rw [hn, Int.mul_ediv_cancel_left _ (by omega)]
  rw [e]
  have e3 : ((d : Int) * c).toNat = d * c.toNat := by
    obtain ⟨c', rfl⟩ := Int.eq_ofNat_of_zero_le hc0
    rw [← Int.natCast_mul, Int.toNat_natCast, Int.toNat_natCast]
  rw [e3]
  exact pow_one_mul d1 _

end Go.Eng.Pu
