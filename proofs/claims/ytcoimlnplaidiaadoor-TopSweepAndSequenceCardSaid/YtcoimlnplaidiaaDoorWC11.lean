/- The primes of a number: what primesOf finds; when a number is a root. Plain laws. Contracts: primes, powers, roots, fields. Conditions: each contract's own. Chirps, of the program and of the reference; the law PulseChirps as a contract. Conditions: the variable turns holds what its text lays. Contracts: quotients rounded down. Conditions: each contract's own. Contracts: whether a register is maximal, the reference's. Conditions: each contract's own. -/
import Derived.Test.YtcoimlnplaidiaaDoorWC10
import Derived.Test.YtcoimlnplaidiaaDoorWC7
import Derived.Test.YtcoimlnplaidiaaDoorWC3
import Derived.Test.YtcoimlnplaidiaaDoorWC8
import Derived.Test.YtcoimlnplaidiaaDoorWC4
namespace Go.Eng.Pu
open Go.Eng Go.Proofs
set_option linter.all false
set_option maxRecDepth 100000
set_option maxHeartbeats 8000000

theorem strip_dvd (d : Int) : ∀ (f : Nat) (n : Int), strip d f n ∣ n
  | 0, n => Int.dvd_refl n
  | f + 1, n => by
    simp only [strip]
    split
    · rename_i h
      have h1 := strip_dvd d f (n / d)
      have h2 : n / d ∣ n := ⟨d, by rw [Int.ediv_mul_cancel (Int.dvd_of_emod_eq_zero h)]⟩
      exact Int.dvd_trans h1 h2
    · exact Int.dvd_refl n

theorem strip_not {d : Int} (hd : 2 ≤ d) : ∀ (f : Nat) {n : Int}, 1 ≤ n → n < 2 ^ f → strip d f n % d ≠ 0
  | 0, n, h1, h2 => by rw [Int.pow_zero] at h2; omega
  | f + 1, n, h1, h2 => by
    simp only [strip]
    split
    · rename_i hz
      have e1 := Int.mul_ediv_add_emod n d
      have e3 : 0 ≤ n / d := Int.ediv_nonneg (by omega) (by omega)
      have hq : 1 ≤ n / d := by
        rcases (show n / d = 0 ∨ 1 ≤ n / d from by omega) with h0 | h0
        · rw [h0, hz] at e1; omega
        · exact h0
      exact strip_not hd f hq (two_pow_half h2 hd h1)
    · assumption

theorem strip_pr {q d : Int} (hq : Pr q) : ∀ (f : Nat) {n : Int}, q ∣ n → q ∣ strip d f n ∨ q ∣ d
  | 0, n, h => .inl h
  | f + 1, n, h => by
    simp only [strip]
    split
    · rename_i hz
      have e : d * (n / d) = n := by
        have := Int.mul_ediv_add_emod n d
        rwa [hz, Int.add_zero] at this
      rw [← e] at h
      rcases pr_mul hq h with h | h
      · exact .inr h
      · exact strip_pr hq f h
    · exact .inl h

/-- No small divisors are left. -/
theorem rs_not {n : Int} (h1 : 1 ≤ n) (h2 : n ≤ 2000) : ∀ (k : Nat) (d : Int), 2 ≤ d → d < (k : Int) + 2 → (rs n k).1 % d ≠ 0
  | 0, d, hd, hk => by omega
  | k + 1, d, hd, hk => by
    have hin := rs_in h1 k
    have e : (rs n (k + 1)).1 = strip (k + 2 : Int) 11 (rs n k).1 := rfl
    rw [e]
    by_cases he : d = (k : Int) + 2
    · rw [he]
      exact strip_not (by omega) 11 hin.1 (by have : (2 : Int) ^ 11 = 2048 := rfl; omega)
    · have ih := rs_not h1 h2 k d hd (by omega)
      intro hz
      refine ih (Int.emod_eq_zero_of_dvd (Int.dvd_trans (Int.dvd_of_emod_eq_zero hz) (strip_dvd _ _ _)))

/-- A prime divisor is found, or is left. -/
theorem rs_has {n q : Int} (h1 : 1 ≤ n) (h2 : n ≤ 2000) (hq : Pr q) (hd : q ∣ n) : ∀ k : Nat, q ∈ (rs n k).2 ∨ q ∣ (rs n k).1
  | 0 => .inr hd
  | k + 1 => by
    have e2 : (rs n (k + 1)).2 = if (rs n k).1 % (k + 2 : Int) = 0 then (rs n k).2 ++ [(k + 2 : Int)] else (rs n k).2 := rfl
    have e1 : (rs n (k + 1)).1 = strip (k + 2 : Int) 11 (rs n k).1 := rfl
    rw [e1, e2]
    rcases rs_has h1 h2 hq hd k with h | h
    · left
      split
      · exact List.mem_append_left _ h
      · exact h
    · by_cases hz : (rs n k).1 % (k + 2 : Int) = 0
      · rw [if_pos hz]
        rcases strip_pr (d := (k + 2 : Int)) hq 11 h with h' | h'
        · exact .inr h'
        · left
          have hle := Int.le_of_dvd (by omega) h'
          by_cases he : q = (k : Int) + 2
          · rw [he]; exact List.mem_append_right _ (List.mem_singleton.2 rfl)
          · exact absurd (Int.emod_eq_zero_of_dvd h) (rs_not h1 h2 k q hq.1 (by omega))
      · rw [if_neg hz]
        right
        have : strip (k + 2 : Int) 11 (rs n k).1 = (rs n k).1 := by simp only [strip, if_neg hz]
        rw [this]; exact h

theorem prK_stop {n : Int} (h1 : 1 ≤ n) (h2 : n ≤ 2000) : (rs n (prK n)).1 < (prK n + 2 : Int) * (prK n + 2 : Int) ∧ prK n ≤ 43 := by
  obtain ⟨q1, q2, q3, q4⟩ := firstAt_spec (p := fun k => decide ((rs n k).1 < (k + 2 : Int) * (k + 2 : Int))) (k := 50) (i := 0) (j := 43) (Nat.zero_le _) (by omega) (decide_eq_true (by have := sq_big (k := 43) (Nat.le_refl _); have := rs_in h1 43; omega))
  exact ⟨of_decide_eq_true q1, q3⟩

/-- What is left has no divisor below itself. -/
theorem left_pr {n : Int} (h1 : 1 ≤ n) (h2 : n ≤ 2000) (d : Int) (hd : 2 ≤ d) (hlt : d < (rs n (prK n)).1) : (rs n (prK n)).1 % d ≠ 0 := by
  have hs := (prK_stop h1 h2).1
  have hno := rs_not h1 h2 (prK n)
  have hin := rs_in h1 (prK n)
  have hK0 : (0 : Int) ≤ ((prK n : Nat) : Int) := Int.natCast_nonneg _
  generalize (rs n (prK n)).1 = r at *
  generalize ((prK n : Nat) : Int) = K at *
  intro hz
  by_cases hk : d < K + 2
  · exact hno d hd hk hz
  · have e : d * (r / d) = r := by
      have := Int.mul_ediv_add_emod r d
      rwa [hz, Int.add_zero] at this
    have hq2 : 2 ≤ r / d := by
      by_cases h : 2 ≤ r / d
      · exact h
      · exfalso
        have : d * (r / d) ≤ d * 1 := Int.mul_le_mul_of_nonneg_left (by omega) (by omega)
        omega
    have hqk : r / d < K + 2 := by
      by_cases h : r / d < K + 2
      · exact h
      · exfalso
        have : (K + 2) * (K + 2) ≤ d * (r / d) := Int.mul_le_mul (by omega) (by omega) (by omega) (by omega)
        omega
    exact hno (r / d) hq2 hqk (Int.emod_eq_zero_of_dvd ⟨d, by rw [Int.mul_comm]; exact e.symm⟩)

/-- Each prime divisor is among them. -/
theorem prO_has {n q : Int} (h1 : 1 ≤ n) (h2 : n ≤ 2000) (hq : Pr q) (hd : q ∣ n) : q ∈ prO n := by
  have hl := left_pr h1 h2
  have hin := rs_in h1 (prK n)
  have hq2 := hq.1
  unfold prO
  rcases rs_has h1 h2 hq hd (prK n) with h | h
  · split
    · exact List.mem_append_left _ h
    · exact h
  · have hle := Int.le_of_dvd (by omega) h
    rw [if_pos (by omega)]
    by_cases he : q = (rs n (prK n)).1
    · rw [← he]; exact List.mem_append_right _ (List.mem_singleton.2 rfl)
    · exact absurd (Int.emod_eq_zero_of_dvd h) (hl q hq2 (by omega))

/-- A number has a prime divisor. -/
theorem has_pr : ∀ (k : Nat) {m : Int}, m ≤ k → 2 ≤ m → ∃ q, Pr q ∧ q ∣ m
  | 0, m, h, h' => by omega
  | k + 1, m, h, h' => by
    by_cases hp : Pr m
    · exact ⟨m, hp, Int.dvd_refl m⟩
    · have : ∃ d : Int, 2 ≤ d ∧ d < m ∧ m % d = 0 := by
        apply Classical.byContradiction
        intro hn
        exact hp ⟨h', fun d h1 h2 hz => hn ⟨d, h1, h2, hz⟩⟩
      obtain ⟨d, h1, h2, hz⟩ := this
      obtain ⟨q, hq, hqd⟩ := has_pr k (show d ≤ k by omega) h1
      exact ⟨q, hq, Int.dvd_trans hqd (Int.dvd_of_emod_eq_zero hz)⟩

/-- The reference's list: where all is found. -/
theorem rs_last {n : Int} (h1 : 1 ≤ n) (h2 : n ≤ 2000) {k : Nat} (hk : ∀ m : Nat, m < k → 1 < (rs n m).1) (hs : (rs n k).1 ≤ 1) : (rs n k).2 = prO n ∧ k ≤ 2000 := by
  have hst := prK_stop h1 h2
  have hl := left_pr h1 h2
  have hin := rs_in h1
  -- behind a number of steps with nothing to divide nothing changes
  have stay : ∀ (a j : Nat), (∀ m : Nat, a ≤ m → m < a + j → (rs n a).1 % (m + 2 : Int) ≠ 0) → rs n (a + j) = rs n a := by
    intro a j
    induction j with
    | zero => intro _; rfl
    | succ j ih =>
      intro h
      have e := ih fun m hm1 hm2 => h m hm1 (by omega)
      have hz := h (a + j) (by omega) (by omega)
      have e2 : rs n (a + (j + 1)) = (strip ((a + j : Nat) + 2 : Int) 11 (rs n (a + j)).1, if (rs n (a + j)).1 % ((a + j : Nat) + 2 : Int) = 0 then (rs n (a + j)).2 ++ [((a + j : Nat) + 2 : Int)] else (rs n (a + j)).2) := rfl
      rw [e2, e, if_neg hz]
      simp only [strip, if_neg hz]
  by_cases hr : 1 < (rs n (prK n)).1
  · -- something is left
    have hkK : prK n < k := by
      have mono : ∀ j, (rs n (k + j)).1 ≤ 1 := by
        intro j
        induction j with
        | zero => exact hs
        | succ j ih =>
          have := strip_in (d := ((k + j : Nat) + 2 : Int)) (by omega) 11 (hin (k + j)).1
          have e : (rs n (k + (j + 1))).1 = strip ((k + j : Nat) + 2 : Int) 11 (rs n (k + j)).1 := rfl
          rw [e]; omega
      by_cases h : prK n < k
      · exact h
      · have := mono (prK n - k)
        rw [show k + (prK n - k) = prK n by omega] at this
        omega
    have hb := hin (prK n)
    have hnot := rs_not h1 h2 (prK n)
    have hrk : (prK n : Int) + 2 ≤ (rs n (prK n)).1 := by
      by_cases h : (prK n : Int) + 2 ≤ (rs n (prK n)).1
      · exact h
      · exact absurd Int.emod_self (hnot (rs n (prK n)).1 (by omega) (by omega))
    obtain ⟨j, hj⟩ : ∃ j : Nat, (rs n (prK n)).1 = (prK n : Int) + j + 2 := ⟨((rs n (prK n)).1 - prK n - 2).toNat, by omega⟩
    have e := stay (prK n) j fun m hm1 hm2 => hl (m + 2 : Int) (by omega) (by omega)
    have e2 : rs n (prK n + j + 1) = (strip ((prK n + j : Nat) + 2 : Int) 11 (rs n (prK n + j)).1, if (rs n (prK n + j)).1 % ((prK n + j : Nat) + 2 : Int) = 0 then (rs n (prK n + j)).2 ++ [((prK n + j : Nat) + 2 : Int)] else (rs n (prK n + j)).2) := rfl
    have ec : ((prK n + j : Nat) + 2 : Int) = (rs n (prK n)).1 := by omega
    rw [e, ec, if_pos Int.emod_self] at e2
    have es : strip (rs n (prK n)).1 11 (rs n (prK n)).1 = 1 := by
      rw [show (11 : Nat) = 10 + 1 from rfl, strip, if_pos Int.emod_self, Int.ediv_self (by omega), strip, if_neg (by rw [Int.emod_eq_of_lt (by omega) (by omega)]; decide)]
    rw [es] at e2
    have hk2 : k = prK n + j + 1 := by
      have h3 : ¬ prK n + j + 1 < k := fun h => by have := hk _ h; rw [e2] at this; exact absurd this (Int.lt_irrefl 1)
      by_cases h4 : k = prK n + j + 1
      · exact h4
      · exfalso
        have hlt : k ≤ prK n + j := by omega
        have := stay (prK n) (k - prK n) fun m hm1 hm2 => hl (m + 2 : Int) (by omega) (by omega)
        rw [show prK n + (k - prK n) = k by omega] at this
        rw [this] at hs
        omega
    refine ⟨?_, by omega⟩
    rw [hk2, e2]
    unfold prO
    rw [if_pos hr]
  · -- nothing is left
    have hkK : k ≤ prK n := by
      by_cases h : k ≤ prK n
      · exact h
      · exact absurd (hk (prK n) (by omega)) hr
    have e1 : (rs n k).1 = 1 := by have := hin k; omega
    have e := stay k (prK n - k) fun m hm1 hm2 => by rw [e1, Int.emod_eq_of_lt (by omega) (by omega)]; decide
    rw [show k + (prK n - k) = prK n by omega] at e
    refine ⟨?_, by omega⟩
    unfold prO
    rw [if_neg hr, e]

/-- A root, as the program looks for it. -/
theorem root_of {p w n : Int} (hp : Pr p) (h1 : 1 ≤ n) (h2 : n ≤ 2000) (hw : Cg p (w ^ n.toNat) 1) (hq : ∀ q ∈ prO n, ¬ Cg p (w ^ (n / q).toNat) 1) : Root p w n.toNat := by
  refine ⟨hw, fun k hk0 hkn hk => ?_⟩
  -- the least one
  have hex : ∃ d : Nat, 0 < d ∧ Cg p (w ^ d) 1 ∧ ∀ m : Nat, 0 < m → m < d → ¬ Cg p (w ^ m) 1 := by
    have key : ∀ b k : Nat, k ≤ b → 0 < k → Cg p (w ^ k) 1 → ∃ d : Nat, 0 < d ∧ d ≤ k ∧ Cg p (w ^ d) 1 ∧ ∀ m : Nat, 0 < m → m < d → ¬ Cg p (w ^ m) 1 := by
      intro b
      induction b with
      | zero => intro k h1 h2; omega
      | succ b ih =>
        intro k h1 h2 h3
        by_cases hmin : ∀ m : Nat, 0 < m → m < k → ¬ Cg p (w ^ m) 1
        · exact ⟨k, h2, Nat.le_refl _, h3, hmin⟩
        · have : ∃ m : Nat, 0 < m ∧ m < k ∧ Cg p (w ^ m) 1 := by
            apply Classical.byContradiction
            intro hn
            exact hmin fun m a b c => hn ⟨m, a, b, c⟩
          obtain ⟨m, a, b', c⟩ := this
          obtain ⟨d, d1, d2, d3⟩ := ih m (by omega) a c
          exact ⟨d, d1, by omega, d3⟩
    obtain ⟨d, d1, _, d3⟩ := key k k (Nat.le_refl _) hk0 hk
    exact ⟨d, d1, d3⟩
  obtain ⟨d, d0, d1, dmin⟩ := hex
  have hdk : d ≤ k := by
    by_cases h : d ≤ k
    · exact h
    · exact absurd hk (dmin k hk0 (by omega))
  have hdn : n.toNat % d = 0 := by
    have h := (pow_modN d1 n.toNat).trans hw
    by_cases h0 : n.toNat % d = 0
    · exact h0
    · exact absurd h (dmin _ (by omega) (Nat.mod_lt _ d0))
  obtain ⟨m, hm⟩ := Nat.dvd_of_mod_eq_zero hdn
  have hm2 : 2 ≤ m := by
    rcases (show m = 0 ∨ m = 1 ∨ 2 ≤ m by omega) with h | h | h
    · rw [h] at hm; omega
    · rw [h] at hm; omega
    · exact h
  obtain ⟨q, hqp, hqm⟩ := has_pr m (m := (m : Int)) (by omega) (by omega)
  obtain ⟨c, hc⟩ := hqm
  have hq2 := hqp.1
  have hn : n = q * ((d : Int) * c) := by
    have : n = ((n.toNat : Nat) : Int) := by omega
    rw [this, hm, Int.natCast_mul, hc]
    grind
  have hc0 : 0 ≤ c := by
    by_cases h : 0 ≤ c
    · exact h
    · exfalso
      have : q * c ≤ q * 0 := Int.mul_le_mul_of_nonneg_left (by omega) (by omega)
      omega
  refine hq q (prO_has h1 h2 hqp ⟨_, hn⟩) ?_
  have e : n / q = (d : Int) * c := by
    rw [hn, Int.mul_ediv_cancel_left _ (by omega)]
  rw [e]
  have e3 : ((d : Int) * c).toNat = d * c.toNat := by
    obtain ⟨c', rfl⟩ := Int.eq_ofNat_of_zero_le hc0
    rw [← Int.natCast_mul, Int.toNat_natCast, Int.toNat_natCast]
  rw [e3]
  exact pow_one_mul d1 _

end Go.Eng.Pu

namespace Go.Eng.Pu
open Go.Eng Go.Proofs
set_option linter.all false
set_option maxRecDepth 100000
set_option maxHeartbeats 8000000

noncomputable def isP (n : Int) : Bool := @decide (Pr n) (Classical.propDecidable _)

theorem isP_yes {n : Int} (h : Pr n) : isP n = true := @decide_eq_true _ (Classical.propDecidable _) h
theorem isP_no {n : Int} (h : ¬ Pr n) : isP n = false := @decide_eq_false _ (Classical.propDecidable _) h
theorem isP_pr {n : Int} (h : isP n = true) : Pr n := @of_decide_eq_true _ (Classical.propDecidable _) h

theorem sq_le {a b : Int} (h0 : 0 ≤ a) (h : a ≤ b) : a * a ≤ b * b := Int.mul_le_mul h h h0 (by omega)

theorem sq_46 {a : Int} (h : a * a ≤ 2147483647) : a ≤ 46340 := by
  by_cases h1 : a ≤ 46340
  · exact h1
  · have := sq_le (a := 46341) (b := a) (by omega) (by omega)
    omega

/-- No divisor among 2 to k + 1. -/
def nod (n : Int) (k : Nat) : Prop := ∀ d : Int, 2 ≤ d → d < (k : Int) + 2 → n % d ≠ 0

theorem nod_next {n : Int} {k : Nat} (h : nod n k) (hz : ¬ n % ((k : Int) + 2) = 0) : nod n (k + 1) := fun d h1 h2 => by
  by_cases he : d = (k : Int) + 2
  · rw [he]; exact hz
  · exact h d h1 (by omega)

theorem nod_done {n : Int} {k : Nat} (h2 : 2 ≤ n) (h : nod n k) (hs : n < ((k : Int) + 2) * ((k : Int) + 2)) : Pr n := tr_pr h2 fun d h1 hd => by
  by_cases hk : d < (k : Int) + 2
  · exact h d h1 hk
  · have := sq_le (a := (k : Int) + 2) (b := d) (by omega) (by omega)
    omega

theorem nod_not {n : Int} {k : Nat} (hd : ((k : Int) + 2) * ((k : Int) + 2) ≤ n) (hz : n % ((k : Int) + 2) = 0) : ¬ Pr n := fun h => pr_tr h _ (by omega) hd hz

@[reducible] noncomputable def sIsP : Spec := { pats := [.dat I64], res := [{ t := .bool }], pre := fun x => 2 ≤ x.1 ∧ x.1 ≤ (2147483647 : Int), f := fun x => (isP x.1, ()) }

/-- pulse.isPrime -/
theorem h110 : Ok 84 sIsP := by
  refine mk (ctr := []) trivial (nt := 17) Tryd.func84 rfl rfl rfl rfl (by kernel_rfl) (by kernel_rfl) (fun x => [fun _ => { σ := Nat, pat := fun k => [sI 3 (k + 2 : Int)], inv := fun k => k ≤ 46340 ∧ nod x.1 k, meas := fun k => 46350 - k }]) ?_
  rintro ⟨(n : Int), _⟩ ⟨(h1 : 2 ≤ n), (h2 : n ≤ 2147483647)⟩
  repeat' (intro hzz; (try (rename Two => hq; cases hq)); (try dsimp only at hzz); (try simp only [resTy, argTy, eqD, inR, big, wantOf, Bool.not_true, Bool.not_false, Bool.true_eq, decide_eq_true_eq, decide_eq_false_iff_not, Bool.not_eq_true', Bool.not_eq_false', Bool.and_eq_true, Prod.mk.injEq, and_true, true_and, Int.not_lt, Int.not_le, gt_iff_lt, ge_iff_le] at hzz); (try (first | contradiction | (exfalso; omega))); (try (revert hzz; intro _)))
  all_goals try (rename Unit => hq; clear hq)
  all_goals try ((with_reducible refine Held.mk ?_); (with_reducible (first | refine Frz.mk ?_ | refine And.intro (Frz.mk ?_) ?_ | refine And.intro ?_ (Frz.mk ?_))); repeat' first | exact True.intro | (change _ = _; with_reducible rfl) | refine And.intro ?_ ?_ | (with_reducible refine Frz.mk ?_))
  all_goals try (refine Held.mk ?_; (try dsimp only at *); (try simp only [resTy, argTy, eqD, inR, big, wantOf, Bool.not_true, Bool.not_false, Bool.true_eq, decide_eq_true_eq, decide_eq_false_iff_not, Bool.not_eq_true', Bool.not_eq_false', Bool.and_eq_true, Prod.mk.injEq, and_true, true_and, Int.not_lt, Int.not_le, gt_iff_lt, ge_iff_le] at *))
  all_goals try omega
  · 
    refine GHeld.mk ?_
    refine Exists.intro 0 ?_
    refine And.intro (Leaf.mk ?_) ?_
    · repeat' first | exact True.intro | refine And.intro ?_ ?_
      all_goals try ((change _ = _ <;> try dsimp only) <;> try with_reducible rfl)
      all_goals try omega
      all_goals (rfl)
    exact ⟨Nat.zero_le _, fun d hd hlt => by omega⟩
  · rename_i k hk
    have := sq_le (a := (k : Int) + 2) (b := 46342) (by omega) (by have := hk.1; omega)
    have := Int.mul_nonneg (a := (k : Int) + 2) (b := (k : Int) + 2) (by omega) (by omega)
    omega
  · rename_i k hk hg hz
    rw [Int.tmod_eq_emod_of_nonneg (by omega)] at hz
    exact (isP_no (nod_not hg hz)).symm
  · rename_i k hk hg hz
    rw [Int.tmod_eq_emod_of_nonneg (by omega)] at hz
    have := sq_46 (a := (k : Int) + 2) (by omega)
    refine GHeld.mk ?_
    refine Exists.intro (k + 1) ?_
    refine And.intro (Leaf.mk ?_) ?_
    · repeat' first | exact True.intro | refine And.intro ?_ ?_
      all_goals try ((change _ = _ <;> try dsimp only) <;> try with_reducible rfl)
      all_goals try omega
      all_goals ((show (k : Int) + 2 + 1 = ((k + 1 : Nat) : Int) + 2; omega))
    exact ⟨⟨by omega, nod_next hk.2 hz⟩, by show 46350 - (k + 1) < 46350 - k; omega⟩
  · rename_i k hk hg
    rw [isP_yes (nod_done (by omega) hk.2 hg)]
    exact decide_eq_true (by omega)

@[reducible] def sRPrimesG : Spec := { pats := [.dat I64], res := [{ t := .sl I64 }], pre := fun x => 1 ≤ x.1 ∧ x.1 ≤ (1024 : Int), f := fun x => (prO x.1, ()) }

/-- A power, modulo p. -/
def pw (b e p : Int) : Int := b ^ e.toNat % p

/-- What the loop of a power keeps: the product, the base, the exponent. -/
def pwI (b e p : Int) (s : Int × Int × Int) : Prop := 0 ≤ s.1 ∧ s.1 < p ∧ 0 ≤ s.2.1 ∧ s.2.1 < p ∧ 0 ≤ s.2.2 ∧ s.2.2 ≤ e ∧ Cg p (s.1 * s.2.1 ^ s.2.2.toNat) (b ^ e.toNat)

theorem pwI_mul {p a b : Int} (hp : p ≤ 2147483647) (h1 : 0 ≤ a) (h2 : a < p) (h3 : 0 ≤ b) (h4 : b < p) : 0 ≤ a * b ∧ a * b ≤ 4611686014132420609 := by
  refine ⟨Int.mul_nonneg h1 h3, ?_⟩
  have := Int.mul_le_mul (show a ≤ 2147483647 by omega) (show b ≤ 2147483647 by omega) h3 (by omega)
  omega

theorem pwI_odd {b e p : Int} {s : Int × Int × Int} (hp : 2 ≤ p) (h : pwI b e p s) (h0 : 0 < s.2.2) (h1 : s.2.2.tmod 2 = 1) : pwI b e p ((s.1 * s.2.1).tmod p, (s.2.1 * s.2.1).tmod p, s.2.2.tdiv 2) ∧ (s.2.2.tdiv 2).toNat < s.2.2.toNat := by
  obtain ⟨a, c, m⟩ := s
  obtain ⟨g1, g2, g3, g4, g5, g6, g7⟩ := h
  simp only at *
  rw [Int.tmod_eq_emod_of_nonneg (by omega)] at h1
  rw [Int.tmod_eq_emod_of_nonneg (Int.mul_nonneg g1 g3), Int.tmod_eq_emod_of_nonneg (Int.mul_nonneg g3 g3), Int.tdiv_eq_ediv_of_nonneg (by omega)]
  refine ⟨⟨Int.emod_nonneg _ (by omega), Int.emod_lt_of_pos _ (by omega), Int.emod_nonneg _ (by omega), Int.emod_lt_of_pos _ (by omega), by show 0 ≤ m / 2; omega, by show m / 2 ≤ e; omega, ?_⟩, by omega⟩
  refine Cg.trans ?_ g7
  show Cg p (a * c % p * (c * c % p) ^ (m / 2).toNat) (a * c ^ m.toNat)
  have e : m.toNat = 2 * (m / 2).toNat + 1 := by omega
  have e2 : a * c ^ m.toNat = a * c * (c * c) ^ (m / 2).toNat := by
    rw [e, Int.pow_succ, Int.pow_mul, show c ^ 2 = c * c by rw [Int.pow_succ, Int.pow_succ, Int.pow_zero, Int.one_mul]]
    generalize (c * c) ^ (m / 2).toNat = Z
    grind
  rw [e2]
  exact (Cg.mod p _).mul ((Cg.mod p _).pow _)

theorem pwI_even {b e p : Int} {s : Int × Int × Int} (hp : 2 ≤ p) (h : pwI b e p s) (h0 : 0 < s.2.2) (h1 : ¬ s.2.2.tmod 2 = 1) : pwI b e p (s.1, (s.2.1 * s.2.1).tmod p, s.2.2.tdiv 2) ∧ (s.2.2.tdiv 2).toNat < s.2.2.toNat := by
  obtain ⟨a, c, m⟩ := s
  obtain ⟨g1, g2, g3, g4, g5, g6, g7⟩ := h
  simp only at *
  rw [Int.tmod_eq_emod_of_nonneg (by omega)] at h1
  rw [Int.tmod_eq_emod_of_nonneg (Int.mul_nonneg g3 g3), Int.tdiv_eq_ediv_of_nonneg (by omega)]
  refine ⟨⟨g1, g2, Int.emod_nonneg _ (by omega), Int.emod_lt_of_pos _ (by omega), by show 0 ≤ m / 2; omega, by show m / 2 ≤ e; omega, ?_⟩, by omega⟩
  refine Cg.trans ?_ g7
  show Cg p (a * (c * c % p) ^ (m / 2).toNat) (a * c ^ m.toNat)
  have e : m.toNat = 2 * (m / 2).toNat := by omega
  rw [e, Int.pow_mul, show c ^ 2 = c * c by rw [Int.pow_succ, Int.pow_succ, Int.pow_zero, Int.one_mul]]
  exact (Cg.refl p _).mul ((Cg.mod p _).pow _)

theorem pwI_end {b e p : Int} {s : Int × Int × Int} (h : pwI b e p s) (h0 : s.2.2 ≤ 0) : s.1 = pw b e p := by
  obtain ⟨g1, g2, g3, g4, g5, g6, g7⟩ := h
  rw [show s.2.2.toNat = 0 by omega, Int.pow_zero, Int.mul_one] at g7
  unfold pw
  rw [← g7, Int.emod_eq_of_lt g1 g2]

theorem pwI_start {b c e p : Int} (hp : 2 ≤ p) (h0 : 0 ≤ e) (hc : 0 ≤ c) (hc' : c < p) (h : Cg p c b) : pwI b e p (1, c, e) :=
  ⟨by omega, by show (1 : Int) < p; omega, hc, hc', h0, Int.le_refl _, by show Cg p (1 * c ^ e.toNat) _; rw [Int.one_mul]; exact h.pow _⟩

theorem one_tmod {p : Int} (hp : 2 ≤ p) : (1 : Int).tmod p = 1 := by
  rw [Int.tmod_eq_emod_of_nonneg (by omega), Int.emod_eq_of_lt (by omega) (by omega)]

@[reducible] def sPow : Spec := { pats := [.dat Fld, .dat I64, .dat I64], res := [{ t := I64 }], pre := fun x => 2 ≤ x.1.1.1 ∧ x.1.1.1 ≤ (2147483647 : Int) ∧ (0 : Int) ≤ x.2.2.1 ∧ x.2.2.1 ≤ (4000000000000000000 : Int), f := fun x => (pw x.2.1 x.2.2.1 x.1.1.1, ()) }

/-- field.power -/
theorem h111 : Ok 88 sPow := by
  refine mk (ctr := [(68, sMod)]) ⟨h109, trivial⟩ (nt := 39) Tryd.func88 rfl rfl rfl rfl (by kernel_rfl) (by kernel_rfl) (fun x => [fun _ => { σ := Int × Int × Int, pat := fun s => [sI 7 s.1, sI 1 s.2.1, sI 2 s.2.2], inv := fun s => pwI x.2.1 x.2.2.1 x.1.1.1 s, meas := fun s => s.2.2.toNat }]) ?_
  rintro ⟨⟨⟨(p : Int), (w : Int), (n : Int), _⟩, _⟩, (b : Int), (e : Int), _⟩ ⟨(h1 : 2 ≤ p), (h2 : p ≤ 2147483647), (h3 : 0 ≤ e), (h3b : e ≤ 4000000000000000000)⟩
  repeat' (intro hzz; (try (rename Two => hq; cases hq)); (try dsimp only at hzz); (try simp only [resTy, argTy, eqD, inR, big, wantOf, Bool.not_true, Bool.not_false, Bool.true_eq, decide_eq_true_eq, decide_eq_false_iff_not, Bool.not_eq_true', Bool.not_eq_false', Bool.and_eq_true, Prod.mk.injEq, and_true, true_and, Int.not_lt, Int.not_le, gt_iff_lt, ge_iff_le] at hzz); (try simp only [resTy, argTy, eqD, inR, big, wantOf, Bool.not_true, Bool.not_false, Bool.true_eq, decide_eq_true_eq, decide_eq_false_iff_not, Bool.not_eq_true', Bool.not_eq_false', Bool.and_eq_true, Prod.mk.injEq, and_true, true_and, Int.not_lt, Int.not_le, gt_iff_lt, ge_iff_le, fMod] at hzz); (try (first | contradiction | (exfalso; omega))); (try (revert hzz; intro _)))
  all_goals try (rename Unit => hq; clear hq)
  all_goals try ((with_reducible refine Held.mk ?_); (with_reducible (first | refine Frz.mk ?_ | refine And.intro (Frz.mk ?_) ?_ | refine And.intro ?_ (Frz.mk ?_))); repeat' first | exact True.intro | (change _ = _; with_reducible rfl) | refine And.intro ?_ ?_ | (with_reducible refine Frz.mk ?_))
  all_goals try (refine Held.mk ?_; (try dsimp only at *); (try simp only [resTy, argTy, eqD, inR, big, wantOf, Bool.not_true, Bool.not_false, Bool.true_eq, decide_eq_true_eq, decide_eq_false_iff_not, Bool.not_eq_true', Bool.not_eq_false', Bool.and_eq_true, Prod.mk.injEq, and_true, true_and, Int.not_lt, Int.not_le, gt_iff_lt, ge_iff_le] at *); (try simp only [resTy, argTy, eqD, inR, big, wantOf, Bool.not_true, Bool.not_false, Bool.true_eq, decide_eq_true_eq, decide_eq_false_iff_not, Bool.not_eq_true', Bool.not_eq_false', Bool.and_eq_true, Prod.mk.injEq, and_true, true_and, Int.not_lt, Int.not_le, gt_iff_lt, ge_iff_le, fMod] at *))
  all_goals try omega
  · exact ⟨(show (0 : Int) < p by omega), (show p ≤ (2000000000000000000 : Int) by omega)⟩
  · 
    refine GHeld.mk ?_
    refine Exists.intro (1, b % p, e) ?_
    refine And.intro (Leaf.mk ?_) ?_
    · repeat' first | exact True.intro | refine And.intro ?_ ?_
      all_goals try ((change _ = _ <;> try dsimp only) <;> try with_reducible rfl)
      all_goals try omega
      all_goals ((first | exact one_tmod h1 | rfl))
    exact pwI_start h1 h3 (Int.emod_nonneg _ (by omega)) (Int.emod_lt_of_pos _ (by omega)) (Cg.mod p b)
  · rename_i s hs hg ho
    have := pwI_mul (p := p) (by omega) hs.1 hs.2.1 hs.2.2.1 hs.2.2.2.1
    omega
  · rename_i s hs hg ho
    have := pwI_mul (p := p) (by omega) hs.2.2.1 hs.2.2.2.1 hs.2.2.1 hs.2.2.2.1
    omega
  · rename_i s hs hg ho
    have := hs.2.2.2.2.2.1
    rw [Int.tdiv_eq_ediv_of_nonneg (by omega)]
    omega
  · rename_i s hs hg ho
    have hn := pwI_odd h1 hs hg ho
    refine GHeld.mk ?_
    refine Exists.intro ((s.1 * s.2.1).tmod p, (s.2.1 * s.2.1).tmod p, s.2.2.tdiv 2) ?_
    refine And.intro (Leaf.mk ?_) ?_
    · repeat' first | exact True.intro | refine And.intro ?_ ?_
      all_goals try ((change _ = _ <;> try dsimp only) <;> try with_reducible rfl)
      all_goals try omega
      all_goals (rfl)
    exact hn
  · rename_i s hs hg ho
    have := pwI_mul (p := p) (by omega) hs.2.2.1 hs.2.2.2.1 hs.2.2.1 hs.2.2.2.1
    omega
  · rename_i s hs hg ho
    have := hs.2.2.2.2.2.1
    rw [Int.tdiv_eq_ediv_of_nonneg (by omega)]
    omega
  · rename_i s hs hg ho
    have hn := pwI_even h1 hs hg ho
    refine GHeld.mk ?_
    refine Exists.intro (s.1, (s.2.1 * s.2.1).tmod p, s.2.2.tdiv 2) ?_
    refine And.intro (Leaf.mk ?_) ?_
    · repeat' first | exact True.intro | refine And.intro ?_ ?_
      all_goals try ((change _ = _ <;> try dsimp only) <;> try with_reducible rfl)
      all_goals try omega
      all_goals (rfl)
    exact hn
  · rename_i s hs hg
    exact pwI_end hs hg

@[reducible] def sRPow : Spec := { pats := [.dat I64, .dat I64, .dat I64], res := [{ t := I64 }], pre := fun x => 2 ≤ x.2.2.1 ∧ x.2.2.1 ≤ (2147483647 : Int) ∧ (0 : Int) ≤ x.2.1 ∧ x.2.1 ≤ (4000000000000000000 : Int) ∧ (0 : Int) ≤ x.1 ∧ x.1 < x.2.2.1, f := fun x => (pw x.1 x.2.1 x.2.2.1, ()) }

/-! ### Roots -/

theorem prO_ge {n : Int} (h1 : 1 ≤ n) : ∀ q ∈ prO n, 2 ≤ q := by
  have key : ∀ k : Nat, ∀ q ∈ (rs n k).2, 2 ≤ q := by
    intro k
    induction k with
    | zero => intro q hq; cases hq
    | succ k ih =>
      intro q hq
      have e2 : (rs n (k + 1)).2 = if (rs n k).1 % (k + 2 : Int) = 0 then (rs n k).2 ++ [(k + 2 : Int)] else (rs n k).2 := rfl
      rw [e2] at hq
      split at hq
      · rcases List.mem_append.1 hq with h | h
        · exact ih q h
        · have := List.mem_singleton.1 h; omega
      · exact ih q hq
  intro q hq
  unfold prO at hq
  split at hq
  · rcases List.mem_append.1 hq with h | h
    · exact key _ q h
    · have := List.mem_singleton.1 h; omega
  · exact key _ q hq

theorem prO_short {n : Int} (h1 : 1 ≤ n) (h2 : n ≤ 2000) : (prO n).length ≤ 50 := by
  have := (prK_stop h1 h2).2
  have := rs_len (n := n) (prK n)
  unfold prO
  split
  · rw [List.length_append]; simp; omega
  · omega

theorem getD_mem {xs : List Int} {d : Int} {k : Nat} (h : k < xs.length) : xs.getD k d ∈ xs := by
  simp only [List.getD, List.getElem?_eq_getElem h, Option.getD_some]
  exact List.getElem_mem h

/-- How far none of the primes' powers is 1. -/
def rtE (p w n : Int) : Nat → Nat → Bool
  | 0, _ => true
  | k + 1, i => if pw w (n / (prO n).getD i 0) p = 1 then false else rtE p w n k (i + 1)

theorem rtE_step {p w n : Int} {m i : Nat} (h : 0 < m) : rtE p w n m i = if pw w (n / (prO n).getD i 0) p = 1 then false else rtE p w n (m - 1) (i + 1) := by
  cases m with
  | zero => omega
  | succ m => rfl

def rootB (p w n : Int) : Bool := decide (pw w n p = 1) && rtE p w n (prO n).length 0

@[reducible] def sRoot : Spec := { pats := [.dat Fld], res := [{ t := .bool }], pre := fun x => 2 ≤ x.1.1.1 ∧ x.1.1.1 ≤ (2147483647 : Int) ∧ (1 : Int) ≤ x.1.1.2.2.1 ∧ x.1.1.2.2.1 ≤ (1024 : Int), f := fun x => (rootB x.1.1.1 x.1.1.2.1 x.1.1.2.2.1, ()) }

/-- field.isRoot -/
theorem h112 : Ok 85 sRoot := by
  refine mk (ctr := [(55, sPrimes), (88, sPow)]) ⟨h129, h111, trivial⟩ (nt := 35) Tryd.func85 rfl rfl rfl rfl (by kernel_rfl) (by kernel_rfl) (fun x => [fun _ => { σ := Nat, pat := fun k => [sI 10 k], inv := fun k => k ≤ (prO x.1.1.2.2.1).length ∧ rtE x.1.1.1 x.1.1.2.1 x.1.1.2.2.1 ((prO x.1.1.2.2.1).length - k) k = rtE x.1.1.1 x.1.1.2.1 x.1.1.2.2.1 (prO x.1.1.2.2.1).length 0, meas := fun k => (prO x.1.1.2.2.1).length - k }]) ?_
  rintro ⟨⟨⟨(p : Int), (w : Int), (n : Int), _⟩, _⟩, _⟩ ⟨(h1 : 2 ≤ p), (h2 : p ≤ 2147483647), (h3 : 1 ≤ n), (h4 : n ≤ 1024)⟩
  have hs := prO_short h3 (by omega)
  have hge := prO_ge h3
  have htd : ∀ q : Int, n.tdiv q = n / q := fun q => Int.tdiv_eq_ediv_of_nonneg (by omega)
  repeat' (intro hzz; (try (rename Two => hq; cases hq)); (try dsimp only at hzz); (try simp only [resTy, argTy, eqD, inR, big, wantOf, Bool.not_true, Bool.not_false, Bool.true_eq, decide_eq_true_eq, decide_eq_false_iff_not, Bool.not_eq_true', Bool.not_eq_false', Bool.and_eq_true, Prod.mk.injEq, and_true, true_and, Int.not_lt, Int.not_le, gt_iff_lt, ge_iff_le] at hzz); (try simp only [resTy, argTy, eqD, inR, big, wantOf, Bool.not_true, Bool.not_false, Bool.true_eq, decide_eq_true_eq, decide_eq_false_iff_not, Bool.not_eq_true', Bool.not_eq_false', Bool.and_eq_true, Prod.mk.injEq, and_true, true_and, Int.not_lt, Int.not_le, gt_iff_lt, ge_iff_le, getD_i, htd] at hzz); (try (first | contradiction | (exfalso; omega))); (try (revert hzz; intro _)))
  all_goals try (rename Unit => hq; clear hq)
  all_goals try ((with_reducible refine Held.mk ?_); (with_reducible (first | refine Frz.mk ?_ | refine And.intro (Frz.mk ?_) ?_ | refine And.intro ?_ (Frz.mk ?_))); repeat' first | exact True.intro | (change _ = _; with_reducible rfl) | refine And.intro ?_ ?_ | (with_reducible refine Frz.mk ?_))
  all_goals try (refine Held.mk ?_; (try dsimp only at *); (try simp only [resTy, argTy, eqD, inR, big, wantOf, Bool.not_true, Bool.not_false, Bool.true_eq, decide_eq_true_eq, decide_eq_false_iff_not, Bool.not_eq_true', Bool.not_eq_false', Bool.and_eq_true, Prod.mk.injEq, and_true, true_and, Int.not_lt, Int.not_le, gt_iff_lt, ge_iff_le] at *); (try simp only [resTy, argTy, eqD, inR, big, wantOf, Bool.not_true, Bool.not_false, Bool.true_eq, decide_eq_true_eq, decide_eq_false_iff_not, Bool.not_eq_true', Bool.not_eq_false', Bool.and_eq_true, Prod.mk.injEq, and_true, true_and, Int.not_lt, Int.not_le, gt_iff_lt, ge_iff_le, getD_i, htd] at *))
  all_goals try omega
  · exact ⟨h3, (show n ≤ (2000 : Int) by omega)⟩
  · 
    refine GHeld.mk ?_
    refine Exists.intro 0 ?_
    refine And.intro (Leaf.mk ?_) ?_
    · repeat' first | exact True.intro | refine And.intro ?_ ?_
      all_goals try ((change _ = _ <;> try dsimp only) <;> try with_reducible rfl)
      all_goals try omega
    exact ⟨Nat.zero_le _, rfl⟩
  · rename_i k hk hg
    have hq := hge _ (getD_mem (d := 0) (show k < (prO n).length by omega))
    have := Int.ediv_le_self ((prO n).getD k 0) (show 0 ≤ n by omega)
    have : 0 ≤ n / (prO n).getD k 0 := Int.ediv_nonneg (by omega) (by omega)
    exact ⟨by omega, by omega, by omega⟩
  · rename_i k hk hg
    have hq := hge _ (getD_mem (d := 0) (show k < (prO n).length by omega))
    have := Int.ediv_le_self ((prO n).getD k 0) (show 0 ≤ n by omega)
    have : 0 ≤ n / (prO n).getD k 0 := Int.ediv_nonneg (by omega) (by omega)
    exact ⟨h1, h2, by omega, (show n / (prO n).getD k 0 ≤ (4000000000000000000 : Int) by omega)⟩
  · rename_i k hk hg h
    have e := hk.2
    rw [rtE_step (by omega), if_pos h] at e
    unfold rootB; rw [← e, Bool.and_false]
  · rename_i k hk hg h
    have e := hk.2
    rw [rtE_step (by omega), if_neg h] at e
    refine GHeld.mk ?_
    refine Exists.intro (k + 1) ?_
    refine And.intro (Leaf.mk ?_) ?_
    · repeat' first | exact True.intro | refine And.intro ?_ ?_
      all_goals try ((change _ = _ <;> try dsimp only) <;> try with_reducible rfl)
      all_goals try omega
    exact ⟨⟨by show k + 1 ≤ (prO n).length; omega, e⟩, by show (prO n).length - (k + 1) < (prO n).length - k; omega⟩
  · exact ⟨h1, h2, by omega, (show n ≤ (4000000000000000000 : Int) by omega)⟩
  · rename_i k hk hg
    have e := hk.2
    rw [show (prO n).length - k = 0 by omega] at e
    unfold rootB; rw [← e]; exact (Bool.and_true _).symm

@[reducible] def sRRoot : Spec := { pats := [.dat I64, .dat I64, .dat I64], res := [{ t := .bool }], pre := fun x => 2 ≤ x.2.2.1 ∧ x.2.2.1 ≤ (2147483647 : Int) ∧ (1 : Int) ≤ x.2.1 ∧ x.2.1 ≤ (1024 : Int) ∧ (0 : Int) ≤ x.1 ∧ x.1 < x.2.2.1, f := fun x => (rootB x.2.2.1 x.1 x.2.1, ()) }

/-! ### Fields -/

/-- The error of a field. -/
noncomputable def cfE (p w n : Int) : Int :=
  if (2 ≤ p ∧ p ≤ 2147483647) ∧ (1 ≤ n ∧ n ≤ 1024) ∧ (1 ≤ w ∧ w ≤ p - 1) then (if isP p = true then (if (p - 1) % n = 0 then (if rootB p w n = true then 0 else 20) else 13) else 15) else 2

@[reducible] noncomputable def sCField : Spec := { pats := [.dat Fld0], res := [{ t := I64 }], pre := fun _ => True, f := fun x => (cfE x.1.1 x.1.2.1 x.1.2.2.1, ()) }

/-- CheckField -/
theorem h45 : Ok 76 sCField := by
  refine mk (ctr := [(29, sWithin), (28, sPeriod), (84, sIsP), (52, sUnless), (85, sRoot)]) ⟨h86, h108, h110, h85, h112, trivial⟩ (nt := 40) Tryd.func76 rfl rfl rfl rfl (by kernel_rfl) (by kernel_rfl) (fun _ => []) ?_
  rintro ⟨⟨(p : Int), (w : Int), (n : Int), _⟩, _⟩ _
  by_cases h1 : 2 ≤ p ∧ p ≤ 2147483647
  · by_cases h2 : 1 ≤ n ∧ n ≤ 1024
    · by_cases h3 : 1 ≤ w ∧ w ≤ p - 1
      · have u : cfE p w n = (if isP p = true then (if (p - 1) % n = 0 then (if rootB p w n = true then 0 else 20) else 13) else 15) := by unfold cfE; rw [if_pos ⟨h1, h2, h3⟩]
        have hm : (p - 1).tmod n = (p - 1) % n := Int.tmod_eq_emod_of_nonneg (by omega)
        by_cases h4 : isP p = true
        · rw [if_pos h4] at u
          by_cases h5 : (p - 1) % n = 0
          · rw [if_pos h5] at u
            repeat' (intro hzz; (try (rename Two => hq; cases hq)); (try dsimp only at hzz); (try simp only [resTy, argTy, eqD, inR, big, wantOf, Bool.not_true, Bool.not_false, Bool.true_eq, decide_eq_true_eq, decide_eq_false_iff_not, Bool.not_eq_true', Bool.not_eq_false', Bool.and_eq_true, Prod.mk.injEq, and_true, true_and, Int.not_lt, Int.not_le, gt_iff_lt, ge_iff_le] at hzz); (try simp only [resTy, argTy, eqD, inR, big, wantOf, Bool.not_true, Bool.not_false, Bool.true_eq, decide_eq_true_eq, decide_eq_false_iff_not, Bool.not_eq_true', Bool.not_eq_false', Bool.and_eq_true, Prod.mk.injEq, and_true, true_and, Int.not_lt, Int.not_le, gt_iff_lt, ge_iff_le, fWithin, fPeriod, h4, hm, h5, u] at hzz); (try (first | contradiction | (exfalso; omega))); (try (revert hzz; intro _)))
            all_goals try (rename Unit => hq; clear hq)
            all_goals try ((with_reducible refine Held.mk ?_); (with_reducible (first | refine Frz.mk ?_ | refine And.intro (Frz.mk ?_) ?_ | refine And.intro ?_ (Frz.mk ?_))); repeat' first | exact True.intro | (change _ = _; with_reducible rfl) | refine And.intro ?_ ?_ | (with_reducible refine Frz.mk ?_))
            all_goals try (refine Held.mk ?_; (try dsimp only at *); (try simp only [resTy, argTy, eqD, inR, big, wantOf, Bool.not_true, Bool.not_false, Bool.true_eq, decide_eq_true_eq, decide_eq_false_iff_not, Bool.not_eq_true', Bool.not_eq_false', Bool.and_eq_true, Prod.mk.injEq, and_true, true_and, Int.not_lt, Int.not_le, gt_iff_lt, ge_iff_le] at *); (try simp only [resTy, argTy, eqD, inR, big, wantOf, Bool.not_true, Bool.not_false, Bool.true_eq, decide_eq_true_eq, decide_eq_false_iff_not, Bool.not_eq_true', Bool.not_eq_false', Bool.and_eq_true, Prod.mk.injEq, and_true, true_and, Int.not_lt, Int.not_le, gt_iff_lt, ge_iff_le, fWithin, fPeriod, h4, hm, h5, u] at *))
            all_goals try omega
            · exact ⟨h1.1, h1.2, h2.1, h2.2⟩
            · cases rootB p w n <;> rfl
          · rw [if_neg h5] at u
            repeat' (intro hzz; (try (rename Two => hq; cases hq)); (try dsimp only at hzz); (try simp only [resTy, argTy, eqD, inR, big, wantOf, Bool.not_true, Bool.not_false, Bool.true_eq, decide_eq_true_eq, decide_eq_false_iff_not, Bool.not_eq_true', Bool.not_eq_false', Bool.and_eq_true, Prod.mk.injEq, and_true, true_and, Int.not_lt, Int.not_le, gt_iff_lt, ge_iff_le] at hzz); (try simp only [resTy, argTy, eqD, inR, big, wantOf, Bool.not_true, Bool.not_false, Bool.true_eq, decide_eq_true_eq, decide_eq_false_iff_not, Bool.not_eq_true', Bool.not_eq_false', Bool.and_eq_true, Prod.mk.injEq, and_true, true_and, Int.not_lt, Int.not_le, gt_iff_lt, ge_iff_le, fWithin, fPeriod, h4, hm, h5, u] at hzz); (try (first | contradiction | (exfalso; omega))); (try (revert hzz; intro _)))
            all_goals try (rename Unit => hq; clear hq)
            all_goals try ((with_reducible refine Held.mk ?_); (with_reducible (first | refine Frz.mk ?_ | refine And.intro (Frz.mk ?_) ?_ | refine And.intro ?_ (Frz.mk ?_))); repeat' first | exact True.intro | (change _ = _; with_reducible rfl) | refine And.intro ?_ ?_ | (with_reducible refine Frz.mk ?_))
            all_goals try (refine Held.mk ?_; (try dsimp only at *); (try simp only [resTy, argTy, eqD, inR, big, wantOf, Bool.not_true, Bool.not_false, Bool.true_eq, decide_eq_true_eq, decide_eq_false_iff_not, Bool.not_eq_true', Bool.not_eq_false', Bool.and_eq_true, Prod.mk.injEq, and_true, true_and, Int.not_lt, Int.not_le, gt_iff_lt, ge_iff_le] at *); (try simp only [resTy, argTy, eqD, inR, big, wantOf, Bool.not_true, Bool.not_false, Bool.true_eq, decide_eq_true_eq, decide_eq_false_iff_not, Bool.not_eq_true', Bool.not_eq_false', Bool.and_eq_true, Prod.mk.injEq, and_true, true_and, Int.not_lt, Int.not_le, gt_iff_lt, ge_iff_le, fWithin, fPeriod, h4, hm, h5, u] at *))
            all_goals try omega
        · rw [if_neg h4] at u
          repeat' (intro hzz; (try (rename Two => hq; cases hq)); (try dsimp only at hzz); (try simp only [resTy, argTy, eqD, inR, big, wantOf, Bool.not_true, Bool.not_false, Bool.true_eq, decide_eq_true_eq, decide_eq_false_iff_not, Bool.not_eq_true', Bool.not_eq_false', Bool.and_eq_true, Prod.mk.injEq, and_true, true_and, Int.not_lt, Int.not_le, gt_iff_lt, ge_iff_le] at hzz); (try simp only [resTy, argTy, eqD, inR, big, wantOf, Bool.not_true, Bool.not_false, Bool.true_eq, decide_eq_true_eq, decide_eq_false_iff_not, Bool.not_eq_true', Bool.not_eq_false', Bool.and_eq_true, Prod.mk.injEq, and_true, true_and, Int.not_lt, Int.not_le, gt_iff_lt, ge_iff_le, fWithin, fPeriod, h4, u] at hzz); (try (first | contradiction | (exfalso; omega))); (try (revert hzz; intro _)))
          all_goals try (rename Unit => hq; clear hq)
          all_goals try ((with_reducible refine Held.mk ?_); (with_reducible (first | refine Frz.mk ?_ | refine And.intro (Frz.mk ?_) ?_ | refine And.intro ?_ (Frz.mk ?_))); repeat' first | exact True.intro | (change _ = _; with_reducible rfl) | refine And.intro ?_ ?_ | (with_reducible refine Frz.mk ?_))
          all_goals try (refine Held.mk ?_; (try dsimp only at *); (try simp only [resTy, argTy, eqD, inR, big, wantOf, Bool.not_true, Bool.not_false, Bool.true_eq, decide_eq_true_eq, decide_eq_false_iff_not, Bool.not_eq_true', Bool.not_eq_false', Bool.and_eq_true, Prod.mk.injEq, and_true, true_and, Int.not_lt, Int.not_le, gt_iff_lt, ge_iff_le] at *); (try simp only [resTy, argTy, eqD, inR, big, wantOf, Bool.not_true, Bool.not_false, Bool.true_eq, decide_eq_true_eq, decide_eq_false_iff_not, Bool.not_eq_true', Bool.not_eq_false', Bool.and_eq_true, Prod.mk.injEq, and_true, true_and, Int.not_lt, Int.not_le, gt_iff_lt, ge_iff_le, fWithin, fPeriod, h4, u] at *))
          all_goals try omega
      · have u : cfE p w n = 2 := by unfold cfE; rw [if_neg (fun h => h3 h.2.2)]
        repeat' (intro hzz; (try (rename Two => hq; cases hq)); (try dsimp only at hzz); (try simp only [resTy, argTy, eqD, inR, big, wantOf, Bool.not_true, Bool.not_false, Bool.true_eq, decide_eq_true_eq, decide_eq_false_iff_not, Bool.not_eq_true', Bool.not_eq_false', Bool.and_eq_true, Prod.mk.injEq, and_true, true_and, Int.not_lt, Int.not_le, gt_iff_lt, ge_iff_le] at hzz); (try simp only [resTy, argTy, eqD, inR, big, wantOf, Bool.not_true, Bool.not_false, Bool.true_eq, decide_eq_true_eq, decide_eq_false_iff_not, Bool.not_eq_true', Bool.not_eq_false', Bool.and_eq_true, Prod.mk.injEq, and_true, true_and, Int.not_lt, Int.not_le, gt_iff_lt, ge_iff_le, fWithin, fPeriod, u] at hzz); (try (first | contradiction | (exfalso; omega))); (try (revert hzz; intro _)))
        all_goals try (rename Unit => hq; clear hq)
        all_goals try ((with_reducible refine Held.mk ?_); (with_reducible (first | refine Frz.mk ?_ | refine And.intro (Frz.mk ?_) ?_ | refine And.intro ?_ (Frz.mk ?_))); repeat' first | exact True.intro | (change _ = _; with_reducible rfl) | refine And.intro ?_ ?_ | (with_reducible refine Frz.mk ?_))
        all_goals try (refine Held.mk ?_; (try dsimp only at *); (try simp only [resTy, argTy, eqD, inR, big, wantOf, Bool.not_true, Bool.not_false, Bool.true_eq, decide_eq_true_eq, decide_eq_false_iff_not, Bool.not_eq_true', Bool.not_eq_false', Bool.and_eq_true, Prod.mk.injEq, and_true, true_and, Int.not_lt, Int.not_le, gt_iff_lt, ge_iff_le] at *); (try simp only [resTy, argTy, eqD, inR, big, wantOf, Bool.not_true, Bool.not_false, Bool.true_eq, decide_eq_true_eq, decide_eq_false_iff_not, Bool.not_eq_true', Bool.not_eq_false', Bool.and_eq_true, Prod.mk.injEq, and_true, true_and, Int.not_lt, Int.not_le, gt_iff_lt, ge_iff_le, fWithin, fPeriod, u] at *))
        all_goals try omega
    · have u : cfE p w n = 2 := by unfold cfE; rw [if_neg (fun h => h2 h.2.1)]
      repeat' (intro hzz; (try (rename Two => hq; cases hq)); (try dsimp only at hzz); (try simp only [resTy, argTy, eqD, inR, big, wantOf, Bool.not_true, Bool.not_false, Bool.true_eq, decide_eq_true_eq, decide_eq_false_iff_not, Bool.not_eq_true', Bool.not_eq_false', Bool.and_eq_true, Prod.mk.injEq, and_true, true_and, Int.not_lt, Int.not_le, gt_iff_lt, ge_iff_le] at hzz); (try simp only [resTy, argTy, eqD, inR, big, wantOf, Bool.not_true, Bool.not_false, Bool.true_eq, decide_eq_true_eq, decide_eq_false_iff_not, Bool.not_eq_true', Bool.not_eq_false', Bool.and_eq_true, Prod.mk.injEq, and_true, true_and, Int.not_lt, Int.not_le, gt_iff_lt, ge_iff_le, fWithin, fPeriod, u] at hzz); (try (first | contradiction | (exfalso; omega))); (try (revert hzz; intro _)))
      all_goals try (rename Unit => hq; clear hq)
      all_goals try ((with_reducible refine Held.mk ?_); (with_reducible (first | refine Frz.mk ?_ | refine And.intro (Frz.mk ?_) ?_ | refine And.intro ?_ (Frz.mk ?_))); repeat' first | exact True.intro | (change _ = _; with_reducible rfl) | refine And.intro ?_ ?_ | (with_reducible refine Frz.mk ?_))
      all_goals try (refine Held.mk ?_; (try dsimp only at *); (try simp only [resTy, argTy, eqD, inR, big, wantOf, Bool.not_true, Bool.not_false, Bool.true_eq, decide_eq_true_eq, decide_eq_false_iff_not, Bool.not_eq_true', Bool.not_eq_false', Bool.and_eq_true, Prod.mk.injEq, and_true, true_and, Int.not_lt, Int.not_le, gt_iff_lt, ge_iff_le] at *); (try simp only [resTy, argTy, eqD, inR, big, wantOf, Bool.not_true, Bool.not_false, Bool.true_eq, decide_eq_true_eq, decide_eq_false_iff_not, Bool.not_eq_true', Bool.not_eq_false', Bool.and_eq_true, Prod.mk.injEq, and_true, true_and, Int.not_lt, Int.not_le, gt_iff_lt, ge_iff_le, fWithin, fPeriod, u] at *))
      all_goals try omega
  · have u : cfE p w n = 2 := by unfold cfE; rw [if_neg (fun h => h1 h.1)]
    repeat' (intro hzz; (try (rename Two => hq; cases hq)); (try dsimp only at hzz); (try simp only [resTy, argTy, eqD, inR, big, wantOf, Bool.not_true, Bool.not_false, Bool.true_eq, decide_eq_true_eq, decide_eq_false_iff_not, Bool.not_eq_true', Bool.not_eq_false', Bool.and_eq_true, Prod.mk.injEq, and_true, true_and, Int.not_lt, Int.not_le, gt_iff_lt, ge_iff_le] at hzz); (try simp only [resTy, argTy, eqD, inR, big, wantOf, Bool.not_true, Bool.not_false, Bool.true_eq, decide_eq_true_eq, decide_eq_false_iff_not, Bool.not_eq_true', Bool.not_eq_false', Bool.and_eq_true, Prod.mk.injEq, and_true, true_and, Int.not_lt, Int.not_le, gt_iff_lt, ge_iff_le, fWithin, fPeriod, u] at hzz); (try (first | contradiction | (exfalso; omega))); (try (revert hzz; intro _)))
    all_goals try (rename Unit => hq; clear hq)
    all_goals try ((with_reducible refine Held.mk ?_); (with_reducible (first | refine Frz.mk ?_ | refine And.intro (Frz.mk ?_) ?_ | refine And.intro ?_ (Frz.mk ?_))); repeat' first | exact True.intro | (change _ = _; with_reducible rfl) | refine And.intro ?_ ?_ | (with_reducible refine Frz.mk ?_))
    all_goals try (refine Held.mk ?_; (try dsimp only at *); (try simp only [resTy, argTy, eqD, inR, big, wantOf, Bool.not_true, Bool.not_false, Bool.true_eq, decide_eq_true_eq, decide_eq_false_iff_not, Bool.not_eq_true', Bool.not_eq_false', Bool.and_eq_true, Prod.mk.injEq, and_true, true_and, Int.not_lt, Int.not_le, gt_iff_lt, ge_iff_le] at *); (try simp only [resTy, argTy, eqD, inR, big, wantOf, Bool.not_true, Bool.not_false, Bool.true_eq, decide_eq_true_eq, decide_eq_false_iff_not, Bool.not_eq_true', Bool.not_eq_false', Bool.and_eq_true, Prod.mk.injEq, and_true, true_and, Int.not_lt, Int.not_le, gt_iff_lt, ge_iff_le, fWithin, fPeriod, u] at *))
    all_goals try omega

end Go.Eng.Pu

namespace Go.Eng.Pu
open Go.Eng Go.Proofs
set_option linter.all false
set_option maxRecDepth 100000
set_option maxHeartbeats 8000000

/-- The sum of t / slow for all t below k. -/
def qC (slow : Int) (k : Nat) : Int := sm (fun t => (t : Int).tdiv slow) k
theorem qC_in {slow : Int} (h : 1 ≤ slow) : ∀ k : Nat, k ≤ 1024 → 0 ≤ qC slow k ∧ qC slow k ≤ k * 1024
  | 0, _ => by simp [qC, sm]
  | k + 1, hk => by
    have a := qC_in h k (by omega)
    have b : 0 ≤ (k : Int).tdiv slow ∧ (k : Int).tdiv slow ≤ k := by
      rw [Int.tdiv_eq_ediv_of_nonneg (by omega)]
      exact ⟨Int.ediv_nonneg (by omega) (by omega), Int.ediv_le_self _ (by omega)⟩
    have e : qC slow (k + 1) = qC slow k + (k : Int).tdiv slow := rfl
    rw [e]
    omega

def chP (slow : Int) (k : Nat) : IP := qrt (qC slow (k + 1))
def chL' (count slow : Int) : List IP := tab (chP slow) count.toNat
def chOk (count slow : Int) : Bool := decide (1 ≤ count ∧ count ≤ 1024) && decide (1 ≤ slow ∧ slow ≤ 1000)
def chE (count slow : Int) : Int := if chOk count slow = true then 0 else 2
def chR (count slow : Int) : CL := if chOk count slow = true then tL (chL' count slow) else []

theorem qrt_fit (n : Int) : inBP 1 (qrt n) := by
  unfold qrt
  have key : ∀ i : Nat, inBP 1 (qL.getD i (0, 0, ())) := fun i => by
    match i with
    | 0 => exact ⟨⟨by decide, by decide⟩, ⟨by decide, by decide⟩⟩
    | 1 => exact ⟨⟨by decide, by decide⟩, ⟨by decide, by decide⟩⟩
    | 2 => exact ⟨⟨by decide, by decide⟩, ⟨by decide, by decide⟩⟩
    | 3 => exact ⟨⟨by decide, by decide⟩, ⟨by decide, by decide⟩⟩
    | i + 4 => exact (show inBP 1 ((0 : Int), (0 : Int), ()) from ⟨⟨by decide, by decide⟩, ⟨by decide, by decide⟩⟩)
  exact key _

theorem chL_ok (count slow : Int) : okL 1 (chL' count slow) := okL_tab (by decide) fun k _ => qrt_fit _
theorem chL_fit (count slow : Int) : allFit (chL' count slow) = true := by
  unfold allFit
  rw [List.all_eq_true]
  intro p hp
  obtain ⟨j, hj, e⟩ := List.mem_iff_getElem.1 hp
  have := chL_ok count slow j
  rw [List.getD_eq_getElem?_getD, List.getElem?_eq_getElem hj, Option.getD_some, e] at this
  show (fRec p.1 && fRec p.2.1) = true
  rw [show fRec p.1 = true from decide_eq_true ⟨by omega, by omega⟩, show fRec p.2.1 = true from decide_eq_true ⟨by omega, by omega⟩]; rfl
theorem chE_told {count slow : Int} : tE (chL' count slow) = 0 := by unfold tE; rw [if_pos (chL_fit count slow)]
theorem chR_ok (count slow : Int) : okC (chR count slow) := by unfold chR; split; exact tL_ok _; exact okC_nil

@[reducible] def sChirp : Spec := { pats := [.dat I64, .dat I64, .gl 0 TurnT], res := [{ own := some 48, t := .sl C64 }, { t := I64 }], pre := fun x => x.2.2.1 = turnsD, f := fun x => (chR x.1 x.2.1, chE x.1 x.2.1, ()) }

/-- Chirp -/
theorem h7d : Ok 7 sChirp := by
  refine mk (ctr := [(28, sPeriod), (29, sWithin), (30, sTold)]) ⟨h108, h86, h93n, trivial⟩ (nt := 38) Tryd.func7 rfl rfl rfl rfl (by kernel_rfl) (by kernel_rfl) (fun x => [fun _ => { σ := Nat, pat := fun k => [sI 18 k, sI 7 (qC x.2.1 k)] ++ rOwn 6 60006 69 PairT (tab (chP x.2.1) k), inv := fun k => k ≤ x.1.toNat, meas := fun k => x.1.toNat - k }]) ?_
  rintro ⟨(c : Int), (s : Int), t, _⟩ ht
  have ht : t = turnsD := ht
  subst ht
  by_cases hc : 1 ≤ c ∧ c ≤ 1024
  · by_cases hs : 1 ≤ s ∧ s ≤ 1000
    · have ho : chOk c s = true := by unfold chOk; rw [decide_eq_true hc, decide_eq_true hs]; rfl
      have u : chE c s = 0 := by unfold chE; rw [if_pos ho]
      have v : chR c s = tL (chL' c s) := by unfold chR; rw [if_pos ho]
      have dv : ∀ k : Nat, 0 ≤ (k : Int).tdiv s ∧ (k : Int).tdiv s ≤ k := fun k => by
        rw [Int.tdiv_eq_ediv_of_nonneg (by omega)]
        exact ⟨Int.ediv_nonneg (by omega) (by omega), Int.ediv_le_self _ (by omega)⟩
      repeat' (intro hzz; (try (rename Two => hq; cases hq)); (try dsimp only at hzz); (try simp only [resTy, argTy, eqD, inR, big, wantOf, Bool.not_true, Bool.not_false, Bool.true_eq, decide_eq_true_eq, decide_eq_false_iff_not, Bool.not_eq_true', Bool.not_eq_false', Bool.and_eq_true, Prod.mk.injEq, and_true, true_and, Int.not_lt, Int.not_le, gt_iff_lt, ge_iff_le] at hzz); (try simp only [resTy, argTy, eqD, inR, big, wantOf, Bool.not_true, Bool.not_false, Bool.true_eq, decide_eq_true_eq, decide_eq_false_iff_not, Bool.not_eq_true', Bool.not_eq_false', Bool.and_eq_true, Prod.mk.injEq, and_true, true_and, Int.not_lt, Int.not_le, gt_iff_lt, ge_iff_le, u, v] at hzz); (try (first | contradiction | (exfalso; omega))); (try (revert hzz; intro _)))
      all_goals try (rename Unit => hq; clear hq)
      all_goals try ((with_reducible refine Held.mk ?_); (with_reducible (first | refine Frz.mk ?_ | refine And.intro (Frz.mk ?_) ?_ | refine And.intro ?_ (Frz.mk ?_))); repeat' first | exact True.intro | (change _ = _; with_reducible rfl) | refine And.intro ?_ ?_ | (with_reducible refine Frz.mk ?_))
      all_goals try (refine Held.mk ?_; (try dsimp only at *); (try simp only [resTy, argTy, eqD, inR, big, wantOf, Bool.not_true, Bool.not_false, Bool.true_eq, decide_eq_true_eq, decide_eq_false_iff_not, Bool.not_eq_true', Bool.not_eq_false', Bool.and_eq_true, Prod.mk.injEq, and_true, true_and, Int.not_lt, Int.not_le, gt_iff_lt, ge_iff_le] at *); (try simp only [resTy, argTy, eqD, inR, big, wantOf, Bool.not_true, Bool.not_false, Bool.true_eq, decide_eq_true_eq, decide_eq_false_iff_not, Bool.not_eq_true', Bool.not_eq_false', Bool.and_eq_true, Prod.mk.injEq, and_true, true_and, Int.not_lt, Int.not_le, gt_iff_lt, ge_iff_le, u, v] at *))
      all_goals try omega
      · 
        refine GHeld.mk ?_
        refine Exists.intro 0 ?_
        refine And.intro (Leaf.mk ?_) ?_
        · repeat' first | exact True.intro | refine And.intro ?_ ?_
          all_goals try ((change _ = _ <;> try dsimp only) <;> try with_reducible rfl)
          all_goals try omega
          all_goals (rfl)
        exact Nat.zero_le _
      · rename_i k hk hlt
        have := dv k
        exact ⟨by omega, (show (-9223372036854775808 : Int) ≤ (k : Int).tdiv s by omega), (show (k : Int).tdiv s ≤ (9223372036854775807 : Int) by omega)⟩
      · rename_i k hk hlt
        have := dv k
        have := qC_in hs.1 k (by omega)
        exact ⟨(show (-9223372036854775808 : Int) ≤ qC s k + (k : Int).tdiv s by omega), (show qC s k + (k : Int).tdiv s ≤ (9223372036854775807 : Int) by omega)⟩
      · rename_i k hk hlt
        have := dv k
        have := qC_in hs.1 k (by omega)
        rw [Int.tmod_eq_emod_of_nonneg (show (0 : Int) ≤ qC s k + (k : Int).tdiv s by omega)]
        exact ⟨Int.emod_nonneg _ (by decide), Int.emod_lt_of_pos _ (by decide)⟩
      · rename_i k hk hlt
        rw [tab_len]; show k + 1 ≤ 2147483648; omega
      · rename_i k hk hlt
        refine GHeld.mk ?_
        refine Exists.intro (k + 1) ?_
        refine And.intro (Leaf.mk ?_) ?_
        · repeat' first | exact True.intro | refine And.intro ?_ ?_
          all_goals try ((change _ = _ <;> try dsimp only) <;> try with_reducible rfl)
          all_goals try omega
          all_goals (rfl)
        exact ⟨by show k + 1 ≤ c.toNat; omega, by show c.toNat - (k + 1) < c.toNat - k; omega⟩
      · rename_i k hk hge
        rw [tab_len]; omega
      · rename_i k hk hge
        rw [show k = c.toNat by omega]
        exact ⟨rfl, chE_told⟩
    · have ho : chOk c s = false := by unfold chOk; rw [decide_eq_false hs, Bool.and_false]
      have u : chE c s = 2 := by unfold chE; rw [ho]; rfl
      have v : chR c s = [] := by unfold chR; rw [ho]; rfl
      repeat' (intro hzz; (try (rename Two => hq; cases hq)); (try dsimp only at hzz); (try simp only [resTy, argTy, eqD, inR, big, wantOf, Bool.not_true, Bool.not_false, Bool.true_eq, decide_eq_true_eq, decide_eq_false_iff_not, Bool.not_eq_true', Bool.not_eq_false', Bool.and_eq_true, Prod.mk.injEq, and_true, true_and, Int.not_lt, Int.not_le, gt_iff_lt, ge_iff_le] at hzz); (try simp only [resTy, argTy, eqD, inR, big, wantOf, Bool.not_true, Bool.not_false, Bool.true_eq, decide_eq_true_eq, decide_eq_false_iff_not, Bool.not_eq_true', Bool.not_eq_false', Bool.and_eq_true, Prod.mk.injEq, and_true, true_and, Int.not_lt, Int.not_le, gt_iff_lt, ge_iff_le, u, v] at hzz); (try (first | contradiction | (exfalso; omega))); (try (revert hzz; intro _)))
      all_goals try (rename Unit => hq; clear hq)
      all_goals try ((with_reducible refine Held.mk ?_); (with_reducible (first | refine Frz.mk ?_ | refine And.intro (Frz.mk ?_) ?_ | refine And.intro ?_ (Frz.mk ?_))); repeat' first | exact True.intro | (change _ = _; with_reducible rfl) | refine And.intro ?_ ?_ | (with_reducible refine Frz.mk ?_))
      all_goals try (refine Held.mk ?_; (try dsimp only at *); (try simp only [resTy, argTy, eqD, inR, big, wantOf, Bool.not_true, Bool.not_false, Bool.true_eq, decide_eq_true_eq, decide_eq_false_iff_not, Bool.not_eq_true', Bool.not_eq_false', Bool.and_eq_true, Prod.mk.injEq, and_true, true_and, Int.not_lt, Int.not_le, gt_iff_lt, ge_iff_le] at *); (try simp only [resTy, argTy, eqD, inR, big, wantOf, Bool.not_true, Bool.not_false, Bool.true_eq, decide_eq_true_eq, decide_eq_false_iff_not, Bool.not_eq_true', Bool.not_eq_false', Bool.and_eq_true, Prod.mk.injEq, and_true, true_and, Int.not_lt, Int.not_le, gt_iff_lt, ge_iff_le, u, v] at *))
      all_goals try omega
  · have ho : chOk c s = false := by unfold chOk; rw [decide_eq_false hc, Bool.false_and]
    have u : chE c s = 2 := by unfold chE; rw [ho]; rfl
    have v : chR c s = [] := by unfold chR; rw [ho]; rfl
    repeat' (intro hzz; (try (rename Two => hq; cases hq)); (try dsimp only at hzz); (try simp only [resTy, argTy, eqD, inR, big, wantOf, Bool.not_true, Bool.not_false, Bool.true_eq, decide_eq_true_eq, decide_eq_false_iff_not, Bool.not_eq_true', Bool.not_eq_false', Bool.and_eq_true, Prod.mk.injEq, and_true, true_and, Int.not_lt, Int.not_le, gt_iff_lt, ge_iff_le] at hzz); (try simp only [resTy, argTy, eqD, inR, big, wantOf, Bool.not_true, Bool.not_false, Bool.true_eq, decide_eq_true_eq, decide_eq_false_iff_not, Bool.not_eq_true', Bool.not_eq_false', Bool.and_eq_true, Prod.mk.injEq, and_true, true_and, Int.not_lt, Int.not_le, gt_iff_lt, ge_iff_le, u, v] at hzz); (try (first | contradiction | (exfalso; omega))); (try (revert hzz; intro _)))
    all_goals try (rename Unit => hq; clear hq)
    all_goals try ((with_reducible refine Held.mk ?_); (with_reducible (first | refine Frz.mk ?_ | refine And.intro (Frz.mk ?_) ?_ | refine And.intro ?_ (Frz.mk ?_))); repeat' first | exact True.intro | (change _ = _; with_reducible rfl) | refine And.intro ?_ ?_ | (with_reducible refine Frz.mk ?_))
    all_goals try (refine Held.mk ?_; (try dsimp only at *); (try simp only [resTy, argTy, eqD, inR, big, wantOf, Bool.not_true, Bool.not_false, Bool.true_eq, decide_eq_true_eq, decide_eq_false_iff_not, Bool.not_eq_true', Bool.not_eq_false', Bool.and_eq_true, Prod.mk.injEq, and_true, true_and, Int.not_lt, Int.not_le, gt_iff_lt, ge_iff_le] at *); (try simp only [resTy, argTy, eqD, inR, big, wantOf, Bool.not_true, Bool.not_false, Bool.true_eq, decide_eq_true_eq, decide_eq_false_iff_not, Bool.not_eq_true', Bool.not_eq_false', Bool.and_eq_true, Prod.mk.injEq, and_true, true_and, Int.not_lt, Int.not_le, gt_iff_lt, ge_iff_le, u, v] at *))
    all_goals try omega

/-- ref.Chirp -/
@[reducible] def sChirpR : Spec := { pats := [.dat I64, .dat I64], res := [{ own := some 48, t := .sl C64 }, { t := I64 }], pre := fun _ => True, f := fun x => (chR x.1 x.2.1, chE x.1 x.2.1, ()) }
theorem h8d : Ok 8 sChirpR := by
  refine mk (ctr := [(13, sWithin), (31, sQuart), (32, sToldR)]) ⟨h25, h140, h97n, trivial⟩ (nt := 36) Tryd.func8 rfl rfl rfl rfl (by kernel_rfl) (by kernel_rfl) (fun x => [fun _ => { σ := Nat, pat := fun k => [sI 8 k, sI 7 (qC x.2.1 k)] ++ rOwn 6 60006 37 PairT (tab (chP x.2.1) k), inv := fun k => k ≤ x.1.toNat, meas := fun k => x.1.toNat - k }]) ?_
  rintro ⟨(c : Int), (s : Int), _⟩ _
  by_cases hc : 1 ≤ c ∧ c ≤ 1024
  · by_cases hs : 1 ≤ s ∧ s ≤ 1000
    · have ho : chOk c s = true := by unfold chOk; rw [decide_eq_true hc, decide_eq_true hs]; rfl
      have u : chE c s = 0 := by unfold chE; rw [if_pos ho]
      have v : chR c s = tL (chL' c s) := by unfold chR; rw [if_pos ho]
      have dv : ∀ k : Nat, 0 ≤ (k : Int).tdiv s ∧ (k : Int).tdiv s ≤ k := fun k => by
        rw [Int.tdiv_eq_ediv_of_nonneg (by omega)]
        exact ⟨Int.ediv_nonneg (by omega) (by omega), Int.ediv_le_self _ (by omega)⟩
      repeat' (intro hzz; (try (rename Two => hq; cases hq)); (try dsimp only at hzz); (try simp only [resTy, argTy, eqD, inR, big, wantOf, Bool.not_true, Bool.not_false, Bool.true_eq, decide_eq_true_eq, decide_eq_false_iff_not, Bool.not_eq_true', Bool.not_eq_false', Bool.and_eq_true, Prod.mk.injEq, and_true, true_and, Int.not_lt, Int.not_le, gt_iff_lt, ge_iff_le] at hzz); (try simp only [resTy, argTy, eqD, inR, big, wantOf, Bool.not_true, Bool.not_false, Bool.true_eq, decide_eq_true_eq, decide_eq_false_iff_not, Bool.not_eq_true', Bool.not_eq_false', Bool.and_eq_true, Prod.mk.injEq, and_true, true_and, Int.not_lt, Int.not_le, gt_iff_lt, ge_iff_le, u, v] at hzz); (try (first | contradiction | (exfalso; omega))); (try (revert hzz; intro _)))
      all_goals try (rename Unit => hq; clear hq)
      all_goals try ((with_reducible refine Held.mk ?_); (with_reducible (first | refine Frz.mk ?_ | refine And.intro (Frz.mk ?_) ?_ | refine And.intro ?_ (Frz.mk ?_))); repeat' first | exact True.intro | (change _ = _; with_reducible rfl) | refine And.intro ?_ ?_ | (with_reducible refine Frz.mk ?_))
      all_goals try (refine Held.mk ?_; (try dsimp only at *); (try simp only [resTy, argTy, eqD, inR, big, wantOf, Bool.not_true, Bool.not_false, Bool.true_eq, decide_eq_true_eq, decide_eq_false_iff_not, Bool.not_eq_true', Bool.not_eq_false', Bool.and_eq_true, Prod.mk.injEq, and_true, true_and, Int.not_lt, Int.not_le, gt_iff_lt, ge_iff_le] at *); (try simp only [resTy, argTy, eqD, inR, big, wantOf, Bool.not_true, Bool.not_false, Bool.true_eq, decide_eq_true_eq, decide_eq_false_iff_not, Bool.not_eq_true', Bool.not_eq_false', Bool.and_eq_true, Prod.mk.injEq, and_true, true_and, Int.not_lt, Int.not_le, gt_iff_lt, ge_iff_le, u, v] at *))
      all_goals try omega
      · 
        refine GHeld.mk ?_
        refine Exists.intro 0 ?_
        refine And.intro (Leaf.mk ?_) ?_
        · repeat' first | exact True.intro | refine And.intro ?_ ?_
          all_goals try ((change _ = _ <;> try dsimp only) <;> try with_reducible rfl)
          all_goals try omega
          all_goals (rfl)
        exact Nat.zero_le _
      · rename_i k hk hlt
        have := dv k
        exact ⟨by omega, (show (-9223372036854775808 : Int) ≤ (k : Int).tdiv s by omega), (show (k : Int).tdiv s ≤ (9223372036854775807 : Int) by omega)⟩
      · rename_i k hk hlt
        have := dv k
        have := qC_in hs.1 k (by omega)
        exact ⟨(show (-9223372036854775808 : Int) ≤ qC s k + (k : Int).tdiv s by omega), (show qC s k + (k : Int).tdiv s ≤ (9223372036854775807 : Int) by omega)⟩
      · rename_i k hk hlt
        have := dv k
        have := qC_in hs.1 k (by omega)
        exact (show (0 : Int) ≤ qC s k + (k : Int).tdiv s by omega)
      · rename_i k hk hlt
        rw [tab_len]; show k + 1 ≤ 2147483648; omega
      · rename_i k hk hlt
        refine GHeld.mk ?_
        refine Exists.intro (k + 1) ?_
        refine And.intro (Leaf.mk ?_) ?_
        · repeat' first | exact True.intro | refine And.intro ?_ ?_
          all_goals try ((change _ = _ <;> try dsimp only) <;> try with_reducible rfl)
          all_goals try omega
          all_goals (rfl)
        exact ⟨by show k + 1 ≤ c.toNat; omega, by show c.toNat - (k + 1) < c.toNat - k; omega⟩
      · rename_i k hk hge
        have e : tab (chP s) k = chL' c s := by rw [show k = c.toNat by omega]; rfl
        rw [e]
        exact ⟨by show (chL' c s).length ≤ _; unfold chL'; rw [tab_len]; omega, okL_mono (chL_ok c s) (by decide)⟩
      · rename_i k hk hge
        rw [show k = c.toNat by omega]
        exact ⟨rfl, chE_told⟩
    · have ho : chOk c s = false := by unfold chOk; rw [decide_eq_false hs, Bool.and_false]
      have u : chE c s = 2 := by unfold chE; rw [ho]; rfl
      have v : chR c s = [] := by unfold chR; rw [ho]; rfl
      repeat' (intro hzz; (try (rename Two => hq; cases hq)); (try dsimp only at hzz); (try simp only [resTy, argTy, eqD, inR, big, wantOf, Bool.not_true, Bool.not_false, Bool.true_eq, decide_eq_true_eq, decide_eq_false_iff_not, Bool.not_eq_true', Bool.not_eq_false', Bool.and_eq_true, Prod.mk.injEq, and_true, true_and, Int.not_lt, Int.not_le, gt_iff_lt, ge_iff_le] at hzz); (try simp only [resTy, argTy, eqD, inR, big, wantOf, Bool.not_true, Bool.not_false, Bool.true_eq, decide_eq_true_eq, decide_eq_false_iff_not, Bool.not_eq_true', Bool.not_eq_false', Bool.and_eq_true, Prod.mk.injEq, and_true, true_and, Int.not_lt, Int.not_le, gt_iff_lt, ge_iff_le, u, v] at hzz); (try (first | contradiction | (exfalso; omega))); (try (revert hzz; intro _)))
      all_goals try (rename Unit => hq; clear hq)
      all_goals try ((with_reducible refine Held.mk ?_); (with_reducible (first | refine Frz.mk ?_ | refine And.intro (Frz.mk ?_) ?_ | refine And.intro ?_ (Frz.mk ?_))); repeat' first | exact True.intro | (change _ = _; with_reducible rfl) | refine And.intro ?_ ?_ | (with_reducible refine Frz.mk ?_))
      all_goals try (refine Held.mk ?_; (try dsimp only at *); (try simp only [resTy, argTy, eqD, inR, big, wantOf, Bool.not_true, Bool.not_false, Bool.true_eq, decide_eq_true_eq, decide_eq_false_iff_not, Bool.not_eq_true', Bool.not_eq_false', Bool.and_eq_true, Prod.mk.injEq, and_true, true_and, Int.not_lt, Int.not_le, gt_iff_lt, ge_iff_le] at *); (try simp only [resTy, argTy, eqD, inR, big, wantOf, Bool.not_true, Bool.not_false, Bool.true_eq, decide_eq_true_eq, decide_eq_false_iff_not, Bool.not_eq_true', Bool.not_eq_false', Bool.and_eq_true, Prod.mk.injEq, and_true, true_and, Int.not_lt, Int.not_le, gt_iff_lt, ge_iff_le, u, v] at *))
      all_goals try omega
  · have ho : chOk c s = false := by unfold chOk; rw [decide_eq_false hc, Bool.false_and]
    have u : chE c s = 2 := by unfold chE; rw [ho]; rfl
    have v : chR c s = [] := by unfold chR; rw [ho]; rfl
    repeat' (intro hzz; (try (rename Two => hq; cases hq)); (try dsimp only at hzz); (try simp only [resTy, argTy, eqD, inR, big, wantOf, Bool.not_true, Bool.not_false, Bool.true_eq, decide_eq_true_eq, decide_eq_false_iff_not, Bool.not_eq_true', Bool.not_eq_false', Bool.and_eq_true, Prod.mk.injEq, and_true, true_and, Int.not_lt, Int.not_le, gt_iff_lt, ge_iff_le] at hzz); (try simp only [resTy, argTy, eqD, inR, big, wantOf, Bool.not_true, Bool.not_false, Bool.true_eq, decide_eq_true_eq, decide_eq_false_iff_not, Bool.not_eq_true', Bool.not_eq_false', Bool.and_eq_true, Prod.mk.injEq, and_true, true_and, Int.not_lt, Int.not_le, gt_iff_lt, ge_iff_le, u, v] at hzz); (try (first | contradiction | (exfalso; omega))); (try (revert hzz; intro _)))
    all_goals try (rename Unit => hq; clear hq)
    all_goals try ((with_reducible refine Held.mk ?_); (with_reducible (first | refine Frz.mk ?_ | refine And.intro (Frz.mk ?_) ?_ | refine And.intro ?_ (Frz.mk ?_))); repeat' first | exact True.intro | (change _ = _; with_reducible rfl) | refine And.intro ?_ ?_ | (with_reducible refine Frz.mk ?_))
    all_goals try (refine Held.mk ?_; (try dsimp only at *); (try simp only [resTy, argTy, eqD, inR, big, wantOf, Bool.not_true, Bool.not_false, Bool.true_eq, decide_eq_true_eq, decide_eq_false_iff_not, Bool.not_eq_true', Bool.not_eq_false', Bool.and_eq_true, Prod.mk.injEq, and_true, true_and, Int.not_lt, Int.not_le, gt_iff_lt, ge_iff_le] at *); (try simp only [resTy, argTy, eqD, inR, big, wantOf, Bool.not_true, Bool.not_false, Bool.true_eq, decide_eq_true_eq, decide_eq_false_iff_not, Bool.not_eq_true', Bool.not_eq_false', Bool.and_eq_true, Prod.mk.injEq, and_true, true_and, Int.not_lt, Int.not_le, gt_iff_lt, ge_iff_le, u, v] at *))
    all_goals try omega

theorem chR_len {c s : Int} : (chR c s).length ≤ 2000000000 := by
  unfold chR chOk
  split
  · rename_i h
    rw [Bool.and_eq_true] at h
    have h1 := of_decide_eq_true h.1
    have := tL_len (chL' c s)
    have : (chL' c s).length = c.toNat := tab_len _ _
    omega
  · decide

@[reducible] def sLaw3d : Spec := { pats := [.gl 0 TurnT, .dat I64, .dat I64], res := [{ t := .bool }], pre := fun x => x.1 = turnsD, f := fun _ => (true, ()) }

/-- PulseChirps -/
theorem h3d : Ok 3 sLaw3d := by
  refine mk (ctr := [(6, sAwake), (7, sChirp), (8, sChirpR), (9, sSameN)]) ⟨h17, h7d, h8d, h34n, trivial⟩ (nt := 37) Tryd.func3 rfl rfl rfl rfl (by kernel_rfl) (by kernel_rfl) (fun _ => []) ?_
  rintro ⟨t, (c : Int), (s : Int), _⟩ ht
  have ht : t = turnsD := ht
  subst ht
  have l1 : (chR c s).length ≤ 2000000000 := chR_len
  have o1 := chR_ok c s
  repeat' (intro hzz; (try (rename Two => hq; cases hq)); (try dsimp only at hzz); (try simp only [resTy, argTy, eqD, inR, big, wantOf, Bool.not_true, Bool.not_false, Bool.true_eq, decide_eq_true_eq, decide_eq_false_iff_not, Bool.not_eq_true', Bool.not_eq_false', Bool.and_eq_true, Prod.mk.injEq, and_true, true_and, Int.not_lt, Int.not_le, gt_iff_lt, ge_iff_le] at hzz); (try (first | contradiction | (exfalso; omega))); (try (revert hzz; intro _)))
  all_goals try (rename Unit => hq; clear hq)
  all_goals try ((with_reducible refine Held.mk ?_); (with_reducible (first | refine Frz.mk ?_ | refine And.intro (Frz.mk ?_) ?_ | refine And.intro ?_ (Frz.mk ?_))); repeat' first | exact True.intro | (change _ = _; with_reducible rfl) | refine And.intro ?_ ?_ | (with_reducible refine Frz.mk ?_))
  all_goals try (refine Held.mk ?_; (try dsimp only at *); (try simp only [resTy, argTy, eqD, inR, big, wantOf, Bool.not_true, Bool.not_false, Bool.true_eq, decide_eq_true_eq, decide_eq_false_iff_not, Bool.not_eq_true', Bool.not_eq_false', Bool.and_eq_true, Prod.mk.injEq, and_true, true_and, Int.not_lt, Int.not_le, gt_iff_lt, ge_iff_le] at *))
  all_goals try omega
  all_goals exact ⟨l1, o1⟩

end Go.Eng.Pu

namespace Go.Eng.Pu
open Go.Eng Go.Proofs
set_option linter.all false
set_option maxRecDepth 100000
set_option maxHeartbeats 8000000

@[reducible] def sFloor : Spec := { pats := [.dat I64, .dat I64], res := [{ t := I64 }], pre := fun x => 0 < x.2.1 ∧ -9000000000000000000 ≤ x.1 ∧ x.1 ≤ (9000000000000000000 : Int), f := fun x => (x.1 / x.2.1, ()) }

end Go.Eng.Pu

namespace Go.Eng.Pu
open Go.Eng Go.Proofs
set_option linter.all false
set_option maxRecDepth 100000
set_option maxHeartbeats 8000000

@[reducible] def sRIsMax : Spec := { pats := [.dat Reg0], res := [{ t := .bool }], pre := fun x => chk x.1.1 x.1.2.1 = 0 ∧ pLen (List.length (α := Int) x.1.2.1), f := fun x => (decide ((per x.1.1 x.1.2.1 1 : Int) = most x.1.1), ()) }

/-- ref.IsMaximal -/
theorem h64 : Ok 35 sRIsMax := by
  refine mk (ctr := [(62, sRPer), (12, sMost)]) ⟨h24, h68, trivial⟩ (nt := 8) Tryd.func35 rfl rfl rfl rfl (by kernel_rfl) (by kernel_rfl) (fun _ => []) ?_
  rintro ⟨⟨(L : Int), (xs : List Int), _⟩, _⟩ ⟨(hc : chk L xs = 0), (hl : pLen xs.length)⟩
  have h1 := one_pSt hc hl
  have h2 := (chk_zero hc).1
  repeat' (intro hzz; (try (rename Two => hq; cases hq)); (try dsimp only at hzz); (try simp only [resTy, argTy, eqD, inR, big, wantOf, Bool.not_true, Bool.not_false, Bool.true_eq, decide_eq_true_eq, decide_eq_false_iff_not, Bool.not_eq_true', Bool.not_eq_false', Bool.and_eq_true, Prod.mk.injEq, and_true, true_and, Int.not_lt, Int.not_le, gt_iff_lt, ge_iff_le] at hzz); (try (first | contradiction | (exfalso; omega))); (try (revert hzz; intro _)))
  all_goals try (rename Unit => hq; clear hq)
  all_goals try ((with_reducible refine Held.mk ?_); (with_reducible (first | refine Frz.mk ?_ | refine And.intro (Frz.mk ?_) ?_ | refine And.intro ?_ (Frz.mk ?_))); repeat' first | exact True.intro | (change _ = _; with_reducible rfl) | refine And.intro ?_ ?_ | (with_reducible refine Frz.mk ?_))
  all_goals try (refine Held.mk ?_; (try dsimp only at *); (try simp only [resTy, argTy, eqD, inR, big, wantOf, Bool.not_true, Bool.not_false, Bool.true_eq, decide_eq_true_eq, decide_eq_false_iff_not, Bool.not_eq_true', Bool.not_eq_false', Bool.and_eq_true, Prod.mk.injEq, and_true, true_and, Int.not_lt, Int.not_le, gt_iff_lt, ge_iff_le] at *))
  all_goals try omega

end Go.Eng.Pu
