/- Generators: modulo a prime there is a root for each divisor of p - 1. Plain laws. -/
import Derived.Test.YtcoimlnplaidiaaQ34
namespace Go.Eng.Pu
open Go.Eng Go.Proofs
set_option linter.all false
set_option maxRecDepth 100000
set_option maxHeartbeats 8000000

/-! ### Sums of powers of all numbers -/

theorem ch_last : ∀ n : Nat, ch (n + 1) n = n + 1
  | 0 => rfl
  | n + 1 => by
    have e : ch (n + 1 + 1) (n + 1) = ch (n + 1) n + ch (n + 1) (n + 1) := rfl
    rw [e, ch_last n, ch_self]; omega

def pS (P k : Nat) : Int := sm (fun x => (x : Int) ^ k) P

theorem sm_tele (f : Nat → Int) : ∀ n : Nat, sm (fun x => f (x + 1) - f x) n = f n - f 0
  | 0 => by show (0 : Int) = f 0 - f 0; omega
  | n + 1 => by
    have e : sm (fun x => f (x + 1) - f x) (n + 1) = sm (fun x => f (x + 1) - f x) n + (f (n + 1) - f n) := rfl
    rw [e, sm_tele f n]; omega

theorem pS_sum (P d : Nat) : sm (fun k => ch (d + 1) k * pS P k) (d + 1) = (P : Int) ^ (d + 1) := by
  have h1 : ∀ x : Nat, ((x + 1 : Nat) : Int) ^ (d + 1) - (x : Int) ^ (d + 1) = sm (fun k => ch (d + 1) k * (x : Int) ^ k) (d + 1) := by
    intro x
    rw [show ((x + 1 : Nat) : Int) = (x : Int) + 1 by omega, binom]
    have e : sm (fun k => ch (d + 1) k * (x : Int) ^ k) (d + 1 + 1) = sm (fun k => ch (d + 1) k * (x : Int) ^ k) (d + 1) + ch (d + 1) (d + 1) * (x : Int) ^ (d + 1) := rfl
    rw [e, ch_self]; omega
  have h2 := sm_tele (fun x => (x : Int) ^ (d + 1)) P
  have h3 : sm (fun x => ((x + 1 : Nat) : Int) ^ (d + 1) - (x : Int) ^ (d + 1)) P = sm (fun k => ch (d + 1) k * pS P k) (d + 1) := by
    rw [sm_congr P fun x _ => h1 x, sm_comm]
    refine sm_congr (d + 1) fun k _ => ?_
    exact sm_mul _ _ _
  rw [← h3]
  refine h2.trans ?_
  show (P : Int) ^ (d + 1) - ((0 : Nat) : Int) ^ (d + 1) = _
  rw [Int.pow_succ ((0 : Nat) : Int)]; simp

theorem pS_zero {p : Int} (hp : Pr p) : ∀ d : Nat, (d : Int) + 1 < p → Cg p (pS p.toNat d) 0 := by
  have h2 := hp.1
  intro d
  induction d using Nat.strongRecOn with
  | _ d ih =>
    intro hd
    have h1 := pS_sum p.toNat d
    have e : sm (fun k => ch (d + 1) k * pS p.toNat k) (d + 1) = sm (fun k => ch (d + 1) k * pS p.toNat k) d + ch (d + 1) d * pS p.toNat d := rfl
    rw [e, ch_last] at h1
    have h3 : Cg p (sm (fun k => ch (d + 1) k * pS p.toNat k) d) (sm (fun _ => 0) d) := Cg.sm d fun k hk => by
      have := (Cg.refl p (ch (d + 1) k)).mul (ih k hk (by omega))
      rwa [Int.mul_zero] at this
    rw [sm_const, Int.mul_zero] at h3
    have h4 : Cg p ((p.toNat : Int) ^ (d + 1)) 0 := by
      rw [show (p.toNat : Int) = p by omega, Int.pow_succ]
      exact cg_zero.2 (Int.dvd_mul_left _ _)
    have h5 : Cg p (((d : Int) + 1) * pS p.toNat d) 0 := by
      have a := h3.add (Cg.refl p (((d : Int) + 1) * pS p.toNat d))
      rw [h1, Int.zero_add] at a
      exact a.symm.trans h4
    exact cg_zero.2 ((pr_mul hp (cg_zero.1 h5)).resolve_left (pr_small (by omega) (by omega)))

/-- Some number has another power than 1. -/
theorem not_all_one {p : Int} (hp : Pr p) {d : Nat} (h0 : 0 < d) (hd : (d : Int) + 1 < p) : ∃ x : Int, 1 ≤ x ∧ x < p ∧ ¬ Cg p (x ^ d) 1 := by
  have h2 := hp.1
  apply Classical.byContradiction
  intro hn
  have hall : ∀ x : Nat, 1 ≤ x → (x : Int) < p → Cg p ((x : Int) ^ d) 1 := by
    intro x h1 h3
    apply Classical.byContradiction
    intro h4
    exact hn ⟨x, by omega, h3, h4⟩
  have key : ∀ m : Nat, (m : Int) + 1 ≤ p → Cg p (sm (fun x => (x : Int) ^ d) (m + 1)) m := by
    intro m
    induction m with
    | zero =>
      intro _
      show Cg p (0 + ((0 : Nat) : Int) ^ d) 0
      obtain ⟨e, rfl⟩ : ∃ e, d = e + 1 := ⟨d - 1, by omega⟩
      rw [Int.pow_succ]; simp [Cg]
    | succ m ih =>
      intro hm
      have a := (ih (by omega)).add (hall (m + 1) (by omega) (by omega))
      have e : sm (fun x => (x : Int) ^ d) (m + 1 + 1) = sm (fun x => (x : Int) ^ d) (m + 1) + ((m + 1 : Nat) : Int) ^ d := rfl
      rw [e, show ((m + 1 : Nat) : Int) = (m : Int) + 1 by omega]
      exact a
  have h := key (p.toNat - 1) (by omega)
  rw [show p.toNat - 1 + 1 = p.toNat by omega] at h
  have hz := pS_zero hp d hd
  have h3 := hz.symm.trans h
  have h4 : p ∣ 0 - ((p.toNat - 1 : Nat) : Int) := cg_dvd.1 h3
  have h5 : p ∣ ((p.toNat - 1 : Nat) : Int) := by
    obtain ⟨c, hc⟩ := h4
    exact ⟨-c, by rw [Int.mul_neg]; omega⟩
  exact pr_small (by omega) (by omega) h5

theorem pow_gcd {p z : Int} : ∀ a b : Nat, Cg p (z ^ a) 1 → Cg p (z ^ b) 1 → Cg p (z ^ Nat.gcd a b) 1 := by
  intro a b
  induction a, b using Nat.gcd.induction with
  | H0 n => intro _ h; rw [Nat.gcd_zero_left]; exact h
  | H1 m n hm ih =>
    intro h1 h2
    rw [Nat.gcd_rec]
    exact ih ((pow_modN h1 n).trans h2) h1

theorem out_power {q : Nat} (hq : 2 ≤ q) : ∀ (b N : Nat), N ≤ b → 1 ≤ N → ∃ e m : Nat, N = q ^ e * m ∧ ¬ q ∣ m
  | 0, N, h, h1 => by omega
  | b + 1, N, h, h1 => by
    by_cases hd : q ∣ N
    · obtain ⟨c, hc⟩ := hd
      have hc1 : 1 ≤ c := by
        rcases Nat.eq_zero_or_pos c with h0 | h0
        · rw [h0] at hc; omega
        · exact h0
      have hlt : c < N := by
        have : 2 * c ≤ q * c := Nat.mul_le_mul_right c hq
        omega
      obtain ⟨e, m, h2, h3⟩ := out_power hq b c (by omega) hc1
      refine ⟨e + 1, m, ?_, h3⟩
      rw [hc, h2, Nat.pow_succ]
      rw [Nat.mul_comm (q ^ e) q, Nat.mul_assoc]
    · exact ⟨0, N, by simp, hd⟩

/-- For one prime divisor q of p - 1: a number that is no power with exponent q, but one for all others. -/
theorem one_prime {p : Int} (hp : Pr p) {N q : Nat} (hN : (N : Int) + 1 = p) (hq : Pr q) (hd : q ∣ N) : ∃ y : Int, ¬ p ∣ y ∧ ¬ Cg p (y ^ (N / q)) 1 ∧ ∀ r : Nat, Pr r → r ≠ q → r ∣ N → Cg p (y ^ (N / r)) 1 := by
  have h2 := hp.1
  have hq2 := hq.1
  have hqN := Nat.le_of_dvd (by omega) hd
  have hq0 : 0 < q := by omega
  obtain ⟨c, hc⟩ := hd
  have hdiv : N / q = c := by rw [hc]; exact Nat.mul_div_cancel_left c hq0
  have hc1 : 1 ≤ c := by
    rcases Nat.eq_zero_or_pos c with h0 | h0
    · rw [h0] at hc; omega
    · exact h0
  have hc2 : 2 * c ≤ N := by rw [hc]; exact Nat.mul_le_mul_right c (by omega)
  obtain ⟨x, x1, x2, x3⟩ := not_all_one hp (d := c) hc1 (by omega)
  have hx : ¬ p ∣ x := pr_small (by omega) x2
  have hfx : Cg p (x ^ N) 1 := by
    have := fermat hp hx
    rwa [show (p - 1).toNat = N by omega] at this
  obtain ⟨e, m, hm, hqm⟩ := out_power (q := q) (by omega) N N (Nat.le_refl _) (by omega)
  have hnd : ∀ k : Nat, ¬ p ∣ x ^ k := by
    intro k
    induction k with
    | zero => rw [Int.pow_zero]; exact pr_small (by omega) (by omega)
    | succ k ih => rw [Int.pow_succ]; exact fun h => (pr_mul hp h).elim ih hx
  refine ⟨x ^ m, hnd m, ?_, ?_⟩
  · rw [hdiv]
    intro h
    have hz1 : Cg p ((x ^ c) ^ m) 1 := by
      rw [← Int.pow_mul, Nat.mul_comm, Int.pow_mul]; exact h
    have hz2 : Cg p ((x ^ c) ^ q) 1 := by
      rw [← Int.pow_mul, Nat.mul_comm, ← hc]; exact hfx
    have hg := pow_gcd q m hz2 hz1
    have hcop : Nat.gcd q m = 1 := by
      have := pr_cop hq (a := (m : Int)) (fun hh => hqm (Int.ofNat_dvd.1 hh))
      simpa [Nat.Coprime] using this
    rw [hcop, Int.pow_one] at hg
    exact x3 hg
  · intro r hr hne hrN
    have hrm : r ∣ m := by
      have h1 : (r : Int) ∣ ((q ^ e * m : Nat) : Int) := by rw [← hm]; exact Int.ofNat_dvd.2 hrN
      rw [Int.natCast_mul] at h1
      rcases pr_mul hr h1 with h3 | h3
      · exfalso
        have h4 : (r : Int) ∣ (q : Int) := by
          rw [Int.natCast_pow] at h3
          generalize e = e' at h3
          induction e' with
          | zero =>
            rw [Int.pow_zero] at h3
            exact absurd h3 (pr_small (by omega) (by have := hr.1; omega))
          | succ e' ih =>
            rw [Int.pow_succ] at h3
            exact (pr_mul hr h3).elim ih id
        have h5 := Int.le_of_dvd (by omega) h4
        have h6 := hr.1
        by_cases h7 : r < q
        · exact hq.2 r (by omega) (by omega) (Int.emod_eq_zero_of_dvd h4)
        · omega
      · exact Int.ofNat_dvd.1 h3
    obtain ⟨m', hm'⟩ := hrm
    obtain ⟨c', hc'⟩ := hrN
    have hr0 : 0 < r := by have := hr.1; omega
    have e1 : N / r = c' := by rw [hc']; exact Nat.mul_div_cancel_left c' hr0
    rw [e1, ← Int.pow_mul]
    have e2 : m * c' = N * m' := by
      rw [hm', hc', Nat.mul_assoc, Nat.mul_assoc, Nat.mul_comm m' c']
    rw [e2]
    exact pow_one_mul hfx m'

/-- For a list of prime divisors of p - 1. -/
theorem all_primes {p : Int} (hp : Pr p) {N : Nat} (hN : (N : Int) + 1 = p) : ∀ qs : List Nat, (∀ q ∈ qs, Pr q ∧ q ∣ N) → ∃ g : Int, ¬ p ∣ g ∧ ∀ q ∈ qs, ¬ Cg p (g ^ (N / q)) 1
  | [], _ => ⟨1, pr_small (by omega) (by have := hp.1; omega), fun q hq => by cases hq⟩
  | q :: qs, h => by
    obtain ⟨g, g1, g2⟩ := all_primes hp hN qs fun r hr => h r (List.mem_cons_of_mem _ hr)
    obtain ⟨hq, hqN⟩ := h q (List.mem_cons_self ..)
    by_cases hg : Cg p (g ^ (N / q)) 1
    · obtain ⟨y, y1, y2, y3⟩ := one_prime hp hN hq hqN
      refine ⟨g * y, fun hd => (pr_mul hp hd).elim g1 y1, fun r hr => ?_⟩
      rw [Int.mul_pow]
      by_cases hrq : r = q
      · rw [hrq]
        intro hh
        have a := hg.mul (Cg.refl p (y ^ (N / q)))
        rw [Int.one_mul] at a
        exact y2 (a.symm.trans hh)
      · have hr' : r ∈ qs := by
          rcases List.mem_cons.1 hr with h1 | h1
          · exact absurd h1 hrq
          · exact h1
        obtain ⟨hrp, hrN⟩ := h r hr
        intro hh
        have a := (Cg.refl p (g ^ (N / r))).mul (y3 r hrp hrq hrN)
        rw [Int.mul_one] at a
        exact g2 r hr' (a.symm.trans hh)
    · refine ⟨g, g1, fun r hr => ?_⟩
      rcases List.mem_cons.1 hr with h1 | h1
      · rw [h1]; exact hg
      · exact g2 r h1

/-! ### What is found divides, and is prime -/

theorem rs_dvd {n : Int} : ∀ k : Nat, (rs n k).1 ∣ n
  | 0 => Int.dvd_refl n
  | k + 1 => Int.dvd_trans (strip_dvd _ _ _) (rs_dvd k)

theorem rs_mem {n : Int} (h1 : 1 ≤ n) (h2 : n ≤ 2000) : ∀ k : Nat, ∀ q ∈ (rs n k).2, Pr q ∧ q ∣ n
  | 0, q, hq => by cases hq
  | k + 1, q, hq => by
    have e2 : (rs n (k + 1)).2 = if (rs n k).1 % (k + 2 : Int) = 0 then (rs n k).2 ++ [(k + 2 : Int)] else (rs n k).2 := rfl
    rw [e2] at hq
    split at hq
    · rename_i hz
      rcases List.mem_append.1 hq with h | h
      · exact rs_mem h1 h2 k q h
      · rw [List.mem_singleton.1 h]
        have hd := Int.dvd_of_emod_eq_zero hz
        refine ⟨⟨by omega, fun d hd1 hd2 hd3 => ?_⟩, Int.dvd_trans hd (rs_dvd k)⟩
        exact rs_not h1 h2 k d hd1 hd2 (Int.emod_eq_zero_of_dvd (Int.dvd_trans (Int.dvd_of_emod_eq_zero hd3) hd))
    · exact rs_mem h1 h2 k q hq

theorem prO_pr {n : Int} (h1 : 1 ≤ n) (h2 : n ≤ 2000) : ∀ q ∈ prO n, Pr q ∧ q ∣ n := by
  intro q hq
  unfold prO at hq
  split at hq
  · rename_i hr
    rcases List.mem_append.1 hq with h | h
    · exact rs_mem h1 h2 _ q h
    · rw [List.mem_singleton.1 h]
      exact ⟨⟨by omega, left_pr h1 h2⟩, rs_dvd _⟩
  · exact rs_mem h1 h2 _ q hq

theorem rtE_mk {p w n : Int} : ∀ (m i : Nat), (∀ j, i ≤ j → j < i + m → ¬ pw w (n / (prO n).getD j 0) p = 1) → rtE p w n m i = true
  | 0, i, _ => rfl
  | m + 1, i, h => by
    rw [rtE, if_neg (h i (by omega) (by omega))]
    exact rtE_mk m (i + 1) fun j h1 h2 => h j (by omega) (by omega)

/-- A generator. -/
theorem gen_ex {p n : Int} (hp : Pr p) (h1 : 1 ≤ n) (h2 : n ≤ 1024) (hd : (p - 1) % n = 0) : ∃ g : Int, 1 ≤ g ∧ g < p ∧ rootB p (pw g ((p - 1) / n) p) n = true := by
  have hp2 := hp.1
  have hpr := prO_pr h1 (show n ≤ 2000 by omega)
  have hn : n * ((p - 1) / n) = p - 1 := by
    have := Int.mul_ediv_add_emod (p - 1) n
    rw [hd, Int.add_zero] at this
    exact this
  have hk0 : 0 ≤ (p - 1) / n := Int.ediv_nonneg (by omega) (by omega)
  have hN : (((p - 1).toNat : Nat) : Int) + 1 = p := by omega
  obtain ⟨g, g1, g2⟩ := all_primes hp hN ((prO n).map Int.toNat) fun q hq => by
    obtain ⟨r, hr, rfl⟩ := List.mem_map.1 hq
    obtain ⟨a, b⟩ := hpr r hr
    have ha := a.1
    have e : ((r.toNat : Nat) : Int) = r := by omega
    refine ⟨by rw [e]; exact a, Int.ofNat_dvd.1 ?_⟩
    rw [e, show (((p - 1).toNat : Nat) : Int) = p - 1 by omega, ← hn]
    exact Int.dvd_mul_of_dvd_left b
  have hgm := em_in hp2 g
  have hg0 : g % p ≠ 0 := fun h => g1 (Int.dvd_of_emod_eq_zero h)
  refine ⟨g % p, by omega, hgm.2, ?_⟩
  have hcg : ∀ k : Nat, Cg p ((g % p) ^ k) (g ^ k) := fun k => (Cg.mod p g).pow k
  have hpw : ∀ e : Int, Cg p (pw (g % p) ((p - 1) / n) p ^ e.toNat) (g ^ (((p - 1) / n).toNat * e.toNat)) := fun e => by
    rw [Int.pow_mul]
    exact ((Cg.mod p _).trans (hcg _)).pow _
  unfold rootB
  rw [Bool.and_eq_true]
  constructor
  · refine decide_eq_true ((pw_one hp2 _ _).2 ((hpw n).trans ?_))
    have e : ((p - 1) / n).toNat * n.toNat = (p - 1).toNat := by
      have : (((p - 1) / n).toNat * n.toNat : Nat) = (((p - 1).toNat : Nat)) := by
        apply Int.ofNat_inj.1
        rw [Int.natCast_mul, show (((p - 1) / n).toNat : Int) = (p - 1) / n by omega, show (n.toNat : Int) = n by omega, Int.mul_comm, hn]
        omega
      exact this
    rw [e]
    exact fermat hp g1
  · refine rtE_mk _ _ fun j _ hj => ?_
    have hj : j < (prO n).length := by omega
    have hm := getD_mem (d := 0) hj
    generalize (prO n).getD j 0 = q at hm
    obtain ⟨a, b⟩ := hpr q hm
    have ha := a.1
    rw [pw_one hp2]
    intro h
    have h := (hpw (n / q)).symm.trans h
    refine g2 q.toNat (List.mem_map.2 ⟨q, hm, rfl⟩) ?_
    obtain ⟨c, hc⟩ := b
    have hcq : n / q = c := by rw [hc]; exact Int.mul_ediv_cancel_left c (by omega)
    have hc0 : 0 ≤ c := by rw [← hcq]; exact Int.ediv_nonneg (by omega) (by omega)
    have e : ((p - 1) / n).toNat * (n / q).toNat = (p - 1).toNat / q.toNat := by
      rw [hcq]
      symm
      apply Nat.div_eq_of_eq_mul_right (by omega)
      apply Int.ofNat_inj.1
      rw [Int.natCast_mul, Int.natCast_mul, show (((p - 1) / n).toNat : Int) = (p - 1) / n by omega, show (q.toNat : Int) = q by omega, show (c.toNat : Int) = c by omega, show (((p - 1).toNat : Nat) : Int) = p - 1 by omega, ← hn, Int.mul_ediv_cancel_left _ (show n ≠ 0 by omega)]
      rw [show q * ((p - 1) / n * c) = q * c * ((p - 1) / n) by grind, ← hc]
    rw [e] at h
    exact h

end Go.Eng.Pu
