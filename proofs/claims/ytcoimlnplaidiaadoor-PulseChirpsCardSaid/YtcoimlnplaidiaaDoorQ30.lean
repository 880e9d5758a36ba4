/- Arithmetic modulo a prime: Euclid, Fermat, roots, there and back. Plain laws. -/
import Derived.Test.YtcoimlnplaidiaaDoorQ22
namespace Go.Eng.Pu
open Go.Eng Go.Proofs
set_option linter.all false
set_option maxRecDepth 100000
set_option maxHeartbeats 8000000

/-! ### Congruence -/

def Cg (p x y : Int) : Prop := x % p = y % p

theorem Cg.refl (p x : Int) : Cg p x x := rfl
theorem Cg.symm {p x y : Int} (h : Cg p x y) : Cg p y x := Eq.symm h
theorem Cg.trans {p x y z : Int} (h : Cg p x y) (h' : Cg p y z) : Cg p x z := Eq.trans h h'
theorem Cg.add {p x y u v : Int} (h : Cg p x y) (h' : Cg p u v) : Cg p (x + u) (y + v) := by
  unfold Cg at *; rw [Int.add_emod, h, h', ← Int.add_emod]
theorem Cg.mul {p x y u v : Int} (h : Cg p x y) (h' : Cg p u v) : Cg p (x * u) (y * v) := by
  unfold Cg at *; rw [Int.mul_emod, h, h', ← Int.mul_emod]
theorem Cg.pow {p x y : Int} (h : Cg p x y) : ∀ n : Nat, Cg p (x ^ n) (y ^ n)
  | 0 => by rw [Int.pow_zero, Int.pow_zero]; exact Cg.refl _ _
  | n + 1 => by rw [Int.pow_succ, Int.pow_succ]; exact (h.pow n).mul h
theorem Cg.mod (p x : Int) : Cg p (x % p) x := Int.emod_emod x p
theorem Cg.sm {p : Int} {f g : Nat → Int} : ∀ n : Nat, (∀ i, i < n → Cg p (f i) (g i)) → Cg p (sm f n) (sm g n)
  | 0, _ => rfl
  | n + 1, h => (Cg.sm n fun i hi => h i (by omega)).add (h n (by omega))
theorem cg_dvd {p x y : Int} : Cg p x y ↔ p ∣ x - y := by
  unfold Cg
  rw [Int.emod_eq_emod_iff_emod_sub_eq_zero, ← Int.dvd_iff_emod_eq_zero]
theorem cg_zero {p x : Int} : Cg p x 0 ↔ p ∣ x := by
  rw [cg_dvd, Int.sub_zero]
theorem Cg.eq {p x y : Int} (h : Cg p x y) (hx : 0 ≤ x) (hx' : x < p) (hy : 0 ≤ y) (hy' : y < p) : x = y := by
  unfold Cg at h
  rwa [Int.emod_eq_of_lt hx hx', Int.emod_eq_of_lt hy hy'] at h

/-! ### Primes -/

def Pr (p : Int) : Prop := 2 ≤ p ∧ ∀ d : Int, 2 ≤ d → d < p → p % d ≠ 0

/-- No divisor up to the root. -/
def Tr (n : Int) : Prop := ∀ d : Int, 2 ≤ d → d * d ≤ n → n % d ≠ 0

theorem tr_pr {n : Int} (h2 : 2 ≤ n) (h : Tr n) : Pr n := by
  refine ⟨h2, fun d h1 h3 hz => ?_⟩
  have e := Int.mul_ediv_add_emod n d
  rw [hz, Int.add_zero] at e
  have hq : 2 ≤ n / d := by
    by_cases hq : 2 ≤ n / d
    · exact hq
    · exfalso
      have : d * (n / d) ≤ d * 1 := Int.mul_le_mul_of_nonneg_left (by omega) (by omega)
      omega
  by_cases hdd : d * d ≤ n
  · exact h d h1 hdd hz
  · have hq2 : n / d < d := by
      by_cases hq2 : n / d < d
      · exact hq2
      · exfalso
        have : d * d ≤ d * (n / d) := Int.mul_le_mul_of_nonneg_left (by omega) (by omega)
        omega
    refine h (n / d) hq ?_ ?_
    · have : n / d * (n / d) ≤ d * (n / d) := Int.mul_le_mul_of_nonneg_right (by omega) (by omega)
      omega
    · refine Int.emod_eq_zero_of_dvd ⟨d, ?_⟩
      rw [Int.mul_comm]; exact e.symm

theorem pr_tr {n : Int} (h : Pr n) : Tr n := by
  intro d h1 h2 hz
  have : d * 2 ≤ d * d := Int.mul_le_mul_of_nonneg_left h1 (by omega)
  exact h.2 d h1 (by omega) hz

theorem pr_cop {p : Int} (hp : Pr p) {a : Int} (h : ¬ p ∣ a) : Nat.Coprime p.natAbs a.natAbs := by
  have h2 := hp.1
  have hg : Nat.gcd p.natAbs a.natAbs ∣ p.natAbs := Nat.gcd_dvd_left _ _
  have ha : Nat.gcd p.natAbs a.natAbs ∣ a.natAbs := Nat.gcd_dvd_right _ _
  by_cases g1 : Nat.gcd p.natAbs a.natAbs = 1
  · exact g1
  · exfalso
    generalize Nat.gcd p.natAbs a.natAbs = g at hg ha g1
    have hle := Nat.le_of_dvd (by omega) hg
    have hg0 : g ≠ 0 := by
      intro h0
      rw [h0] at hg
      have := Nat.eq_zero_of_zero_dvd hg
      omega
    have hgp : (g : Int) ∣ p := by
      have := Int.ofNat_dvd.2 hg
      rwa [Int.natAbs_of_nonneg (by omega)] at this
    by_cases he : (g : Int) = p
    · apply h
      rw [← he]
      exact Int.dvd_natAbs.1 (Int.ofNat_dvd.2 ha)
    · exact hp.2 g (by omega) (by omega) (Int.emod_eq_zero_of_dvd hgp)

theorem pr_mul {p a b : Int} (hp : Pr p) (h : p ∣ a * b) : p ∣ a ∨ p ∣ b := by
  by_cases ha : p ∣ a
  · exact .inl ha
  · right
    have hc := pr_cop hp ha
    have hd : p.natAbs ∣ a.natAbs * b.natAbs := by
      rw [← Int.natAbs_mul]; exact Int.natAbs_dvd_natAbs.2 h
    exact Int.natAbs_dvd_natAbs.1 (hc.dvd_of_dvd_mul_left hd)

theorem pr_small {p a : Int} (h1 : 0 < a) (h2 : a < p) : ¬ p ∣ a := fun h => by
  have := Int.le_of_dvd h1 h
  omega

theorem Cg.cancel {p a x y : Int} (hp : Pr p) (ha : ¬ p ∣ a) (h : Cg p (a * x) (a * y)) : Cg p x y := by
  rw [cg_dvd] at h ⊢
  rw [← Int.mul_sub] at h
  exact (pr_mul hp h).resolve_left ha

/-! ### Fermat -/

def ch : Nat → Nat → Int
  | _, 0 => 1
  | 0, _ + 1 => 0
  | n + 1, k + 1 => ch n k + ch n (k + 1)

theorem ch_zero : ∀ n, ch n 0 = 1
  | 0 => rfl
  | _ + 1 => rfl

theorem ch_big : ∀ n k : Nat, n < k → ch n k = 0
  | 0, k + 1, _ => rfl
  | n + 1, k + 1, h => by
    show ch n k + ch n (k + 1) = 0
    rw [ch_big n k (by omega), ch_big n (k + 1) (by omega)]; rfl

theorem ch_self : ∀ n : Nat, ch n n = 1
  | 0 => rfl
  | n + 1 => by
    show ch n n + ch n (n + 1) = 1
    rw [ch_self n, ch_big n (n + 1) (by omega)]; rfl

theorem ch_mul : ∀ n k : Nat, ((k : Int) + 1) * ch (n + 1) (k + 1) = ((n : Int) + 1) * ch n k
  | 0, 0 => rfl
  | 0, k + 1 => by
    rw [show ch (0 + 1) (k + 1 + 1) = 0 from rfl, show ch 0 (k + 1) = 0 from rfl]; simp
  | m + 1, 0 => by
    have ih := ch_mul m 0
    rw [ch_zero] at ih ⊢
    have e : ch (m + 1 + 1) (0 + 1) = ch (m + 1) 0 + ch (m + 1) (0 + 1) := rfl
    rw [e, ch_zero]
    simp only [Int.ofNat_zero, Int.natCast_add, Int.natCast_one] at ih ⊢
    simp at ih ⊢
    omega
  | m + 1, j + 1 => by
    have i1 := ch_mul m (j + 1)
    have i2 := ch_mul m j
    have e : ch (m + 1 + 1) (j + 1 + 1) = ch (m + 1) (j + 1) + ch (m + 1) (j + 1 + 1) := rfl
    have e2 : ch (m + 1) (j + 1) = ch m j + ch m (j + 1) := rfl
    rw [e]
    simp only [Int.natCast_add, Int.natCast_one] at i1 i2 ⊢
    generalize ch (m + 1) (j + 1 + 1) = A at *
    generalize ch (m + 1) (j + 1) = B at *
    generalize ch m j = C at *
    generalize ch m (j + 1) = D at *
    subst e2
    grind

theorem ch_step (a : Int) (n : Nat) : ∀ m : Nat, sm (fun k => ch (n + 1) k * a ^ k) (m + 1) = sm (fun k => ch n k * a ^ k) (m + 1) + a * sm (fun k => ch n k * a ^ k) m
  | 0 => by
    show 0 + ch (n + 1) 0 * a ^ 0 = 0 + ch n 0 * a ^ 0 + a * 0
    rw [ch_zero, ch_zero]; simp
  | m + 1 => by
    have ih := ch_step a n m
    have e1 : sm (fun k => ch (n + 1) k * a ^ k) (m + 1 + 1) = sm (fun k => ch (n + 1) k * a ^ k) (m + 1) + ch (n + 1) (m + 1) * a ^ (m + 1) := rfl
    have e2 : sm (fun k => ch n k * a ^ k) (m + 1 + 1) = sm (fun k => ch n k * a ^ k) (m + 1) + ch n (m + 1) * a ^ (m + 1) := rfl
    have e3 : sm (fun k => ch n k * a ^ k) (m + 1) = sm (fun k => ch n k * a ^ k) m + ch n m * a ^ m := rfl
    have e4 : ch (n + 1) (m + 1) = ch n m + ch n (m + 1) := rfl
    have e5 : a ^ (m + 1) = a ^ m * a := Int.pow_succ a m
    rw [e1, e2, ih, e4, e5, e3]
    grind

theorem binom (a : Int) : ∀ n : Nat, (a + 1) ^ n = sm (fun k => ch n k * a ^ k) (n + 1)
  | 0 => by show (a + 1) ^ 0 = 0 + ch 0 0 * a ^ 0; rw [ch_zero]; simp
  | n + 1 => by
    rw [ch_step a n (n + 1), Int.pow_succ, binom a n]
    have e2 : sm (fun k => ch n k * a ^ k) (n + 1 + 1) = sm (fun k => ch n k * a ^ k) (n + 1) + ch n (n + 1) * a ^ (n + 1) := rfl
    rw [e2, ch_big n (n + 1) (by omega)]
    grind

theorem ch_dvd {p : Int} (hp : Pr p) {n k : Nat} (hn : (n : Int) + 1 = p) (h : k < n) : p ∣ ch (n + 1) (k + 1) := by
  have e := ch_mul n k
  rw [hn] at e
  have : p ∣ ((k : Int) + 1) * ch (n + 1) (k + 1) := ⟨_, e⟩
  exact (pr_mul hp this).resolve_left (pr_small (by omega) (by omega))

theorem fermat_nat {p : Int} (hp : Pr p) {n : Nat} (hn : (n : Int) + 1 = p) : ∀ a : Nat, Cg p ((a : Int) ^ (n + 1)) a
  | 0 => by
    rw [Int.pow_succ]; simp [Cg]
  | a + 1 => by
    have ih := fermat_nat hp hn a
    have e : ((a + 1 : Nat) : Int) = (a : Int) + 1 := by omega
    rw [e, binom]
    have key : ∀ m : Nat, m ≤ n → Cg p (sm (fun k => ch (n + 1) k * (a : Int) ^ k) (m + 1)) 1 := by
      intro m
      induction m with
      | zero => intro _; show Cg p (0 + ch (n + 1) 0 * (a : Int) ^ 0) 1; rw [ch_zero]; simp [Cg]
      | succ m ihm =>
        intro hm
        have h1 := ihm (by omega)
        have h2 : Cg p (ch (n + 1) (m + 1) * (a : Int) ^ (m + 1)) 0 := cg_zero.2 (Int.dvd_mul_of_dvd_left (ch_dvd hp hn (by omega)))
        have := h1.add h2
        rwa [Int.add_zero] at this
    have h1 := key n (Nat.le_refl _)
    have h2 : Cg p (ch (n + 1) (n + 1) * (a : Int) ^ (n + 1)) a := by rw [ch_self, Int.one_mul]; exact ih
    have := h1.add h2
    rw [Int.add_comm 1 (a : Int)] at this
    exact this

theorem fermat {p : Int} (hp : Pr p) {a : Int} (ha : ¬ p ∣ a) : Cg p (a ^ (p - 1).toNat) 1 := by
  have h2 := hp.1
  have hn : (((p - 1).toNat : Nat) : Int) + 1 = p := by omega
  have h0 : 0 ≤ a % p := Int.emod_nonneg a (by omega)
  have e : ((a % p).toNat : Int) = a % p := Int.toNat_of_nonneg h0
  have h := fermat_nat hp hn (a % p).toNat
  rw [e] at h
  have hm := Cg.mod p a
  have h := ((hm.pow ((p - 1).toNat + 1)).symm.trans h).trans hm
  rw [Int.pow_succ, Int.mul_comm] at h
  have h' : Cg p (a * a ^ (p - 1).toNat) (a * 1) := by rw [Int.mul_one]; exact h
  exact h'.cancel hp ha

/-- The power p - 2 is the inverse. -/
theorem inverse_eq {p : Int} (hp : Pr p) {a : Int} (ha : ¬ p ∣ a) : Cg p (a * a ^ (p - 2).toNat) 1 := by
  have h2 := hp.1
  have := fermat hp ha
  rw [show (p - 1).toNat = (p - 2).toNat + 1 by omega, Int.pow_succ, Int.mul_comm] at this
  exact this

/-! ### Sums of powers -/

theorem geo (t : Int) : ∀ n : Nat, (t - 1) * sm (fun k => t ^ k) n = t ^ n - 1
  | 0 => by show (t - 1) * 0 = t ^ 0 - 1; simp
  | n + 1 => by
    have ih := geo t n
    have e : sm (fun k => t ^ k) (n + 1) = sm (fun k => t ^ k) n + t ^ n := rfl
    rw [e, Int.mul_add, ih, Int.pow_succ]
    grind

theorem geo_zero {p t : Int} (hp : Pr p) {n : Nat} (h1 : Cg p (t ^ n) 1) (h2 : ¬ Cg p t 1) : Cg p (sm (fun k => t ^ k) n) 0 := by
  have e := geo t n
  rw [cg_dvd] at h1
  rw [← e] at h1
  rw [cg_dvd] at h2
  exact cg_zero.2 ((pr_mul hp h1).resolve_left h2)

/-- w has the order n. -/
def Root (p w : Int) (n : Nat) : Prop := Cg p (w ^ n) 1 ∧ ∀ k : Nat, 0 < k → k < n → ¬ Cg p (w ^ k) 1

theorem pow_one_mul {p w : Int} {n : Nat} (h : Cg p (w ^ n) 1) (k : Nat) : Cg p (w ^ (n * k)) 1 := by
  rw [Int.pow_mul]
  have := h.pow k
  rwa [Int.one_pow] at this

theorem pow_modN {p w : Int} {n : Nat} (h : Cg p (w ^ n) 1) (k : Nat) : Cg p (w ^ (k % n)) (w ^ k) := by
  have e : k = k % n + n * (k / n) := (Nat.mod_add_div k n).symm
  have : Cg p (w ^ (k % n + n * (k / n))) (w ^ (k % n)) := by
    rw [Int.pow_add]
    have := (Cg.refl p (w ^ (k % n))).mul (pow_one_mul h (k / n))
    rwa [Int.mul_one] at this
  rw [← e] at this
  exact this.symm

/-- One number of the transform. -/
def dft (p w : Int) (x : Nat → Int) (n k : Nat) : Int := sm (fun j => x j * w ^ (j * k)) n % p

theorem root_unit {p w : Int} (hp : Pr p) {n : Nat} (hn : 0 < n) (h : Cg p (w ^ n) 1) : ¬ p ∣ w := by
  intro hd
  obtain ⟨m, rfl⟩ : ∃ m, n = m + 1 := ⟨n - 1, by omega⟩
  have h1 : Cg p (w ^ (m + 1)) 0 := cg_zero.2 (by rw [Int.pow_succ]; exact Int.dvd_mul_of_dvd_right hd)
  have h2 : Cg p 1 0 := h.symm.trans h1
  have := cg_zero.1 h2
  exact pr_small (p := p) (a := 1) (by omega) (by have := hp.1; omega) this

theorem there_back {p w v c : Int} (hp : Pr p) {n : Nat} (hr : Root p w n) (hv : Cg p (w * v) 1) (hc : Cg p ((n : Int) * c) 1) (x : Nat → Int) {i : Nat} (hi : i < n) : Cg p (dft p v (dft p w x n) n i * c) (x i) := by
  have hw := root_unit hp (by omega) hr.1
  have hwi : ∀ k : Nat, Cg p (w ^ k * v ^ k) 1 := fun k => by
    have := hv.pow k
    rw [Int.mul_pow, Int.one_pow] at this
    exact this
  have hvn : Cg p (v ^ n) 1 := by
    have h1 := hwi n
    have h2 := hr.1.mul (Cg.refl p (v ^ n))
    rw [Int.one_mul] at h2
    exact h2.symm.trans h1
  -- the sum over all, in the other order
  have e1 : Cg p (dft p v (dft p w x n) n i) (sm (fun k => sm (fun j => x j * w ^ (j * k)) n * v ^ (k * i)) n) := by
    unfold dft
    refine (Cg.mod p _).trans (Cg.sm n fun k hk => ?_)
    exact (Cg.mod p _).mul (Cg.refl p _)
  have e2 : sm (fun k => sm (fun j => x j * w ^ (j * k)) n * v ^ (k * i)) n = sm (fun j => x j * sm (fun k => (w ^ j * v ^ i) ^ k) n) n := by
    have a1 : ∀ k, k < n → sm (fun j => x j * w ^ (j * k)) n * v ^ (k * i) = sm (fun j => x j * (w ^ j * v ^ i) ^ k) n := by
      intro k _
      rw [Int.mul_comm, ← sm_mul]
      refine sm_congr n fun j _ => ?_
      rw [Int.mul_pow, ← Int.pow_mul, ← Int.pow_mul, Nat.mul_comm k i]
      generalize w ^ (j * k) = A
      generalize v ^ (i * k) = B
      grind
    rw [sm_congr n a1, sm_comm]
    refine sm_congr n fun j _ => ?_
    rw [← sm_mul]
  have e3 : Cg p (sm (fun j => x j * sm (fun k => (w ^ j * v ^ i) ^ k) n) n) (sm (fun j => if j = i then x i * n else 0) n) := by
    refine Cg.sm n fun j hj => ?_
    by_cases he : j = i
    · rw [if_pos he]
      subst he
      have h1 : Cg p (sm (fun k => (w ^ j * v ^ j) ^ k) n) (sm (fun _ => 1) n) := by
        refine Cg.sm n fun k _ => ?_
        have := (hwi j).pow k
        rwa [Int.one_pow] at this
      rw [sm_const, Int.mul_one] at h1
      exact (Cg.refl p _).mul h1
    · rw [if_neg he]
      have h1 : Cg p ((w ^ j * v ^ i) ^ n) 1 := by
        rw [Int.mul_pow, ← Int.pow_mul, ← Int.pow_mul, Nat.mul_comm j n, Nat.mul_comm i n]
        have := (pow_one_mul hr.1 j).mul (pow_one_mul hvn i)
        rwa [Int.mul_one] at this
      have h2 : ¬ Cg p (w ^ j * v ^ i) 1 := by
        intro ht
        have h3 : Cg p (w ^ j) (w ^ i) := by
          have a := ht.mul (Cg.refl p (w ^ i))
          have b := (Cg.refl p (w ^ j)).mul (hwi i)
          rw [Int.mul_one] at b
          rw [Int.one_mul] at a
          refine b.symm.trans (Cg.trans ?_ a)
          rw [Int.mul_assoc, Int.mul_comm (v ^ i) (w ^ i)]
          exact Cg.refl p _
        have hwk : ∀ k : Nat, ¬ p ∣ w ^ k := by
          intro k
          induction k with
          | zero => rw [Int.pow_zero]; exact pr_small (by omega) (by have := hp.1; omega)
          | succ k ih => rw [Int.pow_succ]; exact fun hd => (pr_mul hp hd).elim ih hw
        rcases (show j < i ∨ i < j by omega) with hlt | hlt
        · have e : i = j + (i - j) := by omega
          rw [e, Int.pow_add] at h3
          have h3 : Cg p (w ^ j * w ^ (i - j)) (w ^ j * 1) := by rw [Int.mul_one]; exact h3.symm
          exact hr.2 (i - j) (by omega) (by omega) (h3.cancel hp (hwk j))
        · have e : j = i + (j - i) := by omega
          rw [e, Int.pow_add] at h3
          have h3 : Cg p (w ^ i * w ^ (j - i)) (w ^ i * 1) := by rw [Int.mul_one]; exact h3
          exact hr.2 (j - i) (by omega) (by omega) (h3.cancel hp (hwk i))
      have h4 := (Cg.refl p (x j)).mul (geo_zero hp h1 h2)
      rwa [Int.mul_zero] at h4
  have e4 : sm (fun j => if j = i then x i * (n : Int) else 0) n = x i * n := by
    have key : ∀ m : Nat, sm (fun j => if j = i then x i * (n : Int) else 0) m = if i < m then x i * n else 0 := by
      intro m
      induction m with
      | zero => rw [if_neg (by omega)]; rfl
      | succ m ih =>
        have e : sm (fun j => if j = i then x i * (n : Int) else 0) (m + 1) = sm (fun j => if j = i then x i * (n : Int) else 0) m + (if m = i then x i * (n : Int) else 0) := rfl
        rw [e, ih]
        by_cases hm : m = i
        · subst hm; rw [if_neg (by omega), if_pos rfl, if_pos (by omega)]; omega
        · rw [if_neg hm]
          by_cases h : i < m
          · rw [if_pos h, if_pos (by omega)]; omega
          · rw [if_neg h, if_neg (by omega)]; rfl
    rw [key n, if_pos hi]
  rw [e4] at e3
  rw [e2] at e1
  have := (e1.trans e3).mul (Cg.refl p c)
  refine this.trans ?_
  rw [Int.mul_assoc]
  have := (Cg.refl p (x i)).mul hc
  rwa [Int.mul_one] at this

end Go.Eng.Pu
