/- Plain laws of the table of directions: each is the middle of its neighbours at its step; the squares of the unit numbers. Conditions: none. -/
import Derived.Test.YtdphhjibkjlmcaaP1
namespace Go.Eng.Lp
set_option linter.all false
set_option maxRecDepth 100000

def W (m : Nat) : NN := bif Nat.blt m 1024 then wayQ m else (0, 67108864)

theorem W_lt {m : Nat} (h : m < 1024) : W m = wayQ m := by
  have : Nat.blt m 1024 = true := by simpa using h
  simp [W, this]

theorem bis_left : ∀ (n lo p : Nat) (a b : NN), p = 2 ^ n → bis n lo (lo + p) a b lo = a
  | 0, lo, p, a, b, _ => rfl
  | n + 1, lo, p, a, b, h => by
    obtain ⟨q, rfl⟩ : ∃ q, p = 2 * q := ⟨2 ^ n, by rw [h, Nat.pow_succ]; omega⟩
    have hq : q = 2 ^ n := by rw [Nat.pow_succ] at h; omega
    have hpos : 0 < q := by rw [hq]; exact Nat.two_pow_pos n
    have e : (lo + (lo + 2 * q)) / 2 = lo + q := by omega
    have hb : Nat.blt lo (lo + q) = true := by simpa using hpos
    simp only [bis, e, hb, cond_true]
    exact bis_left n lo q a _ hq

/-- The interval of 2^n from lo on is a node of the tree. -/
def Nd (n lo : Nat) : Prop := (lo + 2 ^ n ≤ 1024 ∧ okTree n lo (lo + 2 ^ n) (W lo) (W (lo + 2 ^ n)) = true) ∧ ∀ m, lo ≤ m → m < lo + 2 ^ n → wayQ m = bis n lo (lo + 2 ^ n) (W lo) (W (lo + 2 ^ n)) m

theorem nd_root : Nd 10 0 := by
  have e1 : W 0 = (67108864, 0) := by
    rw [W_lt (by decide)]
    exact bis_left 10 0 1024 _ _ rfl
  have e2 : W (0 + 2 ^ 10) = (0, 67108864) := rfl
  refine ⟨⟨by decide, ?_⟩, fun m _ h => ?_⟩
  · rw [e1, e2]; exact tree_ok
  · rw [e1, e2]; rfl

theorem nd_step {n lo : Nat} (h : Nd (n + 1) lo) : Nd n lo ∧ Nd n (lo + 2 ^ n) ∧ W (lo + 2 ^ n) = cut lo (lo + 2 ^ (n + 1)) (W lo) (W (lo + 2 ^ (n + 1))) ∧ okMid (W lo) (W (lo + 2 ^ (n + 1))) = true := by
  obtain ⟨⟨h1, h0⟩, h2⟩ := h
  have hp : 2 ^ (n + 1) = 2 * 2 ^ n := by rw [Nat.pow_succ]; omega
  have hpos := Nat.two_pow_pos n
  rw [hp] at h0 h1 h2 ⊢
  generalize hq : 2 ^ n = q at *
  have e : (lo + (lo + 2 * q)) / 2 = lo + q := by omega
  have left : ∀ m, lo ≤ m → m < lo + q → wayQ m = bis n lo (lo + q) (W lo) (cut lo (lo + 2 * q) (W lo) (W (lo + 2 * q))) m := by
    intro m hm1 hm2
    rw [h2 m hm1 (by omega)]
    have hb : Nat.blt m (lo + q) = true := by simpa using hm2
    simp only [bis, e, hb, cond_true]
  have right : ∀ m, lo + q ≤ m → m < lo + 2 * q → wayQ m = bis n (lo + q) (lo + 2 * q) (cut lo (lo + 2 * q) (W lo) (W (lo + 2 * q))) (W (lo + 2 * q)) m := by
    intro m hm1 hm2
    rw [h2 m (by omega) hm2]
    have hb : Nat.blt m (lo + q) = false := by
      cases hc : Nat.blt m (lo + q) with
      | false => rfl
      | true => simp at hc; omega
    simp only [bis, e, hb, cond_false]
  have hw : W (lo + q) = cut lo (lo + 2 * q) (W lo) (W (lo + 2 * q)) := by
    rw [W_lt (by omega), right (lo + q) (Nat.le_refl _) (by omega)]
    have := bis_left n (lo + q) q (cut lo (lo + 2 * q) (W lo) (W (lo + 2 * q))) (W (lo + 2 * q)) hq.symm
    rw [show lo + 2 * q = lo + q + q by omega] at this ⊢
    exact this
  simp only [okTree, e, Bool.and_eq_true] at h0
  have e3 : lo + q + q = lo + 2 * q := by omega
  refine ⟨⟨⟨by omega, by rw [hq, hw]; exact h0.1.2⟩, fun m a b => ?_⟩, ⟨⟨by omega, by rw [hq, e3, hw]; exact h0.2⟩, fun m a b => ?_⟩, hw, h0.1.1⟩
  · rw [hq] at b ⊢; rw [hw]; exact left m a b
  · rw [hq] at b ⊢
    rw [show lo + q + q = lo + 2 * q by omega] at b ⊢
    rw [hw]; exact right m a b

theorem nd_all : ∀ d n k : Nat, d + n = 10 → k < 2 ^ d → Nd n (k * 2 ^ n)
  | 0, n, k, h1, h2 => by
    obtain rfl : n = 10 := by omega
    obtain rfl : k = 0 := by simpa using h2
    rw [Nat.zero_mul]; exact nd_root
  | d + 1, n, k, h1, h2 => by
    have hk : k / 2 < 2 ^ d := by rw [Nat.pow_succ] at h2; omega
    have ih := nd_step (nd_all d (n + 1) (k / 2) (by omega) hk)
    have hp : 2 ^ (n + 1) = 2 * 2 ^ n := by rw [Nat.pow_succ]; omega
    have e : k / 2 * 2 ^ (n + 1) = (2 * (k / 2)) * 2 ^ n := by rw [hp, ← Nat.mul_assoc, Nat.mul_comm (k / 2) 2]
    rw [e] at ih
    rcases Nat.mod_two_eq_zero_or_one k with hm | hm
    · have : 2 * (k / 2) = k := by omega
      rw [this] at ih
      exact ih.1
    · have : k = 2 * (k / 2) + 1 := by omega
      rw [this, Nat.add_mul, Nat.one_mul]
      have e2 : 2 * ((2 * (k / 2) + 1) / 2) = 2 * (k / 2) := by omega
      exact ih.2.1

/-- Each direction but the first ones is the middle of its neighbours at its step. -/
theorem W_mid {n k : Nat} (hn : n ≤ 8) (hk : k < 2 ^ (9 - n)) : W (k * 2 ^ (n + 1) + 2 ^ n) = mid (W (k * 2 ^ (n + 1))) (W (k * 2 ^ (n + 1) + 2 ^ (n + 1))) ∧ okMid (W (k * 2 ^ (n + 1))) (W (k * 2 ^ (n + 1) + 2 ^ (n + 1))) = true := by
  obtain ⟨h, hok⟩ := (nd_step (nd_all (9 - n) (n + 1) k (by omega) hk)).2.2
  refine ⟨?_, hok⟩
  rw [h]
  have hp : 2 ^ (n + 1) = 2 * 2 ^ n := by rw [Nat.pow_succ]; omega
  have hne : (k * 2 ^ (n + 1) + (k * 2 ^ (n + 1) + 2 ^ (n + 1))) / 2 ≠ 512 := by
    rw [show (k * 2 ^ (n + 1) + (k * 2 ^ (n + 1) + 2 ^ (n + 1))) / 2 = k * 2 ^ (n + 1) + 2 ^ n by rw [hp]; omega]
    match n, hn with
    | 0, _ => simp; omega
    | 1, _ => simp; omega
    | 2, _ => simp; omega
    | 3, _ => simp; omega
    | 4, _ => simp; omega
    | 5, _ => simp; omega
    | 6, _ => simp; omega
    | 7, _ => simp; omega
    | 8, _ => simp; omega
  have : Nat.beq ((k * 2 ^ (n + 1) + (k * 2 ^ (n + 1) + 2 ^ (n + 1))) / 2) 512 = false := by
    cases hc : Nat.beq ((k * 2 ^ (n + 1) + (k * 2 ^ (n + 1) + 2 ^ (n + 1))) / 2) 512 with
    | false => rfl
    | true => exact absurd (Nat.eq_of_beq_eq_true hc) hne
  simp only [cut, this, cond_false]

theorem W_512 : W 512 = (47453132, 47453132) := by
  have h := (nd_step nd_root).2.2.1
  have e : (0 : Nat) + 2 ^ 9 = 512 := rfl
  rw [e] at h
  rw [h]
  rfl

/-! ### The squares -/

/-- A whole number rounded to a 64th, and the test of one unit number. -/
def rd (x : Int) : Int := (2 * x + 64) / 128
def sqOk (r : Int) (x y : Int) : Bool := decide ((1048576 - r) * (1048576 - r) ≤ rd x * rd x + rd y * rd y) && decide (rd x * rd x + rd y * rd y ≤ (1048576 + r) * (1048576 + r))
def leafOk (r : Int) (a : NN) : Bool := sqOk r a.1 a.2 && sqOk r (-a.2) a.1 && sqOk r (-a.1) (-a.2) && sqOk r a.2 (-a.1)

def treeSq : Nat → Nat → Nat → NN → NN → Bool
  | 0, lo, _, a, _ => leafOk (bif Nat.beq lo 0 then 0 else 2) a
  | n + 1, lo, hi, a, b => treeSq n lo ((lo + hi) / 2) a (cut lo hi a b) && treeSq n ((lo + hi) / 2) hi (cut lo hi a b) b

theorem treeSq_ok : treeSq 10 0 1024 (67108864, 0) (0, 67108864) = true := by kernel_rfl

theorem treeSq_bis : ∀ (n lo p : Nat) (a b : NN) (m : Nat), p = 2 ^ n → lo ≤ m → m < lo + p → treeSq n lo (lo + p) a b = true → leafOk (bif Nat.beq m 0 then 0 else 2) (bis n lo (lo + p) a b m) = true
  | 0, lo, p, a, b, m, hp, h1, h2, h => by
    obtain rfl : m = lo := by simp at hp; omega
    exact h
  | n + 1, lo, p, a, b, m, hp, h1, h2, h => by
    obtain ⟨q, rfl⟩ : ∃ q, p = 2 * q := ⟨2 ^ n, by rw [hp, Nat.pow_succ]; omega⟩
    have hq : q = 2 ^ n := by rw [Nat.pow_succ] at hp; omega
    have e : (lo + (lo + 2 * q)) / 2 = lo + q := by omega
    simp only [treeSq, e, Bool.and_eq_true] at h
    simp only [bis, e]
    by_cases hm : m < lo + q
    · have hb : Nat.blt m (lo + q) = true := by simpa using hm
      rw [hb]
      exact treeSq_bis n lo q a _ m hq h1 hm h.1
    · have hb : Nat.blt m (lo + q) = false := by
        cases hc : Nat.blt m (lo + q) with
        | false => rfl
        | true => simp at hc; omega
      rw [hb]
      have h3 := h.2
      rw [show lo + 2 * q = lo + q + q by omega] at h3 ⊢
      exact treeSq_bis n (lo + q) q _ b m hq (by omega) (by omega) h3

theorem unit_sq (m : Int) : (1048576 - (unitI m).2.2.1) * (1048576 - (unitI m).2.2.1) ≤ (unitI m).1 * (unitI m).1 + (unitI m).2.1 * (unitI m).2.1 ∧
    (unitI m).1 * (unitI m).1 + (unitI m).2.1 * (unitI m).2.1 ≤ (1048576 + (unitI m).2.2.1) * (1048576 + (unitI m).2.2.1) := by
  have hq := treeSq_bis 10 0 1024 (67108864, 0) (0, 67108864) (m % 1024).toNat rfl (Nat.zero_le _) (by omega) treeSq_ok
  rw [Nat.zero_add] at hq
  have hr : (unitI m).2.2.1 = (bif Nat.beq (m % 1024).toNat 0 then (0 : Int) else 2) := by
    simp only [unitI]
    by_cases h : m % 1024 = 0
    · rw [if_pos h, h]; rfl
    · rw [if_neg h]
      have : Nat.beq (m % 1024).toNat 0 = false := by
        cases hc : Nat.beq (m % 1024).toNat 0 with
        | false => rfl
        | true => have := Nat.eq_of_beq_eq_true hc; omega
      rw [this]; rfl
  rw [hr]
  generalize (bif Nat.beq (m % 1024).toNat 0 then (0 : Int) else 2) = r at hq ⊢
  have h4 : (m % 4096 / 1024).toNat = 0 ∨ (m % 4096 / 1024).toNat = 1 ∨ (m % 4096 / 1024).toNat = 2 ∨ (m % 4096 / 1024).toNat = 3 := by omega
  change leafOk r (wayQ (m % 1024).toNat) = true at hq
  simp only [unitI, wayI]
  generalize wayQ (m % 1024).toNat = a at hq ⊢
  simp only [leafOk, sqOk, rd, Bool.and_eq_true] at hq
  obtain ⟨⟨⟨q1, q2⟩, q3⟩, q4⟩ := hq
  rcases h4 with h | h | h | h <;> rw [h] <;> simp only [turn, Int.neg_neg]
  · exact ⟨of_decide_eq_true q1.1, of_decide_eq_true q1.2⟩
  · exact ⟨of_decide_eq_true q2.1, of_decide_eq_true q2.2⟩
  · exact ⟨of_decide_eq_true q3.1, of_decide_eq_true q3.2⟩
  · exact ⟨of_decide_eq_true q4.1, of_decide_eq_true q4.2⟩

end Go.Eng.Lp
