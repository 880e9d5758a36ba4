/- Plain laws of the directions of chapter 8: the root, the middle of two directions, the direction and the unit number of a number. Conditions: none. -/
import GoSem.Core.Float
import Derived.Laws.FloatArith
import Derived.KernelRfl
namespace Go.Eng.Lp

/-- The root by bits, from bit number k - 1 down. -/
def rtGo : Nat → Nat → Nat → Nat
  | 0, r, _ => r
  | k + 1, r, n => bif Nat.ble ((r + 2 ^ k) * (r + 2 ^ k)) n then rtGo k (r + 2 ^ k) n else rtGo k r n

def rt (n : Nat) : Nat := rtGo 31 0 n

theorem rtGo_spec : ∀ (k r n : Nat), r * r ≤ n → n < (r + 2 ^ k) * (r + 2 ^ k) → rtGo k r n * rtGo k r n ≤ n ∧ n < (rtGo k r n + 1) * (rtGo k r n + 1)
  | 0, r, n, h1, h2 => ⟨h1, by simpa [rtGo] using h2⟩
  | k + 1, r, n, h1, h2 => by
    simp only [rtGo]
    cases hb : Nat.ble ((r + 2 ^ k) * (r + 2 ^ k)) n with
    | true =>
      have := Nat.le_of_ble_eq_true hb
      refine rtGo_spec k _ n this ?_
      rw [show r + 2 ^ k + 2 ^ k = r + 2 ^ (k + 1) by rw [Nat.pow_succ]; omega]
      exact h2
    | false =>
      refine rtGo_spec k r n h1 ?_
      rcases Nat.lt_or_ge n ((r + 2 ^ k) * (r + 2 ^ k)) with h | h
      · exact h
      · rw [Nat.ble_eq_true_of_le h] at hb; cases hb

theorem rt_spec {n : Nat} (h : n < 2 ^ 62) : rt n * rt n ≤ n ∧ n < (rt n + 1) * (rt n + 1) := rtGo_spec 31 0 n (by omega) (by simpa using h)

theorem sq_uniq {n a b : Nat} (h1 : a * a ≤ n) (h2 : n < (a + 1) * (a + 1)) (h3 : b * b ≤ n) (h4 : n < (b + 1) * (b + 1)) : a = b := by
  rcases Nat.lt_trichotomy a b with h | h | h
  · have := Nat.mul_le_mul (show a + 1 ≤ b by omega) (show a + 1 ≤ b by omega); omega
  · exact h
  · have := Nat.mul_le_mul (show b + 1 ≤ a by omega) (show b + 1 ≤ a by omega); omega

/-- What the float root gives as a whole number. -/
def fr (n : Nat) : Option Int :=
  match FloatKind.f64.format.sqrt (floatOfInt .f64 n) with
  | some r => floatToIntVal .f64 r .i64
  | none => none

def okRoot (n : Nat) : Bool := match fr n with
  | some (.ofNat k) => Nat.beq k (rt n) && Nat.ble k 1073741824 && Nat.ble 1 k && Nat.ble n 288230376151711744
  | _ => false

abbrev NN := Nat × Nat

def mid (a b : NN) : NN :=
  let x := a.1 + b.1
  let y := a.2 + b.2
  let r := rt (x * x + y * y)
  ((2 * (x * 67108864) + r) / (2 * r), (2 * (y * 67108864) + r) / (2 * r))

def okMid (a b : NN) : Bool := Nat.ble a.1 67108864 && Nat.ble a.2 67108864 && Nat.ble b.1 67108864 && Nat.ble b.2 67108864 && okRoot ((a.1 + b.1) * (a.1 + b.1) + (a.2 + b.2) * (a.2 + b.2))

def cut (lo hi : Nat) (a b : NN) : NN := bif Nat.beq ((lo + hi) / 2) 512 then (47453132, 47453132) else mid a b

/-- All directions between two others may be reckoned. -/
def okTree : Nat → Nat → Nat → NN → NN → Bool
  | 0, _, _, a, b => Nat.ble a.1 67108864 && Nat.ble a.2 67108864 && Nat.ble b.1 67108864 && Nat.ble b.2 67108864
  | n + 1, lo, hi, a, b => okMid a b && okTree n lo ((lo + hi) / 2) a (cut lo hi a b) && okTree n ((lo + hi) / 2) hi (cut lo hi a b) b

def bis : Nat → Nat → Nat → NN → NN → Nat → NN
  | 0, _, _, a, _, _ => a
  | n + 1, lo, hi, a, b, at_ => bif Nat.blt at_ ((lo + hi) / 2) then bis n lo ((lo + hi) / 2) a (cut lo hi a b) at_ else bis n ((lo + hi) / 2) hi (cut lo hi a b) b at_

def wayQ (at_ : Nat) : NN := bis 10 0 1024 (67108864, 0) (0, 67108864) at_

set_option maxRecDepth 100000 in
theorem tree_ok : okTree 10 0 1024 (67108864, 0) (0, 67108864) = true := by kernel_rfl

theorem okTree_bis : ∀ (n lo hi : Nat) (a b : NN) (at_ : Nat), okTree n lo hi a b = true → (bis n lo hi a b at_).1 ≤ 67108864 ∧ (bis n lo hi a b at_).2 ≤ 67108864
  | 0, lo, hi, a, b, at_, h => by
    simp only [okTree, Bool.and_eq_true] at h
    obtain ⟨⟨⟨h1, h2⟩, h3⟩, h4⟩ := h
    exact ⟨Nat.le_of_ble_eq_true h1, Nat.le_of_ble_eq_true h2⟩
  | n + 1, lo, hi, a, b, at_, h => by
    simp only [okTree, Bool.and_eq_true] at h
    obtain ⟨⟨h1, h2⟩, h3⟩ := h
    simp only [bis]
    cases Nat.blt at_ ((lo + hi) / 2) with
    | true => exact okTree_bis n _ _ _ _ _ h2
    | false => exact okTree_bis n _ _ _ _ _ h3

theorem wayQ_le (n : Nat) : (wayQ n).1 ≤ 67108864 ∧ (wayQ n).2 ≤ 67108864 := okTree_bis _ _ _ _ _ _ tree_ok

def turn : Nat → Int → Int → Int × Int
  | 0, x, y => (x, y)
  | n + 1, x, y => turn n (-y) x

theorem turn_le (B : Int) : ∀ (n : Nat) (x y : Int), -B ≤ x → x ≤ B → -B ≤ y → y ≤ B → -B ≤ (turn n x y).1 ∧ (turn n x y).1 ≤ B ∧ -B ≤ (turn n x y).2 ∧ (turn n x y).2 ≤ B
  | 0, x, y, h1, h2, h3, h4 => ⟨h1, h2, h3, h4⟩
  | n + 1, x, y, h1, h2, h3, h4 => turn_le B n (-y) x (by omega) (by omega) h1 h2

def wayI (m : Int) : Int × Int := turn (m % 4096 / 1024).toNat (wayQ (m % 1024).toNat).1 (wayQ (m % 1024).toNat).2

theorem wayI_le (m : Int) : -67108864 ≤ (wayI m).1 ∧ (wayI m).1 ≤ 67108864 ∧ -67108864 ≤ (wayI m).2 ∧ (wayI m).2 ≤ 67108864 := by
  have := wayQ_le (m % 1024).toNat
  exact turn_le 67108864 _ _ _ (by omega) (by omega) (by omega) (by omega)

abbrev III := Int × Int × Int × Unit

def unitI (m : Int) : III := ((2 * (wayI m).1 + 64) / 128, (2 * (wayI m).2 + 64) / 128, if m % 1024 = 0 then 0 else 2, ())

theorem unitI_le (m : Int) : -1048576 ≤ (unitI m).1 ∧ (unitI m).1 ≤ 1048576 ∧ -1048576 ≤ (unitI m).2.1 ∧ (unitI m).2.1 ≤ 1048576 ∧ 0 ≤ (unitI m).2.2.1 ∧ (unitI m).2.2.1 ≤ 2 := by
  have := wayI_le m
  simp only [unitI]
  refine ⟨by omega, by omega, by omega, by omega, ?_, ?_⟩ <;> split <;> omega

theorem wayI_mod (m : Int) : wayI (m % 4096) = wayI m := by
  have h1 : m % 4096 % 4096 = m % 4096 := by omega
  have h2 : m % 4096 % 1024 = m % 1024 := by omega
  simp only [wayI, h1, h2]

theorem unitI_mod (m : Int) : unitI (m % 4096) = unitI m := by
  have h2 : m % 4096 % 1024 = m % 1024 := by omega
  simp only [unitI, wayI_mod, h2]

end Go.Eng.Lp
