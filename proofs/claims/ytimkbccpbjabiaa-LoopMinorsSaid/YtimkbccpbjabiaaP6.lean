/- Plain laws: a matrix with no number above 0 outside its diagonal: weights that prove, pivots above 0, and sums above 0 go together. Conditions: none beyond each lemma's own. -/
import Derived.Test.YtimkbccpbjabiaaP4
namespace Go.Eng.Lp
set_option linter.all false
set_option maxRecDepth 100000

abbrev Mat := Nat → Nat → Int

theorem sm_head (f : Nat → Int) : ∀ n, sm f (n + 1) = f 0 + sm (fun i => f (i + 1)) n
  | 0 => by simp [sm]
  | n + 1 => by
    have h := sm_head f n
    simp only [sm] at h ⊢
    omega

theorem sm_comb (f g h : Nat → Int) (a b : Int) : ∀ n, (∀ i, i < n → h i = a * f i - b * g i) → sm h n = a * sm f n - b * sm g n
  | 0, _ => by simp [sm]
  | n + 1, e => by
    simp only [sm]
    rw [sm_comb f g h a b n (fun i hi => e i (by omega)), e n (by omega), Int.mul_add, Int.mul_add]
    omega

theorem sm_neg {f : Nat → Int} : ∀ n, (∀ i, i < n → f i ≤ 0) → sm f n ≤ 0
  | 0, _ => by simp [sm]
  | n + 1, h => by
    have a := sm_neg n (fun i hi => h i (by omega))
    have b := h n (by omega)
    simp only [sm]; omega

/-- The sum of a row times weights. -/
def rowS (M : Mat) (w : Nat → Int) (n i : Nat) : Int := sm (fun j => M i j * w j) n
/-- A matrix with its first row and column eliminated. -/
def cond (M : Mat) : Mat := fun i j => M 0 0 * M (i + 1) (j + 1) - M (i + 1) 0 * M 0 (j + 1)
def isZ (M : Mat) (n : Nat) : Prop := ∀ i j, i < n → j < n → i ≠ j → M i j ≤ 0
/-- All pivots are above 0. -/
def good : Nat → Mat → Prop
  | 0, _ => True
  | n + 1, M => 0 < M 0 0 ∧ good n (cond M)

theorem cond_Z {M : Mat} {n : Nat} (h : isZ M (n + 1)) (h0 : 0 ≤ M 0 0) : isZ (cond M) n := by
  intro i j hi hj hij
  have a := h (i + 1) (j + 1) (by omega) (by omega) (by omega)
  have b := h (i + 1) 0 (by omega) (by omega) (by omega)
  have c := h 0 (j + 1) (by omega) (by omega) (by omega)
  have p := Int.mul_nonpos_of_nonneg_of_nonpos h0 a
  have q := Int.mul_nonneg_of_nonpos_of_nonpos b c
  simp only [cond]; omega

theorem cond_row {M : Mat} {w : Nat → Int} {n i : Nat} : rowS (cond M) (fun j => w (j + 1)) n i = M 0 0 * rowS M w (n + 1) (i + 1) - M (i + 1) 0 * rowS M w (n + 1) 0 := by
  simp only [rowS]
  rw [sm_head, sm_head]
  rw [sm_comb (fun j => M (i + 1) (j + 1) * w (j + 1)) (fun j => M 0 (j + 1) * w (j + 1)) (fun j => cond M i j * w (j + 1)) (M 0 0) (M (i + 1) 0) n (fun j _ => by
    simp only [cond]; rw [Int.sub_mul, Int.mul_assoc, Int.mul_assoc])]
  rw [Int.mul_add, Int.mul_add]
  have : M 0 0 * (M (i + 1) 0 * w 0) = M (i + 1) 0 * (M 0 0 * w 0) := Int.mul_left_comm _ _ _
  omega

theorem cond_pos {M : Mat} {w : Nat → Int} {n : Nat} (hZ : isZ M (n + 1)) (h0 : 0 < M 0 0) (hS : ∀ i, i < n + 1 → 0 < rowS M w (n + 1) i) : ∀ i, i < n → 0 < rowS (cond M) (fun j => w (j + 1)) n i := by
  intro i hi
  rw [cond_row]
  have a := Int.mul_pos h0 (hS (i + 1) (by omega))
  have b := hZ (i + 1) 0 (by omega) (by omega) (by omega)
  have c := Int.mul_nonpos_of_nonpos_of_nonneg b (Int.le_of_lt (hS 0 (by omega)))
  omega

theorem pos_of_mul {a w : Int} (hw : 0 < w) (h : 0 < a * w) : 0 < a := by
  rcases Int.lt_or_le 0 a with h1 | h1
  · exact h1
  · have := Int.mul_nonpos_of_nonpos_of_nonneg h1 (Int.le_of_lt hw); omega
theorem pos_of_mul' {a w : Int} (ha : 0 < a) (h : 0 < a * w) : 0 < w := pos_of_mul ha (by rw [Int.mul_comm]; exact h)

theorem first_le {M : Mat} {w : Nat → Int} {n : Nat} (hZ : isZ M (n + 1)) (hw : ∀ i, i < n → 0 < w (i + 1)) : rowS M w (n + 1) 0 ≤ M 0 0 * w 0 := by
  simp only [rowS]
  rw [sm_head]
  have := sm_neg (f := fun i => M 0 (i + 1) * w (i + 1)) n (fun i hi => Int.mul_nonpos_of_nonpos_of_nonneg (hZ 0 (i + 1) (by omega) (by omega) (by omega)) (Int.le_of_lt (hw i hi)))
  omega

/-- Weights that prove make all pivots positive. -/
theorem good_of_weights : ∀ (n : Nat) (M : Mat) (w : Nat → Int), isZ M n → (∀ i, i < n → 0 < w i) → (∀ i, i < n → 0 < rowS M w n i) → good n M
  | 0, _, _, _, _, _ => trivial
  | n + 1, M, w, hZ, hw, hS => by
    have h0 : 0 < M 0 0 := pos_of_mul (hw 0 (by omega)) (Int.lt_of_lt_of_le (hS 0 (by omega)) (first_le hZ fun i hi => hw (i + 1) (by omega)))
    exact ⟨h0, good_of_weights n (cond M) (fun j => w (j + 1)) (cond_Z hZ (Int.le_of_lt h0)) (fun i hi => hw (i + 1) (by omega)) (cond_pos hZ h0 hS)⟩

/-- Where all pivots are positive, positive sums are of positive numbers. -/
theorem pos_of_good : ∀ (n : Nat) (M : Mat) (x : Nat → Int), isZ M n → good n M → (∀ i, i < n → 0 < rowS M x n i) → ∀ i, i < n → 0 < x i
  | 0, _, _, _, _, _ => fun i hi => by omega
  | n + 1, M, x, hZ, hg, hS => by
    have h0 := hg.1
    have ih := pos_of_good n (cond M) (fun j => x (j + 1)) (cond_Z hZ (Int.le_of_lt h0)) hg.2 (cond_pos hZ h0 hS)
    intro i hi
    cases i with
    | zero => exact pos_of_mul' h0 (Int.lt_of_lt_of_le (hS 0 (by omega)) (first_le hZ ih))
    | succ i => exact ih i (by omega)

/-! ### Determinants of at most 4 rows, by the first row -/

def d1 (M : Mat) : Int := M 0 0
def d2 (M : Mat) : Int := M 0 0 * M 1 1 - M 0 1 * M 1 0
def d3 (M : Mat) : Int := M 0 0 * (M 1 1 * M 2 2 - M 1 2 * M 2 1) - M 0 1 * (M 1 0 * M 2 2 - M 1 2 * M 2 0) + M 0 2 * (M 1 0 * M 2 1 - M 1 1 * M 2 0)
def m3 (a b c d e f g h i : Int) : Int := a * (e * i - f * h) - b * (d * i - f * g) + c * (d * h - e * g)
def d4 (M : Mat) : Int := M 0 0 * m3 (M 1 1) (M 1 2) (M 1 3) (M 2 1) (M 2 2) (M 2 3) (M 3 1) (M 3 2) (M 3 3) - M 0 1 * m3 (M 1 0) (M 1 2) (M 1 3) (M 2 0) (M 2 2) (M 2 3) (M 3 0) (M 3 2) (M 3 3)
  + M 0 2 * m3 (M 1 0) (M 1 1) (M 1 3) (M 2 0) (M 2 1) (M 2 3) (M 3 0) (M 3 1) (M 3 3) - M 0 3 * m3 (M 1 0) (M 1 1) (M 1 2) (M 2 0) (M 2 1) (M 2 2) (M 3 0) (M 3 1) (M 3 2)

theorem d1_cond (M : Mat) : d1 (cond M) = d2 M := by simp only [d1, d2, cond]; grind
theorem d2_cond (M : Mat) : d2 (cond M) = M 0 0 * d3 M := by simp only [d2, d3, cond]; grind
theorem d3_cond (M : Mat) : d3 (cond M) = M 0 0 * (M 0 0 * d4 M) := by simp only [d3, d4, m3, cond]; grind

def dets : Nat → Mat → Prop
  | 0, _ => True
  | 1, M => 0 < d1 M
  | 2, M => 0 < d1 M ∧ 0 < d2 M
  | 3, M => 0 < d1 M ∧ 0 < d2 M ∧ 0 < d3 M
  | _, M => 0 < d1 M ∧ 0 < d2 M ∧ 0 < d3 M ∧ 0 < d4 M

theorem good_dets (n : Nat) (hn : n ≤ 4) (M : Mat) : good n M ↔ dets n M := by
  have g1 : ∀ M, good 1 M ↔ dets 1 M := fun M => by simp [good, dets, d1]
  have g2 : ∀ M, good 2 M ↔ dets 2 M := fun M => by
    show (0 < M 0 0 ∧ good 1 (cond M)) ↔ _
    rw [g1]
    simp only [dets, d1_cond]; simp only [d1]
  have step : ∀ a b : Int, 0 < a → (0 < a * b ↔ 0 < b) := fun a b h => ⟨fun h2 => pos_of_mul' h h2, fun h2 => Int.mul_pos h h2⟩
  have g3 : ∀ M, good 3 M ↔ dets 3 M := fun M => by
    show (0 < M 0 0 ∧ good 2 (cond M)) ↔ _
    rw [g2]
    simp only [dets, d1_cond, d2_cond]
    constructor
    · rintro ⟨h0, h1, h2⟩; exact ⟨h0, h1, (step _ _ h0).1 h2⟩
    · rintro ⟨h0, h1, h2⟩; exact ⟨h0, h1, (step _ _ h0).2 h2⟩
  match n, hn with
  | 0, _ => simp [good, dets]
  | 1, _ => exact g1 M
  | 2, _ => exact g2 M
  | 3, _ => exact g3 M
  | 4, _ =>
    show (0 < M 0 0 ∧ good 3 (cond M)) ↔ _
    rw [g3]
    simp only [dets, d1_cond, d2_cond, d3_cond]
    constructor
    · rintro ⟨h0, h1, h2, h3⟩; exact ⟨h0, h1, (step _ _ h0).1 h2, (step _ _ h0).1 ((step _ _ h0).1 h3)⟩
    · rintro ⟨h0, h1, h2, h3⟩; exact ⟨h0, h1, (step _ _ h0).2 h2, (step _ _ h0).2 ((step _ _ h0).2 h3)⟩

end Go.Eng.Lp
