/- Floats of both kinds: order, whole parts, conversions. Plain laws. -/
import Derived.Test.YtcoimlnplaidiaaDoorQ40
namespace Go.Eng.Pu
open Go Go.Eng Ieee
set_option linter.all false
set_option maxRecDepth 100000
set_option maxHeartbeats 8000000

theorem fmt_exp (k : FloatKind) : 2 ≤ k.format.exponentBits := by cases k <;> decide
theorem fmt_lp (k : FloatKind) : k.format.leastPlace ≤ 0 := by cases k <;> decide
theorem fmt_lp2 (k : FloatKind) : 3 ≤ k.format.leastPlace + 2 ^ k.format.exponentBits := by cases k <;> decide

/-- Is it a number; the number, scaled; its whole part; is it whole. -/
def fN (k : FloatKind) (x : Nat) : Bool := isN (k.format.read x)
def fV (k : FloatKind) (x : Nat) : Int := dv k.format (k.format.read x)
def fS (k : FloatKind) : Int := ((2 ^ scF k.format : Nat) : Int)
def fT (k : FloatKind) (x : Nat) : Int := (fV k x).tdiv (fS k)
def fWh (k : FloatKind) (x : Nat) : Bool := decide (fT k x * fS k = fV k x)

theorem fS_pos (k : FloatKind) : 0 < fS k := by
  have := Nat.two_pow_pos (scF k.format)
  unfold fS; omega

theorem fN_ex {k : FloatKind} {x : Nat} (h : fN k x = true) : ∃ s m i, k.format.read x = .number s m i := isN_ex h

theorem order_eq {k : FloatKind} {x y : Nat} (hx : fN k x = true) (hy : fN k y = true) : k.format.order x y = some (compare (fV k x) (fV k y)) := by
  obtain ⟨s, m, i, e1⟩ := fN_ex hx
  obtain ⟨t, n, j, e2⟩ := fN_ex hy
  exact order_num k.format e1 e2 (fmt_exp k)

theorem cmp_lt {k : FloatKind} {x y : Nat} (hx : fN k x = true) (hy : fN k y = true) : (k.format.order x y == some .lt) = decide (fV k x < fV k y) := by
  rw [order_eq hx hy]
  simp only [compare, compareOfLessAndEq]
  by_cases h : fV k x < fV k y
  · simp [h]
  · rw [if_neg h]; split <;> simp [h]
theorem cmp_eq {k : FloatKind} {x y : Nat} (hx : fN k x = true) (hy : fN k y = true) : (k.format.order x y == some .eq) = decide (fV k x = fV k y) := by
  rw [order_eq hx hy]
  simp only [compare, compareOfLessAndEq]
  by_cases h : fV k x < fV k y
  · rw [if_pos h]; simp; omega
  · rw [if_neg h]; split <;> rename_i h2 <;> simp [h2]
theorem cmp_gt {k : FloatKind} {x y : Nat} (hx : fN k x = true) (hy : fN k y = true) : (k.format.order x y == some .gt) = decide (fV k y < fV k x) := by
  rw [order_eq hx hy]
  simp only [compare, compareOfLessAndEq]
  by_cases h : fV k x < fV k y
  · rw [if_pos h]; simp; omega
  · rw [if_neg h]; split <;> rename_i h2 <;> simp <;> omega

theorem order_nan {k : FloatKind} {x : Nat} {s : Bool} {f : Nat} (h : k.format.read x = .nan s f) (y : Nat) : k.format.order x y = none ∧ k.format.order y x = none := by
  unfold Format.order
  rw [h]
  refine ⟨rfl, ?_⟩
  cases k.format.read y <;> rfl

theorem read_nan {k : FloatKind} {n : Nat} (h : NaNb k n) : ∃ s f, k.format.read n = .nan s f := by
  cases k
  · obtain ⟨h1, h2⟩ := h
    have e1 : FloatKind.f32.format.signWeight = 2147483648 := by decide
    have e2 : FloatKind.f32.format.infRung = 2139095040 := by decide
    have e3 : FloatKind.f32.format.binade = 8388608 := by decide
    unfold Format.read
    simp only [e1, e2, e3]
    rw [if_neg (by omega), if_neg (by omega), if_neg (by omega)]
    exact ⟨_, _, rfl⟩
  · obtain ⟨h1, h2⟩ := h
    have e1 : FloatKind.f64.format.signWeight = 9223372036854775808 := by decide
    have e2 : FloatKind.f64.format.infRung = 9218868437227405312 := by decide
    have e3 : FloatKind.f64.format.binade = 4503599627370496 := by decide
    unfold Format.read
    simp only [e1, e2, e3]
    rw [if_neg (by omega), if_neg (by omega), if_neg (by omega)]
    exact ⟨_, _, rfl⟩

theorem order_inf {k : FloatKind} {x : Nat} {s : Bool} (h : k.format.read x = .infinity s) : k.format.order x x = some .eq ∧ k.format.sub x x = none := by
  unfold Format.order Format.sub
  rw [h]
  cases s <;> exact ⟨rfl, rfl⟩

theorem sub_num {k : FloatKind} {x : Nat} (h : fN k x = true) : k.format.sub x x = some 0 := by
  obtain ⟨s, m, i, e⟩ := fN_ex h
  unfold Format.sub
  rw [e]
  simp only [Datum.opposite, Datum.sum, Option.map_some]
  have e0 : signed s m (i - min i i).toNat + signed (!s) m (i - min i i).toNat = 0 := by
    unfold signed
    cases s <;> simp <;> omega
  rw [e0]
  cases s <;> simp [Format.write, Format.nearest, Format.word]

theorem sg_abs (s : Bool) (a : Nat) : (sg s a).natAbs = a := by
  unfold sg; cases s <;> simp

theorem sg_neg (s : Bool) (a : Nat) (b : Nat) : sg (decide (sg s a < 0)) (a * b) = sg s a * b := by
  unfold sg
  cases s
  · simp only [Bool.false_eq_true, if_false]
    rw [if_neg (by simp), Int.natCast_mul]
  · simp only [if_true]
    by_cases h : a = 0
    · subst h; simp
    · rw [if_pos (by simp; omega), Int.natCast_mul, Int.neg_mul]

/-- The whole part of a number, written again. -/
theorem foi_fT {k : FloatKind} {x : Nat} (h : fN k x = true) : fN k (floatOfInt k (fT k x)) = true ∧ fV k (floatOfInt k (fT k x)) = fT k x * fS k := by
  obtain ⟨s, m, i, e⟩ := fN_ex h
  have hi := (read_log k.format x (fmt_exp k) e).1
  have ht : fT k x = sg s (tru k.format m i) := by
    unfold fT fV fS
    rw [e]
    exact (tru_dv k.format (fmt_lp k) hi).symm
  obtain ⟨q, l, g1, g2, g3⟩ := write_whole k.format (fmt_exp k) (fmt_lp k) (fmt_lp2 k) e (decide (fT k x < 0))
  have hw : floatOfInt k (fT k x) = k.format.nearest (decide (fT k x < 0)) (tru k.format m i) 0 := by
    show k.format.nearest (decide (fT k x < 0)) (fT k x).natAbs 0 = _
    rw [show (fT k x).natAbs = tru k.format m i by rw [ht, sg_abs]]
  rw [hw]
  unfold fN fV
  rw [g1]
  refine ⟨rfl, ?_⟩
  show signed _ q (l - k.format.leastPlace).toNat = _
  rw [signed_sg, g3, ht]
  exact sg_neg _ _ _

theorem f2i_fT {k : FloatKind} {x : Nat} (h : fN k x = true) (h1 : -9223372036854775808 ≤ fT k x) (h2 : fT k x ≤ 9223372036854775807) : floatToIntVal k x .i64 = some (fT k x) := by
  obtain ⟨s, m, i, e⟩ := fN_ex h
  have hi := (read_log k.format x (fmt_exp k) e).1
  have ht : fT k x = sg s (tru k.format m i) := by
    unfold fT fV fS
    rw [e]
    exact (tru_dv k.format (fmt_lp k) hi).symm
  unfold floatToIntVal
  show (match (k.format.read x).toInt .zero with | some n => if IntKind.i64.min ≤ n ∧ n ≤ IntKind.i64.max then some n else none | none => none) = _
  rw [e, toInt_num k.format]
  simp only []
  rw [← ht, if_pos ⟨h1, h2⟩]

/-! ### A float32 as a float64 -/

theorem wid_num {x : Nat} (h : fN .f32 x = true) : ∃ y, f2f .f32 x .f64 = some y ∧ fN .f64 y = true ∧ fV .f64 y = fV .f32 x * 2 ^ 925 := by
  obtain ⟨s, m, i, e⟩ := fN_ex h
  obtain ⟨h1, h2, h3⟩ := read_log FloatKind.f32.format x (fmt_exp .f32) e
  have l32 : FloatKind.f32.format.leastPlace = -149 := by decide
  have l64 : FloatKind.f64.format.leastPlace = -1074 := by decide
  have b32 : FloatKind.f32.format.fractionBits = 23 := by decide
  have b64 : FloatKind.f64.format.fractionBits = 52 := by decide
  have e32 : FloatKind.f32.format.exponentBits = 8 := by decide
  have e64 : FloatKind.f64.format.exponentBits = 11 := by decide
  have key : ∃ q l, FloatKind.f64.format.read (FloatKind.f64.format.nearest s m i) = .number s q l ∧ -1074 ≤ l ∧ q * 2 ^ (l + 1074).toNat = m * 2 ^ (i + 1074).toNat := by
    by_cases hm : m = 0
    · rw [hm]
      refine ⟨0, -1074, ?_, Int.le_refl _, by simp⟩
      unfold Format.nearest
      rw [if_pos rfl]
      cases s <;> decide
    · obtain ⟨h4, h5⟩ := h3 hm
      rw [b32, l32, e32] at h5
      rw [b32] at h4
      obtain ⟨q, l, g1, g2, g3, g4⟩ := nearest_read FloatKind.f64.format s m 0 i (fmt_exp .f64) hm (by rw [b64]; omega) (by rw [l64]; omega) (by rw [l64, b64, e64]; omega)
      rw [Nat.pow_zero, Nat.mul_one] at g1
      rw [l64] at g2
      refine ⟨q, l, g1, g2, ?_⟩
      rw [g4, Nat.mul_assoc, ← Nat.pow_add]
      congr 2; omega
  obtain ⟨q, l, g1, g2, g3⟩ := key
  refine ⟨FloatKind.f64.format.nearest s m i, ?_, ?_, ?_⟩
  · unfold f2f
    rw [if_neg (by decide)]
    show (match FloatKind.f32.format.read x with
      | .nan _ _ => none
      | .infinity s => some (FloatKind.f64.encode (.infinity s))
      | .number s m e => if (FloatKind.f64.decode (FloatKind.f64.encode (.number s m e))).isInfinity then none else some (FloatKind.f64.encode (.number s m e))) = _
    rw [e]
    simp only []
    have hd : FloatKind.f64.decode (FloatKind.f64.encode (.number s m i)) = .number s q l := g1
    rw [hd]
    rfl
  · unfold fN; rw [g1]; rfl
  · unfold fV
    rw [g1, e]
    show signed s q (l - FloatKind.f64.format.leastPlace).toNat = signed s m (i - FloatKind.f32.format.leastPlace).toNat * 2 ^ 925
    rw [l64, l32, signed_sg, show (l - -1074).toNat = (l + 1074).toNat by omega, g3, ← signed_sg, ← signed_add]
    congr 1; omega

theorem wid_inf {x : Nat} {s : Bool} (h : FloatKind.f32.format.read x = .infinity s) : ∃ y, f2f .f32 x .f64 = some y ∧ FloatKind.f64.format.read y = .infinity s := by
  refine ⟨FloatKind.f64.encode (.infinity s), ?_, ?_⟩
  · unfold f2f
    rw [if_neg (by decide)]
    show (match FloatKind.f32.format.read x with
      | .nan _ _ => none
      | .infinity s => some (FloatKind.f64.encode (.infinity s))
      | .number s m e => if (FloatKind.f64.decode (FloatKind.f64.encode (.number s m e))).isInfinity then none else some (FloatKind.f64.encode (.number s m e))) = _
    rw [h]
  · cases s <;> decide

theorem wid_nan {x : Nat} {s : Bool} {f : Nat} (h : FloatKind.f32.format.read x = .nan s f) : f2f .f32 x .f64 = none := by
  unfold f2f
  rw [if_neg (by decide)]
  show (match FloatKind.f32.format.read x with
      | .nan _ _ => none
      | .infinity s => some (FloatKind.f64.encode (.infinity s))
      | .number s m e => if (FloatKind.f64.decode (FloatKind.f64.encode (.number s m e))).isInfinity then none else some (FloatKind.f64.encode (.number s m e))) = _
  rw [h]

end Go.Eng.Pu
