/- Floats in plain terms: what a word of a format stands for, exact numbers, order, whole numbers. Plain laws. Floats of both kinds: order, whole parts, conversions. Plain laws. The frame for walks with floats that may be NaNs, and equality of fields. Conditions: each contract's own. Contracts of the least functions: bounds, rounding, errors. Conditions: each contract's own. Contracts: the error of a part, whole floats, the error of a list, for any raw numbers. Conditions: each contract's own. -/
import Derived.Test.YtcoimlnplaidiaaDoorEA
import Derived.Test.YtcoimlnplaidiaaDoorWC3
import Derived.ChangeKeysEq
namespace Go.Eng.Pu
open Go Go.Eng Ieee
set_option linter.all false
set_option maxRecDepth 100000
set_option maxHeartbeats 8000000

theorem cut_exact (neg : Bool) (n d : Nat) (h : n % 2 ^ d = 0) (hd : d ≤ n.log2 + 2) : Toward.even.cut neg n d = n / 2 ^ d := by
  unfold Toward.cut
  simp only [Nat.min_eq_left hd, Nat.one_shiftLeft, h]
  have h0 : 0 < 2 ^ d := Nat.two_pow_pos d
  have e1 : decide (2 ^ d < 2 * 0) = false := by simp
  have e2 : (2 ^ d == 2 * 0) = false := by simp
  rw [e1, e2]
  simp

theorem log2_mul_pow (m j : Nat) (hm : m ≠ 0) : (m * 2 ^ j).log2 = m.log2 + j := by
  have h0 : 0 < 2 ^ j := Nat.two_pow_pos j
  have hne : m * 2 ^ j ≠ 0 := Nat.mul_ne_zero hm (by omega)
  have a1 := (Nat.log2_lt (k := m.log2 + j + 1) hne).2 (by
    have := Nat.lt_log2_self (n := m)
    rw [show m.log2 + j + 1 = (m.log2 + 1) + j by omega, Nat.pow_add]
    exact Nat.mul_lt_mul_of_pos_right this h0)
  have a2 : ¬ (m * 2 ^ j).log2 < m.log2 + j := fun h => by
    have h1 := (Nat.log2_lt hne).1 h
    have h2 := Nat.log2_self_le hm
    rw [Nat.pow_add] at h1
    have := Nat.mul_le_mul_right (2 ^ j) h2
    omega
  omega

/-- What a whole multiple of a place is written as, it is read as. -/
theorem nearest_read (f : Format) (neg : Bool) (m j : Nat) (place : Int) (he : 2 ≤ f.exponentBits) (hm : m ≠ 0) (h1 : m.log2 ≤ f.fractionBits) (h2 : f.leastPlace ≤ place + j)
    (h3 : place + j + m.log2 + 3 ≤ f.leastPlace + f.fractionBits + 2 ^ f.exponentBits) : ∃ (k : Nat) (i : Int), f.read (f.nearest neg (m * 2 ^ j) place) = .number neg k i ∧ f.leastPlace ≤ i ∧ i ≤ place + j ∧ k = m * 2 ^ (place + j - i).toNat := by
  have hne : m * 2 ^ j ≠ 0 := Nat.mul_ne_zero hm (by have := Nat.two_pow_pos j; omega)
  have hl := log2_mul_pow m j hm
  unfold Format.nearest
  rw [if_neg hne, hl]
  simp only []
  generalize hL : max (place + ((m.log2 + j : Nat) : Int) - f.fractionBits) f.leastPlace = last
  have hL1 : f.leastPlace ≤ last := by omega
  have hL2 : last ≤ place + j := by omega
  have hk : Toward.even.cut neg ((m * 2 ^ j) <<< (place - last).toNat) (last - place).toNat = m * 2 ^ (place + j - last).toNat := by
    rw [Nat.shiftLeft_eq]
    by_cases hp : last ≤ place
    · rw [show (last - place).toNat = 0 by omega, cut_exact _ _ _ (by simp [Nat.mod_one]) (by omega), Nat.pow_zero, Nat.div_one, Nat.mul_assoc, ← Nat.pow_add]
      congr 2; omega
    · rw [show (place - last).toNat = 0 by omega, Nat.pow_zero, Nat.mul_one]
      have hd : (last - place).toNat ≤ j := by omega
      have e : m * 2 ^ j = m * 2 ^ (j - (last - place).toNat) * 2 ^ (last - place).toNat := by rw [Nat.mul_assoc, ← Nat.pow_add]; congr 2; omega
      rw [cut_exact _ _ _ (by rw [e]; exact Nat.mul_mod_left _ _) (by rw [hl]; omega)]
      rw [e, Nat.mul_div_cancel _ (Nat.two_pow_pos _)]
      congr 2; omega
  rw [hk]
  generalize hK : m * 2 ^ (place + j - last).toNat = kept
  have hB : f.binade = 2 ^ f.fractionBits := rfl
  have hB0 : 0 < f.binade := Nat.two_pow_pos _
  have hk0 : kept ≠ 0 := by rw [← hK]; exact Nat.mul_ne_zero hm (by have := Nat.two_pow_pos (place + j - last).toNat; omega)
  have hkl : kept.log2 = m.log2 + (place + j - last).toNat := by rw [← hK]; exact log2_mul_pow _ _ hm
  have hk2 : kept < 2 * f.binade := by
    rw [hB, Nat.mul_comm, ← Nat.pow_succ]
    exact (Nat.log2_lt hk0).1 (by rw [hkl]; omega)
  have hrung : (last - f.leastPlace).toNat * f.binade + kept < f.infRung := by
    unfold Format.infRung
    have h2e := Nat.two_pow_pos f.exponentBits
    have hc : (((2 : Nat) ^ f.exponentBits : Nat) : Int) = 2 ^ f.exponentBits := by simp
    have : (last - f.leastPlace).toNat + 2 ≤ 2 ^ f.exponentBits - 1 := by
      by_cases hq : last = f.leastPlace
      · have : 2 ^ 2 ≤ 2 ^ f.exponentBits := Nat.pow_le_pow_right (by omega) he
        omega
      · omega
    have := Nat.mul_le_mul_right f.binade this
    rw [Nat.add_mul] at this
    omega
  rw [Nat.min_eq_left (by omega)]
  have hw : ∀ r, r < f.signWeight → f.word neg r % f.signWeight = r ∧ (f.word neg r / f.signWeight % 2 == 1) = neg := by
    intro r hr
    unfold Format.word
    cases neg with
    | false => exact ⟨Nat.mod_eq_of_lt hr, by rw [if_neg (by simp), Nat.div_eq_of_lt hr]; rfl⟩
    | true =>
      rw [if_pos rfl, Nat.add_mod_left, Nat.mod_eq_of_lt hr, Nat.add_div_left _ (by omega), Nat.div_eq_of_lt hr]
      exact ⟨rfl, rfl⟩
  have hsw : f.infRung < f.signWeight := f.infRung_lt
  obtain ⟨w1, w2⟩ := hw _ (show (last - f.leastPlace).toNat * f.binade + kept < f.signWeight by omega)
  unfold Format.read
  simp only [w1, w2]
  by_cases hq : last = f.leastPlace
  · have e0 : (last - f.leastPlace).toNat = 0 := by omega
    rw [e0, Nat.zero_mul, Nat.zero_add]
    by_cases hb : kept < f.binade
    · rw [if_pos hb]
      exact ⟨kept, f.leastPlace, rfl, Int.le_refl _, h2, by rw [← hK, hq]⟩
    · rw [if_neg hb, if_pos (by rw [e0, Nat.zero_mul, Nat.zero_add] at hrung; exact hrung)]
      have d1 : kept / f.binade = 1 := Nat.div_eq_of_lt_le (by omega) (by omega)
      have d2 : kept % f.binade = kept - f.binade := by rw [Nat.mod_eq_sub_mod (by omega), Nat.mod_eq_of_lt (by omega)]
      refine ⟨f.binade + kept % f.binade, f.leastPlace + (kept / f.binade - 1 : Nat), rfl, by omega, by rw [d1]; simpa using h2, ?_⟩
      rw [d1, d2, show f.binade + (kept - f.binade) = kept by omega, ← hK, hq]
      simp
  · have hlast : last = place + ((m.log2 + j : Nat) : Int) - f.fractionBits := by omega
    have hbk : f.binade ≤ kept := by
      rw [hB]
      have := Nat.log2_self_le hk0
      rwa [hkl, show m.log2 + (place + j - last).toNat = f.fractionBits by omega] at this
    have hpos : 1 ≤ (last - f.leastPlace).toNat := by omega
    have hmul := Nat.mul_le_mul_right f.binade hpos
    rw [if_neg (by omega), if_pos hrung]
    have d1 : ((last - f.leastPlace).toNat * f.binade + kept) / f.binade = (last - f.leastPlace).toNat + 1 := by
      rw [Nat.mul_comm, Nat.mul_add_div hB0, Nat.div_eq_of_lt_le (m := kept) (k := 1) (by omega) (by omega)]
    have d2 : ((last - f.leastPlace).toNat * f.binade + kept) % f.binade = kept - f.binade := by
      rw [Nat.mul_comm, Nat.mul_add_mod, Nat.mod_eq_sub_mod (by omega), Nat.mod_eq_of_lt (by omega)]
    refine ⟨_, _, rfl, by omega, ?_, ?_⟩
    · rw [d1]; omega
    · rw [d1, d2, show f.binade + (kept - f.binade) = kept by omega, ← hK]
      congr 2; omega

/-! ### Numbers, scaled -/

theorem signed_add (s : Bool) (m a b : Nat) : signed s m (a + b) = signed s m a * 2 ^ b := by
  unfold signed
  have e : ((m <<< (a + b) : Nat) : Int) = ((m <<< a : Nat) : Int) * 2 ^ b := by
    rw [Nat.shiftLeft_eq, Nat.shiftLeft_eq, Nat.pow_add, ← Nat.mul_assoc, Int.natCast_mul, Int.natCast_pow]; rfl
  cases s
  · simp only [Bool.false_eq_true, if_false]; exact e
  · simp only [if_true]; rw [e, Int.neg_mul]

/-- A number of a format, times 2 to the power - leastPlace. -/
def dv (f : Format) : Datum → Int
  | .number s m i => signed s m (i - f.leastPlace).toNat
  | _ => 0
def isN : Datum → Bool
  | .number .. => true
  | _ => false

theorem isN_ex {d : Datum} (h : isN d = true) : ∃ s m i, d = .number s m i := by
  cases d with
  | number s m i => exact ⟨s, m, i, rfl⟩
  | _ => cases h

theorem read_in (f : Format) (x : Nat) {s : Bool} {m : Nat} {i : Int} (h : f.read x = .number s m i) : m < 2 * f.binade ∧ f.leastPlace ≤ i ∧ i + 3 ≤ f.leastPlace + 2 ^ f.exponentBits ∨ m < f.binade ∧ i = f.leastPlace := by
  unfold Format.read at h
  simp only [] at h
  have hB0 : 0 < f.binade := Nat.two_pow_pos _
  split at h
  · rename_i h1
    cases h
    exact .inr ⟨h1, rfl⟩
  · rename_i h1
    split at h
    · rename_i h2
      cases h
      left
      have hm := Nat.mod_lt (x % f.signWeight) hB0
      have hd : x % f.signWeight / f.binade < 2 ^ f.exponentBits - 1 := by
        rw [Nat.div_lt_iff_lt_mul hB0]; exact h2
      have hc : (((2 : Nat) ^ f.exponentBits : Nat) : Int) = 2 ^ f.exponentBits := by simp
      have hd1 : 1 ≤ x % f.signWeight / f.binade := (Nat.one_le_div_iff hB0).2 (by omega)
      refine ⟨by omega, by omega, by omega⟩
    · split at h <;> cases h

theorem read_log (f : Format) (x : Nat) {s : Bool} {m : Nat} {i : Int} (he : 2 ≤ f.exponentBits) (h : f.read x = .number s m i) : f.leastPlace ≤ i ∧ m < 2 * f.binade ∧ (m ≠ 0 → m.log2 ≤ f.fractionBits ∧ i + m.log2 + 3 ≤ f.leastPlace + f.fractionBits + 2 ^ f.exponentBits) := by
  have hB : f.binade = 2 ^ f.fractionBits := rfl
  have key : m < 2 * f.binade → m ≠ 0 → m.log2 ≤ f.fractionBits := fun h1 h2 => by
    have : m.log2 < f.fractionBits + 1 := (Nat.log2_lt h2).2 (by rw [Nat.pow_succ, Nat.mul_comm, ← hB]; exact h1)
    omega
  have hp : 2 ^ 2 ≤ 2 ^ f.exponentBits := Nat.pow_le_pow_right (by omega) he
  have hc : (((2 : Nat) ^ f.exponentBits : Nat) : Int) = 2 ^ f.exponentBits := by simp
  rcases read_in f x h with ⟨h1, h2, h3⟩ | ⟨h1, h2⟩
  · refine ⟨h2, h1, fun h0 => ?_⟩
    have := key h1 h0
    omega
  · refine ⟨by omega, by omega, fun h0 => ?_⟩
    have := key (by omega) h0
    omega

theorem compare_mul (a b c : Int) (h : 0 < c) : compare (a * c) (b * c) = compare a b := by
  simp only [compare, compareOfLessAndEq]
  by_cases h1 : a < b
  · rw [if_pos h1, if_pos (Int.mul_lt_mul_of_pos_right h1 h)]
  · rw [if_neg h1, if_neg (fun hh => h1 (Int.lt_of_mul_lt_mul_right hh (by omega)))]
    by_cases h2 : a = b
    · rw [if_pos h2, if_pos (by rw [h2])]
    · rw [if_neg h2, if_neg (fun hh => h2 (Int.eq_of_mul_eq_mul_right (by omega) hh))]

/-- The order of two numbers. -/
theorem order_num (f : Format) {x y : Nat} {s t : Bool} {m n : Nat} {i j : Int} (hx : f.read x = .number s m i) (hy : f.read y = .number t n j) (he : 2 ≤ f.exponentBits) :
    f.order x y = some (compare (dv f (f.read x)) (dv f (f.read y))) := by
  have h1 := (read_log f x he hx).1
  have h2 := (read_log f y he hy).1
  unfold Format.order
  rw [hx, hy]
  simp only [Datum.order, dv]
  rw [show (i - f.leastPlace).toNat = (i - min i j).toNat + (min i j - f.leastPlace).toNat by omega, show (j - f.leastPlace).toNat = (j - min i j).toNat + (min i j - f.leastPlace).toNat by omega, signed_add, signed_add, compare_mul _ _ _ (Int.pow_pos (by omega))]

/-! ### Numbers made whole -/

theorem cut_zero (neg : Bool) (n d : Nat) : Toward.zero.cut neg n d = n / 2 ^ d := by
  unfold Toward.cut
  simp only [Nat.one_shiftLeft, Bool.toNat_false, Nat.add_zero]
  by_cases hd : d ≤ n.log2 + 2
  · rw [Nat.min_eq_left hd]
  · rw [Nat.min_eq_right (by omega)]
    have h1 : n < 2 ^ (n.log2 + 2) := Nat.lt_of_lt_of_le (Nat.lt_log2_self) (Nat.pow_le_pow_right (by omega) (by omega))
    have h2 : n < 2 ^ d := Nat.lt_of_lt_of_le h1 (Nat.pow_le_pow_right (by omega) (by omega))
    rw [Nat.div_eq_of_lt h1, Nat.div_eq_of_lt h2]

/-- The scale of a format. -/
def scF (f : Format) : Nat := (-f.leastPlace).toNat

def sg (s : Bool) (n : Nat) : Int := if s then -(n : Int) else n

theorem signed_sg (s : Bool) (m a : Nat) : signed s m a = sg s (m * 2 ^ a) := by
  unfold signed sg
  rw [Nat.shiftLeft_eq]

theorem sg_tdiv (s : Bool) (a b : Nat) : (sg s a).tdiv (b : Int) = sg s (a / b) := by
  unfold sg
  cases s
  · simp only [Bool.false_eq_true, if_false]; rw [Int.tdiv_eq_ediv_of_nonneg (by omega)]; rfl
  · simp only [if_true]; rw [Int.neg_tdiv, Int.tdiv_eq_ediv_of_nonneg (by omega)]; rfl

/-- How much of a number is left when it is made whole. -/
def tru (f : Format) (m : Nat) (i : Int) : Nat := m * 2 ^ i.toNat / 2 ^ (-i).toNat

theorem toInt_num (f : Format) (s : Bool) (m : Nat) (i : Int) : (Datum.number s m i).toInt .zero = some (sg s (tru f m i)) := by
  unfold Datum.toInt Datum.integral
  simp only [cut_zero, signed_sg, Nat.shiftLeft_eq, Nat.pow_zero, Nat.mul_one, tru]

theorem tru_dv (f : Format) {s : Bool} {m : Nat} {i : Int} (h0 : f.leastPlace ≤ 0) (hi : f.leastPlace ≤ i) : sg s (tru f m i) = (dv f (.number s m i)).tdiv ((2 ^ scF f : Nat) : Int) := by
  show sg s (tru f m i) = (signed s m (i - f.leastPlace).toNat).tdiv ((2 ^ scF f : Nat) : Int)
  rw [signed_sg, sg_tdiv]
  congr 1
  unfold tru scF
  by_cases hp : 0 ≤ i
  · rw [show (-i).toNat = 0 by omega, Nat.pow_zero, Nat.div_one, show (i - f.leastPlace).toNat = i.toNat + (-f.leastPlace).toNat by omega, Nat.pow_add, ← Nat.mul_assoc, Nat.mul_div_cancel _ (Nat.two_pow_pos _)]
  · rw [show i.toNat = 0 by omega, Nat.pow_zero, Nat.mul_one, show (-f.leastPlace).toNat = (-i).toNat + (i - f.leastPlace).toNat by omega, Nat.pow_add, Nat.mul_div_mul_right _ _ (Nat.two_pow_pos _)]

/-- A whole number of a format is written exactly. -/
theorem write_whole (f : Format) {x : Nat} {s : Bool} {m : Nat} {i : Int} (he : 2 ≤ f.exponentBits) (h0 : f.leastPlace ≤ 0) (h00 : 3 ≤ f.leastPlace + 2 ^ f.exponentBits) (hx : f.read x = .number s m i) (neg : Bool) :
    ∃ (k : Nat) (l : Int), f.read (f.nearest neg (tru f m i) 0) = .number neg k l ∧ f.leastPlace ≤ l ∧ k * 2 ^ (l - f.leastPlace).toNat = tru f m i * 2 ^ scF f := by
  obtain ⟨h1, h2, h3⟩ := read_log f x he hx
  by_cases ht : tru f m i = 0
  · rw [ht]
    refine ⟨0, f.leastPlace, ?_, Int.le_refl _, by simp⟩
    unfold Format.nearest
    rw [if_pos rfl]
    have hsw : 0 < f.signWeight := Nat.two_pow_pos _
    have hB : 0 < f.binade := Nat.two_pow_pos _
    unfold Format.read Format.word
    cases neg with
    | false => simp [hB, Nat.div_eq_of_lt hsw]
    | true => simp [hB, Nat.div_self hsw]
  · by_cases hp : 0 ≤ i
    · have hm : m ≠ 0 := fun hc => ht (by unfold tru; rw [hc]; simp)
      obtain ⟨h4, h5⟩ := h3 hm
      have e : tru f m i = m * 2 ^ i.toNat := by unfold tru; rw [show (-i).toNat = 0 by omega, Nat.pow_zero, Nat.div_one]
      obtain ⟨k, l, g1, g2, g3, g4⟩ := nearest_read f neg m i.toNat 0 he hm h4 (by omega) (by omega)
      rw [e]
      refine ⟨k, l, g1, g2, ?_⟩
      rw [g4, Nat.mul_assoc, Nat.mul_assoc, ← Nat.pow_add, ← Nat.pow_add]
      unfold scF
      congr 2; omega
    · have e : tru f m i = m / 2 ^ (-i).toNat := by unfold tru; rw [show i.toNat = 0 by omega, Nat.pow_zero, Nat.mul_one]
      have hm : m ≠ 0 := fun hc => ht (by rw [e, hc]; simp)
      obtain ⟨h4, h5⟩ := h3 hm
      have hle : tru f m i ≤ m := by rw [e]; exact Nat.div_le_self _ _
      have hlog : (tru f m i).log2 ≤ m.log2 := by
        by_cases hc : (tru f m i).log2 < m.log2 + 1
        · omega
        · have := (Nat.log2_lt (k := m.log2 + 1) ht).2 (Nat.lt_of_le_of_lt hle Nat.lt_log2_self)
          omega
      have hle2 : (tru f m i).log2 ≤ f.fractionBits := by omega
      obtain ⟨k, l, g1, g2, g3, g4⟩ := nearest_read f neg (tru f m i) 0 0 he ht hle2 (by omega) (by omega)
      rw [Nat.pow_zero, Nat.mul_one] at g1
      refine ⟨k, l, g1, g2, ?_⟩
      rw [g4, Nat.mul_assoc, ← Nat.pow_add]
      unfold scF
      congr 2; omega

end Go.Eng.Pu

namespace Go.Eng.Pu
open Go Go.Eng Ieee
set_option linter.all false
set_option maxRecDepth 100000
set_option maxHeartbeats 8000000

theorem fmt_exp (k : FloatKind) : 2 ≤ k.format.exponentBits := by cases k <;> decide
theorem fmt_lp (k : FloatKind) : k.format.leastPlace ≤ 0 := by cases k <;> decide
theorem fmt_lp2 (k : FloatKind) : 3 ≤ k.format.leastPlace + 2 ^ k.format.exponentBits := by cases k <;> decide

/-- Is it a number; the number, scaled; its whole part; is it whole. -/
def fN (k : FloatKind) (x : Nat) : Bool := isN (k.format.read x)
def fV (k : FloatKind) (x : Nat) : Int := dv k.format (k.format.read x)
def fS (k : FloatKind) : Int := ((2 ^ scF k.format : Nat) : Int)
def fT (k : FloatKind) (x : Nat) : Int := (fV k x).tdiv (fS k)
def fWh (k : FloatKind) (x : Nat) : Bool := decide (fT k x * fS k = fV k x)

theorem fS_pos (k : FloatKind) : 0 < fS k := by
  have := Nat.two_pow_pos (scF k.format)
  unfold fS; omega

theorem fN_ex {k : FloatKind} {x : Nat} (h : fN k x = true) : ∃ s m i, k.format.read x = .number s m i := isN_ex h

theorem order_eq {k : FloatKind} {x y : Nat} (hx : fN k x = true) (hy : fN k y = true) : k.format.order x y = some (compare (fV k x) (fV k y)) := by
  obtain ⟨s, m, i, e1⟩ := fN_ex hx
  obtain ⟨t, n, j, e2⟩ := fN_ex hy
  exact order_num k.format e1 e2 (fmt_exp k)

theorem cmp_lt {k : FloatKind} {x y : Nat} (hx : fN k x = true) (hy : fN k y = true) : (k.format.order x y == some .lt) = decide (fV k x < fV k y) := by
  rw [order_eq hx hy]
  simp only [compare, compareOfLessAndEq]
  by_cases h : fV k x < fV k y
  · simp [h]
  · rw [if_neg h]; split <;> simp [h]
theorem cmp_eq {k : FloatKind} {x y : Nat} (hx : fN k x = true) (hy : fN k y = true) : (k.format.order x y == some .eq) = decide (fV k x = fV k y) := by
  rw [order_eq hx hy]
  simp only [compare, compareOfLessAndEq]
  by_cases h : fV k x < fV k y
  · rw [if_pos h]; simp; omega
  · rw [if_neg h]; split <;> rename_i h2 <;> simp [h2]
theorem cmp_gt {k : FloatKind} {x y : Nat} (hx : fN k x = true) (hy : fN k y = true) : (k.format.order x y == some .gt) = decide (fV k y < fV k x) := by
  rw [order_eq hx hy]
  simp only [compare, compareOfLessAndEq]
  by_cases h : fV k x < fV k y
  · rw [if_pos h]; simp; omega
  · rw [if_neg h]; split <;> rename_i h2 <;> simp <;> omega

theorem order_nan {k : FloatKind} {x : Nat} {s : Bool} {f : Nat} (h : k.format.read x = .nan s f) (y : Nat) : k.format.order x y = none ∧ k.format.order y x = none := by
  unfold Format.order
  rw [h]
  refine ⟨rfl, ?_⟩
  cases k.format.read y <;> rfl

theorem read_nan {k : FloatKind} {n : Nat} (h : NaNb k n) : ∃ s f, k.format.read n = .nan s f := by
  cases k
  · obtain ⟨h1, h2⟩ := h
    have e1 : FloatKind.f32.format.signWeight = 2147483648 := by decide
    have e2 : FloatKind.f32.format.infRung = 2139095040 := by decide
    have e3 : FloatKind.f32.format.binade = 8388608 := by decide
    unfold Format.read
    simp only [e1, e2, e3]
    rw [if_neg (by omega), if_neg (by omega), if_neg (by omega)]
    exact ⟨_, _, rfl⟩
  · obtain ⟨h1, h2⟩ := h
    have e1 : FloatKind.f64.format.signWeight = 9223372036854775808 := by decide
    have e2 : FloatKind.f64.format.infRung = 9218868437227405312 := by decide
    have e3 : FloatKind.f64.format.binade = 4503599627370496 := by decide
    unfold Format.read
    simp only [e1, e2, e3]
    rw [if_neg (by omega), if_neg (by omega), if_neg (by omega)]
    exact ⟨_, _, rfl⟩

theorem order_inf {k : FloatKind} {x : Nat} {s : Bool} (h : k.format.read x = .infinity s) : k.format.order x x = some .eq ∧ k.format.sub x x = none := by
  unfold Format.order Format.sub
  rw [h]
  cases s <;> exact ⟨rfl, rfl⟩

theorem sub_num {k : FloatKind} {x : Nat} (h : fN k x = true) : k.format.sub x x = some 0 := by
  obtain ⟨s, m, i, e⟩ := fN_ex h
  unfold Format.sub
  rw [e]
  simp only [Datum.opposite, Datum.sum, Option.map_some]
  have e0 : signed s m (i - min i i).toNat + signed (!s) m (i - min i i).toNat = 0 := by
    unfold signed
    cases s <;> simp <;> omega
  rw [e0]
  cases s <;> simp [Format.write, Format.nearest, Format.word]

theorem sg_abs (s : Bool) (a : Nat) : (sg s a).natAbs = a := by
  unfold sg; cases s <;> simp

theorem sg_neg (s : Bool) (a : Nat) (b : Nat) : sg (decide (sg s a < 0)) (a * b) = sg s a * b := by
  unfold sg
  cases s
  · simp only [Bool.false_eq_true, if_false]
    rw [if_neg (by simp), Int.natCast_mul]
  · simp only [if_true]
    by_cases h : a = 0
    · subst h; simp
    · rw [if_pos (by simp; omega), Int.natCast_mul, Int.neg_mul]

/-- The whole part of a number, written again. -/
theorem foi_fT {k : FloatKind} {x : Nat} (h : fN k x = true) : fN k (floatOfInt k (fT k x)) = true ∧ fV k (floatOfInt k (fT k x)) = fT k x * fS k := by
  obtain ⟨s, m, i, e⟩ := fN_ex h
  have hi := (read_log k.format x (fmt_exp k) e).1
  have ht : fT k x = sg s (tru k.format m i) := by
    unfold fT fV fS
    rw [e]
    exact (tru_dv k.format (fmt_lp k) hi).symm
  obtain ⟨q, l, g1, g2, g3⟩ := write_whole k.format (fmt_exp k) (fmt_lp k) (fmt_lp2 k) e (decide (fT k x < 0))
  have hw : floatOfInt k (fT k x) = k.format.nearest (decide (fT k x < 0)) (tru k.format m i) 0 := by
    show k.format.nearest (decide (fT k x < 0)) (fT k x).natAbs 0 = _
    rw [show (fT k x).natAbs = tru k.format m i by rw [ht, sg_abs]]
  rw [hw]
  unfold fN fV
  rw [g1]
  refine ⟨rfl, ?_⟩
  show signed _ q (l - k.format.leastPlace).toNat = _
  rw [signed_sg, g3, ht]
  exact sg_neg _ _ _

theorem f2i_fT {k : FloatKind} {x : Nat} (h : fN k x = true) (h1 : -9223372036854775808 ≤ fT k x) (h2 : fT k x ≤ 9223372036854775807) : floatToIntVal k x .i64 = some (fT k x) := by
  obtain ⟨s, m, i, e⟩ := fN_ex h
  have hi := (read_log k.format x (fmt_exp k) e).1
  have ht : fT k x = sg s (tru k.format m i) := by
    unfold fT fV fS
    rw [e]
    exact (tru_dv k.format (fmt_lp k) hi).symm
  unfold floatToIntVal
  show (match (k.format.read x).toInt .zero with | some n => if IntKind.i64.min ≤ n ∧ n ≤ IntKind.i64.max then some n else none | none => none) = _
  rw [e, toInt_num k.format]
  simp only []
  rw [← ht, if_pos ⟨h1, h2⟩]

/-! ### A float32 as a float64 -/

theorem wid_num {x : Nat} (h : fN .f32 x = true) : ∃ y, f2f .f32 x .f64 = some y ∧ fN .f64 y = true ∧ fV .f64 y = fV .f32 x * 2 ^ 925 := by
  obtain ⟨s, m, i, e⟩ := fN_ex h
  obtain ⟨h1, h2, h3⟩ := read_log FloatKind.f32.format x (fmt_exp .f32) e
  have l32 : FloatKind.f32.format.leastPlace = -149 := by decide
  have l64 : FloatKind.f64.format.leastPlace = -1074 := by decide
  have b32 : FloatKind.f32.format.fractionBits = 23 := by decide
  have b64 : FloatKind.f64.format.fractionBits = 52 := by decide
  have e32 : FloatKind.f32.format.exponentBits = 8 := by decide
  have e64 : FloatKind.f64.format.exponentBits = 11 := by decide
  have key : ∃ q l, FloatKind.f64.format.read (FloatKind.f64.format.nearest s m i) = .number s q l ∧ -1074 ≤ l ∧ q * 2 ^ (l + 1074).toNat = m * 2 ^ (i + 1074).toNat := by
    by_cases hm : m = 0
    · rw [hm]
      refine ⟨0, -1074, ?_, Int.le_refl _, by simp⟩
      unfold Format.nearest
      rw [if_pos rfl]
      cases s <;> decide
    · obtain ⟨h4, h5⟩ := h3 hm
      rw [b32, l32, e32] at h5
      rw [b32] at h4
      obtain ⟨q, l, g1, g2, g3, g4⟩ := nearest_read FloatKind.f64.format s m 0 i (fmt_exp .f64) hm (by rw [b64]; omega) (by rw [l64]; omega) (by rw [l64, b64, e64]; omega)
      rw [Nat.pow_zero, Nat.mul_one] at g1
      rw [l64] at g2
      refine ⟨q, l, g1, g2, ?_⟩
      rw [g4, Nat.mul_assoc, ← Nat.pow_add]
      congr 2; omega
  obtain ⟨q, l, g1, g2, g3⟩ := key
  refine ⟨FloatKind.f64.format.nearest s m i, ?_, ?_, ?_⟩
  · unfold f2f
    rw [if_neg (by decide)]
    show (match FloatKind.f32.format.read x with
      | .nan _ _ => none
      | .infinity s => some (FloatKind.f64.encode (.infinity s))
      | .number s m e => if (FloatKind.f64.decode (FloatKind.f64.encode (.number s m e))).isInfinity then none else some (FloatKind.f64.encode (.number s m e))) = _
    rw [e]
    simp only []
    have hd : FloatKind.f64.decode (FloatKind.f64.encode (.number s m i)) = .number s q l := g1
    rw [hd]
    rfl
  · unfold fN; rw [g1]; rfl
  · unfold fV
    rw [g1, e]
    show signed s q (l - FloatKind.f64.format.leastPlace).toNat = signed s m (i - FloatKind.f32.format.leastPlace).toNat * 2 ^ 925
    rw [l64, l32, signed_sg, show (l - -1074).toNat = (l + 1074).toNat by omega, g3, ← signed_sg, ← signed_add]
    congr 1; omega

theorem wid_inf {x : Nat} {s : Bool} (h : FloatKind.f32.format.read x = .infinity s) : ∃ y, f2f .f32 x .f64 = some y ∧ FloatKind.f64.format.read y = .infinity s := by
  refine ⟨FloatKind.f64.encode (.infinity s), ?_, ?_⟩
  · unfold f2f
    rw [if_neg (by decide)]
    show (match FloatKind.f32.format.read x with
      | .nan _ _ => none
      | .infinity s => some (FloatKind.f64.encode (.infinity s))
      | .number s m e => if (FloatKind.f64.decode (FloatKind.f64.encode (.number s m e))).isInfinity then none else some (FloatKind.f64.encode (.number s m e))) = _
    rw [h]
  · cases s <;> decide

theorem wid_nan {x : Nat} {s : Bool} {f : Nat} (h : FloatKind.f32.format.read x = .nan s f) : f2f .f32 x .f64 = none := by
  unfold f2f
  rw [if_neg (by decide)]
  show (match FloatKind.f32.format.read x with
      | .nan _ _ => none
      | .infinity s => some (FloatKind.f64.encode (.infinity s))
      | .number s m e => if (FloatKind.f64.decode (FloatKind.f64.encode (.number s m e))).isInfinity then none else some (FloatKind.f64.encode (.number s m e))) = _
  rw [h]

end Go.Eng.Pu

namespace Go.Eng.Pu
open Go.Eng Go.Proofs
set_option linter.all false

theorem eqF_int (w : World) (d : Nat) (xs ys : Array Value) (nm tag pk : String) (off bo : Nat) (e : Bool) (r : List Field) {x y : Int} (hn : nm ≠ "_") (hx : xs[off]? = some (.int .i64 x)) (hy : ys[off]? = some (.int .i64 y)) :
    (Op.eqFields (d + 1) xs ys (⟨nm, 3, off, e, tag, pk, bo⟩ :: r)).run Tryd.prog w = if x = y then (Op.eqFields (d + 1) xs ys r).run Tryd.prog w else .ok false w := by
  have p1 : (part 3 xs off).run Tryd.prog w = .ok (.int .i64 x) w := by rw [run_part row3, hx]; rfl
  have p2 : (part 3 ys off).run Tryd.prog w = .ok (.int .i64 y) w := by rw [run_part row3, hy]; rfl
  have p3 := run_equalIn_int (P := Tryd.prog) w d 3 .i64 .i64 x y Tryd.underlying3
  simp only [Op.eqFields]
  rw [if_pos hn]
  simp only [Sem.run_bind, p1, p2, p3, Result.andThen_ok]
  by_cases h : x = y
  · simp [h]
  · simp [h]

theorem eqOf {t : Nat} {ty : Ty} (hg : Tryd.prog.eqGuardType Tryd.prog.depth t = false)
    (hE : ∀ (w : World) (V : View) (x y : ty.Den) (l m : List Value), Rep V ty x l → Rep V ty y m → (Op.equalIn 10000 t (.agg l.toArray) (.agg m.toArray)).run Tryd.prog w = .ok (ty.beq x y) w) : EqOk Tryd.prog t ty := by
  intro w V x y l m o p hx hy
  refine ⟨fun op => run_eqGuard_agg w op t o p _ _ hg, ?_, ?_⟩
  · rw [run_eql_struct, hE w V x y l m hx hy]; rfl
  · rw [run_neq_struct, hE w V x y l m hx hy]; rfl

theorem eq63 : EqOk Tryd.prog 63 Fld0 := by
  refine eqOf Tryd.eqGuardType63 fun w V x y l m hx hy => ?_
  obtain ⟨l1, l2, rfl, h1, l3, l4, rfl, h2, l5, l6, rfl, h3, h4⟩ := hx
  obtain ⟨m1, m2, rfl, g1, m3, m4, rfl, g2, m5, m6, rfl, g3, g4⟩ := hy
  obtain ⟨x1, x2, x3, u⟩ := x
  obtain ⟨y1, y2, y3, u'⟩ := y
  subst h1 h2 h3 h4 g1 g2 g3 g4
  have hS : Tryd.prog.fieldsOf 63 = #[⟨"Prime", 3, 0, false, "", "", 0⟩, ⟨"Root", 3, 1, false, "", "", 8⟩, ⟨"Period", 3, 2, false, "", "", 16⟩] := by kernel_rfl
  rw [run_equalIn_struct w 9999 63 _ _ (by rw [Tryd.underlying63, hS]) Tryd.stoodInHeld63, hS]
  rw [eqF_int w 9998 _ _ "Prime" "" "" 0 0 false _ (by decide) (x := x1) (y := y1) rfl rfl, eqF_int w 9998 _ _ "Root" "" "" 1 8 false _ (by decide) (x := x2) (y := y2) rfl rfl,
    eqF_int w 9998 _ _ "Period" "" "" 2 16 false _ (by decide) (x := x3) (y := y3) rfl rfl]
  simp only [Ty.beq, Op.eqFields, Sem.run_pure, Bool.and_true]
  by_cases e1 : x1 = y1 <;> by_cases e2 : x2 = y2 <;> by_cases e3 : x3 = y3 <;> simp [e1, e2, e3]

theorem eq37 : EqOk Tryd.prog 37 PairT := by
  refine eqOf (by kernel_rfl) fun w V x y l m hx hy => ?_
  obtain ⟨l1, l2, rfl, h1, l3, l4, rfl, h2, h3⟩ := hx
  obtain ⟨m1, m2, rfl, g1, m3, m4, rfl, g2, g3⟩ := hy
  obtain ⟨x1, x2, u⟩ := x
  obtain ⟨y1, y2, u'⟩ := y
  subst h1 h2 h3 g1 g2 g3
  obtain ⟨ti, hi, _⟩ := row3.info
  have hc : Tryd.prog.cellsOf 3 = 1 := by kernel_rfl
  have p1 : (part 3 #[.int .i64 x1, .int .i64 x2] 0).run Tryd.prog w = .ok (.int .i64 x1) w := by rw [run_part row3]; rfl
  have p2 : (part 3 #[.int .i64 y1, .int .i64 y2] 0).run Tryd.prog w = .ok (.int .i64 y1) w := by rw [run_part row3]; rfl
  have p3 : (part 3 #[.int .i64 x1, .int .i64 x2] 1).run Tryd.prog w = .ok (.int .i64 x2) w := by rw [run_part row3]; rfl
  have p4 : (part 3 #[.int .i64 y1, .int .i64 y2] 1).run Tryd.prog w = .ok (.int .i64 y2) w := by rw [run_part row3]; rfl
  rw [run_equalIn_array w 9999 _ _ (show Tryd.prog.underlying 37 = some (.array 2 3) from row37.desc) hi, hc, show List.range 2 = [0, 1] from rfl]
  show (Op.eqItems 9999 3 1 #[.int .i64 x1, .int .i64 x2] #[.int .i64 y1, .int .i64 y2] [0, 1]).run Tryd.prog w = _
  simp only [Op.eqItems, Sem.run_bind, Nat.zero_mul, Nat.one_mul, p1, p2, p3, p4, Result.andThen_ok, run_equalIn_int w 9998 3 .i64 .i64 _ _ Tryd.underlying3]
  simp only [Ty.beq, Bool.and_true]
  by_cases e1 : x1 = y1
  · subst e1
    by_cases e2 : x2 = y2
    · subst e2
      simp [Sem.run_bind, p3, p4, run_equalIn_int w 9998 3 .i64 .i64 _ _ Tryd.underlying3]
    · simp [e2, Sem.run_bind, p3, p4, run_equalIn_int w 9998 3 .i64 .i64 _ _ Tryd.underlying3]
  · simp [e1]

theorem eqsOk : ∀ t ∈ ([63, 37] : List Nat), ∀ ty, tyOf tt 20 t = some ty → EqOk Tryd.prog t ty := by
  intro t ht ty h
  have h63 : tyOf tt 20 63 = some Fld0 := by kernel_rfl
  have h37 : tyOf tt 20 37 = some PairT := by kernel_rfl
  simp only [List.mem_cons, List.not_mem_nil, or_false] at ht
  rcases ht with rfl | rfl
  · rw [h63] at h; cases h; exact eq63
  · rw [h37] at h; cases h; exact eq37

@[reducible] def cfgN (X : Xt) (ctr : List (Nat × Spec)) (nt : Nat) (unr : List Nat := []) : Cfg := { tt := tt, eqs := [63, 37], ctr := ctr, nt := nt, extb := [(60, .f64)], its := X.its, clos := X.clos, fuel := X.fuel, nan := true, unr := unr }

theorem cfgNOk {X : Xt} (hX : Its X.its) {ctr : List (Nat × Spec)} {nt : Nat} {unr : List Nat} (h : All ctr) : CfgOk Tryd.prog OB (cfgN X ctr nt unr) where
  tbl := tbl
  eqs := eqsOk
  ctr := fun f sp hf => all_get h hf
  ext := fun f hf => by simp [memN] at hf
  extb := extOk
  obs := fun t i hi => by simp [obOf] at hi
  its := fun g isp h => its_get hX h

theorem mkU {X : Xt} {unr : List Nat} (hX : Its X.its) {ctr : List (Nat × Spec)} (hctr : All ctr) {f nt : Nat} {fn : Func} {sp : Spec} (hf : Tryd.prog.funcs[f]? = some fn) (hb : fn.body = some (bodyOf fn)) (hnt : fn.ntmps = nt) (hps : (Nat.ble sp.pats.length nt && Nat.ble nt 1000000) = true)
    (hob : Nat.ble (obCount sp.pats) 1 = true) (hd : dstOk nt (bodyOf fn) = true) (hn : (fn.name == "runtime.NumGoroutine") = false) (anns : (argTy sp.pats).Den → List (St → LoopAnn))
    (h : ∀ x, sp.pre x → bodyVC (cfgN X ctr nt unr) (par (cfgN X ctr nt unr)) (anns x) fn.results.toList (bodyOf fn) sp x) : Ok f sp :=
  ⟨fn_sound (cfgNOk hX hctr) (par_sound mixed (cfgNOk hX hctr)) hf hb hnt (Nat.le_of_ble_eq_true (Bool.and_eq_true _ _ ▸ hps : _ ∧ _).1) (Nat.le_of_ble_eq_true (Bool.and_eq_true _ _ ▸ hps : _ ∧ _).2) (Nat.le_of_ble_eq_true hob) rfl hd anns h, fn, hf, hn, by rw [hb]; rfl⟩

theorem mkN {X : Xt} (hX : Its X.its) {ctr : List (Nat × Spec)} (hctr : All ctr) {f nt : Nat} {fn : Func} {sp : Spec} (hf : Tryd.prog.funcs[f]? = some fn) (hb : fn.body = some (bodyOf fn)) (hnt : fn.ntmps = nt) (hps : (Nat.ble sp.pats.length nt && Nat.ble nt 1000000) = true)
    (hob : Nat.ble (obCount sp.pats) 1 = true) (hd : dstOk nt (bodyOf fn) = true) (hn : (fn.name == "runtime.NumGoroutine") = false) (anns : (argTy sp.pats).Den → List (St → LoopAnn))
    (h : ∀ x, sp.pre x → bodyVC (cfgN X ctr nt) (par (cfgN X ctr nt)) (anns x) fn.results.toList (bodyOf fn) sp x) : Ok f sp := mkU (unr := []) hX hctr hf hb hnt hps hob hd hn anns h

@[reducible] def x0 : Xt := {}
theorem x0_ok : Its x0.its := True.intro
@[reducible] def x4 : Xt := { fuel := 4 }
theorem x4_ok : Its x4.its := True.intro

end Go.Eng.Pu

namespace Go.Eng.Pu
open Go.Eng Go.Proofs
set_option linter.all false
set_option maxRecDepth 100000
set_option maxHeartbeats 8000000

theorem tdiv_neg {n b : Int} (hb : 0 < b) (h : n.tmod b < 0) : n.tdiv b - 1 = n / b := by
  have h1 := Int.tmod_eq_emod (a := n) (b := b)
  have h2 := Int.tdiv_eq_ediv (a := n) (b := b)
  have h3 := Int.emod_nonneg n (show b ≠ 0 by omega)
  split at h1
  · omega
  · rename_i hc
    rw [if_neg hc] at h2
    have : b.sign = 1 := Int.sign_eq_one_of_pos hb
    omega

theorem tdiv_pos {n b : Int} (hb : 0 < b) (h : 0 ≤ n.tmod b) : n.tdiv b = n / b := by
  have h1 := Int.tmod_eq_emod (a := n) (b := b)
  have h2 := Int.tdiv_eq_ediv (a := n) (b := b)
  have h3 := Int.emod_lt_of_pos n hb
  split at h1
  · rename_i hc
    rw [if_pos hc] at h2
    omega
  · omega

theorem tdiv_in {n b : Int} (h1 : -9000000000000000000 ≤ n) (h2 : n ≤ 9000000000000000000) : -9000000000000000000 ≤ n.tdiv b ∧ n.tdiv b ≤ 9000000000000000000 := by
  have h3 := Int.natAbs_tdiv_le_natAbs n b
  omega

theorem div_in {n b : Int} (hb : 0 < b) (h1 : -9000000000000000000 ≤ n) (h2 : n ≤ 9000000000000000000) : -9000000000000000001 ≤ n / b ∧ n / b ≤ 9000000000000000000 := by
  have h3 := tdiv_in (b := b) h1 h2
  by_cases h : n.tmod b < 0
  · rw [← tdiv_neg hb h]; omega
  · rw [← tdiv_pos hb (by omega)]; omega

theorem tmod_sz (n m : Int) (hm : 0 < m) : -m < n.tmod m ∧ n.tmod m < m := by
  have h1 := Int.tmod_eq_emod (a := n) (b := m)
  have h2 := Int.emod_nonneg n (show m ≠ 0 by omega)
  have h3 := Int.emod_lt_of_pos n hm
  split at h1 <;> omega

theorem tmod_mod {n b : Int} (hb : 0 < b) : (n.tmod b < 0 → n.tmod b + b = n % b) ∧ (0 ≤ n.tmod b → n.tmod b = n % b) := by
  have h1 := Int.tmod_eq_emod (a := n) (b := b)
  have h2 := Int.emod_nonneg n (show b ≠ 0 by omega)
  have h3 := Int.emod_lt_of_pos n hb
  split at h1 <;> omega

def firstI : List Int → Int
  | [] => 0
  | e :: r => if e = 0 then firstI r else e

theorem drop_get {xs : List Int} {i : Nat} (h : i < xs.length) : xs.drop i = xs.getD i 0 :: xs.drop (i + 1) := by
  rw [List.drop_eq_getElem_cons h]
  simp [List.getD, List.getElem?_eq_getElem h]

theorem getD_i (xs : List Int) (i : Nat) : List.getD xs ((i : Int)).toNat (Ty.dflt I64) = xs.getD i 0 := rfl

theorem firstI_step {xs : List Int} {i : Nat} (h : i < xs.length) : firstI (xs.drop i) = if xs.getD i 0 = 0 then firstI (xs.drop (i + 1)) else xs.getD i 0 := by
  rw [drop_get h]; rfl

def pLen (n : Nat) : Prop := (n : Int) ≤ 4611686018427387904
theorem pLen.out {n : Nat} (h : pLen n) : (n : Int) ≤ 4611686018427387904 := h
@[reducible] def sFirst : Spec := { pats := [.dat (.sl I64)], res := [{ t := I64 }], pre := fun x => pLen (List.length (α := Int) x.1), f := fun x => (firstI x.1, ()) }

def firstAnn (xs : List Int) : LoopAnn := { σ := Nat × Unit, pat := fun i => [sI 7 i.1], inv := fun i => i.1 ≤ xs.length ∧ firstI (xs.drop i.1) = firstI xs, meas := fun i => xs.length - i.1 }

/-- first -/
theorem h84 : Ok 51 sFirst := by
  refine mk (ctr := []) trivial (nt := 15) Tryd.func51 rfl rfl rfl rfl (by kernel_rfl) (by kernel_rfl) (fun x => [fun _ => firstAnn x.1]) ?_
  rintro ⟨(xs : List Int), _⟩ (hp : pLen xs.length)
  repeat' (intro hzz; (try (rename Two => hq; cases hq)); (try dsimp only at hzz); (try simp only [resTy, argTy, eqD, inR, big, wantOf, Bool.not_true, Bool.not_false, Bool.true_eq, decide_eq_true_eq, decide_eq_false_iff_not, Bool.not_eq_true', Bool.not_eq_false', Bool.and_eq_true, Prod.mk.injEq, and_true, true_and, Int.not_lt, Int.not_le, gt_iff_lt, ge_iff_le] at hzz); (try simp only [resTy, argTy, eqD, inR, big, wantOf, Bool.not_true, Bool.not_false, Bool.true_eq, decide_eq_true_eq, decide_eq_false_iff_not, Bool.not_eq_true', Bool.not_eq_false', Bool.and_eq_true, Prod.mk.injEq, and_true, true_and, Int.not_lt, Int.not_le, gt_iff_lt, ge_iff_le, getD_i] at hzz); (try (revert hzz; intro _)))
  all_goals try (rename Unit => hq; clear hq)
  all_goals try ((with_reducible refine Held.mk ?_); (with_reducible (first | refine Frz.mk ?_ | refine And.intro (Frz.mk ?_) ?_ | refine And.intro ?_ (Frz.mk ?_))); repeat' first | exact True.intro | (change _ = _; with_reducible rfl) | refine And.intro ?_ ?_ | (with_reducible refine Frz.mk ?_))
  all_goals try (refine Held.mk ?_; (try dsimp only at *); (try simp only [resTy, argTy, eqD, inR, big, wantOf, Bool.not_true, Bool.not_false, Bool.true_eq, decide_eq_true_eq, decide_eq_false_iff_not, Bool.not_eq_true', Bool.not_eq_false', Bool.and_eq_true, Prod.mk.injEq, and_true, true_and, Int.not_lt, Int.not_le, gt_iff_lt, ge_iff_le] at *); (try simp only [resTy, argTy, eqD, inR, big, wantOf, Bool.not_true, Bool.not_false, Bool.true_eq, decide_eq_true_eq, decide_eq_false_iff_not, Bool.not_eq_true', Bool.not_eq_false', Bool.and_eq_true, Prod.mk.injEq, and_true, true_and, Int.not_lt, Int.not_le, gt_iff_lt, ge_iff_le, getD_i] at *))
  ·
    refine GHeld.mk ?_
    refine Exists.intro (0, ()) ?_
    refine And.intro (Leaf.mk ?_) ?_
    · repeat' first | exact True.intro | refine And.intro ?_ ?_
      all_goals try ((change _ = _ <;> try dsimp only) <;> try with_reducible rfl)
      all_goals try omega
    exact ⟨Nat.zero_le _, rfl⟩
  · rename_i s hi hg
    obtain ⟨i, u⟩ := s
    dsimp only at hi hg
    exact ⟨Int.natCast_nonneg i, hg⟩
  · rename_i s hi hg hg'
    obtain ⟨i, u⟩ := s
    dsimp only at hi hg hg'
    try simp only [getD_i] at hg' ⊢
    have hlt : i < xs.length := by have : (i : Int) < xs.length := hg; omega
    have h1 := firstI_step hlt
    replace hg' : ¬ xs.getD i 0 = 0 := by simpa using hg'
    rw [if_neg hg', hi.2] at h1
    exact h1.symm
  · rename_i s hi hg hg'
    obtain ⟨i, u⟩ := s
    dsimp only at hi hg hg'
    try simp only [getD_i] at hg' ⊢
    have := hp.out
    have : (i : Int) < xs.length := hg
    have h0 : (0 : Int) ≤ (i : Int) := Int.natCast_nonneg i
    omega
  · rename_i s hi hg hg'
    obtain ⟨i, u⟩ := s
    dsimp only at hi hg hg'
    try simp only [getD_i] at hg' ⊢
    all_goals try dsimp only at hg hg'
    all_goals try simp only [resTy, argTy, eqD, inR, big, wantOf, Bool.not_true, Bool.not_false, Bool.true_eq, decide_eq_true_eq, decide_eq_false_iff_not, Bool.not_eq_true', Bool.not_eq_false', Bool.and_eq_true, Prod.mk.injEq, and_true, true_and, Int.not_lt, Int.not_le, gt_iff_lt, ge_iff_le] at hg hg'
    all_goals try simp only [resTy, argTy, eqD, inR, big, wantOf, Bool.not_true, Bool.not_false, Bool.true_eq, decide_eq_true_eq, decide_eq_false_iff_not, Bool.not_eq_true', Bool.not_eq_false', Bool.and_eq_true, Prod.mk.injEq, and_true, true_and, Int.not_lt, Int.not_le, gt_iff_lt, ge_iff_le, getD_i] at hg hg'
    have hlt : i < xs.length := by have : (i : Int) < xs.length := hg; omega
    have h1 := firstI_step hlt
    refine GHeld.mk ?_
    refine Exists.intro (i + 1, ()) ?_
    refine And.intro (Leaf.mk ?_) ?_
    · repeat' first | exact True.intro | refine And.intro ?_ ?_
      all_goals try ((change _ = _ <;> try dsimp only) <;> try with_reducible rfl)
      all_goals try omega
    replace hg' : xs.getD i 0 = 0 := by simpa using hg'
    rw [if_pos hg'] at h1
    exact ⟨⟨hlt, h1.symm.trans hi.2⟩, by simp only [firstAnn]; omega⟩
  · rename_i s hi hg
    obtain ⟨i, u⟩ := s
    dsimp only at hi hg
    have h1 := hi.2
    rw [List.drop_eq_nil_of_le (by have : (xs.length : Int) ≤ (i : Int) := hg; omega)] at h1
    exact h1


abbrev fWithin (n lo hi : Int) : Bool := decide (lo ≤ n ∧ n ≤ hi)
@[reducible] def sWithin : Spec := { pats := [.dat I64, .dat I64, .dat I64], res := [{ t := .bool }], pre := fun _ => True, f := fun x => (fWithin x.1 x.2.1 x.2.2.1, ()) }

/-- pulse.within -/
theorem h86 : Ok 29 sWithin := by
  refine mk (ctr := []) trivial (nt := 15) Tryd.func29 rfl rfl rfl rfl (by kernel_rfl) (by kernel_rfl) (fun _ => []) ?_
  rintro ⟨(n : Int), (lo : Int), (hi : Int), _⟩ _
  repeat' (intro hzz; (try (rename Two => hq; cases hq)); (try dsimp only at hzz); (try simp only [resTy, argTy, eqD, inR, big, wantOf, Bool.not_true, Bool.not_false, Bool.true_eq, decide_eq_true_eq, decide_eq_false_iff_not, Bool.not_eq_true', Bool.not_eq_false', Bool.and_eq_true, Prod.mk.injEq, and_true, true_and, Int.not_lt, Int.not_le, gt_iff_lt, ge_iff_le] at hzz); (try simp only [resTy, argTy, eqD, inR, big, wantOf, Bool.not_true, Bool.not_false, Bool.true_eq, decide_eq_true_eq, decide_eq_false_iff_not, Bool.not_eq_true', Bool.not_eq_false', Bool.and_eq_true, Prod.mk.injEq, and_true, true_and, Int.not_lt, Int.not_le, gt_iff_lt, ge_iff_le, fWithin] at hzz); (try (revert hzz; intro _)))
  all_goals try (rename Unit => hq; clear hq)
  all_goals try ((with_reducible refine Held.mk ?_); (with_reducible (first | refine Frz.mk ?_ | refine And.intro (Frz.mk ?_) ?_ | refine And.intro ?_ (Frz.mk ?_))); repeat' first | exact True.intro | (change _ = _; with_reducible rfl) | refine And.intro ?_ ?_ | (with_reducible refine Frz.mk ?_))
  all_goals try (refine Held.mk ?_; (try dsimp only at *); (try simp only [resTy, argTy, eqD, inR, big, wantOf, Bool.not_true, Bool.not_false, Bool.true_eq, decide_eq_true_eq, decide_eq_false_iff_not, Bool.not_eq_true', Bool.not_eq_false', Bool.and_eq_true, Prod.mk.injEq, and_true, true_and, Int.not_lt, Int.not_le, gt_iff_lt, ge_iff_le] at *); (try simp only [resTy, argTy, eqD, inR, big, wantOf, Bool.not_true, Bool.not_false, Bool.true_eq, decide_eq_true_eq, decide_eq_false_iff_not, Bool.not_eq_true', Bool.not_eq_false', Bool.and_eq_true, Prod.mk.injEq, and_true, true_and, Int.not_lt, Int.not_le, gt_iff_lt, ge_iff_le, fWithin] at *))
  all_goals (first | (simp only [decide_eq_decide]; omega) | (symm; simp only [decide_eq_false_iff_not]; omega) | trace_state)

/-- base.Within -/
theorem h25 : Ok 13 sWithin := by
  refine mk (ctr := []) trivial (nt := 15) Tryd.func13 rfl rfl rfl rfl (by kernel_rfl) (by kernel_rfl) (fun _ => []) ?_
  rintro ⟨(n : Int), (lo : Int), (hi : Int), _⟩ _
  repeat' (intro hzz; (try (rename Two => hq; cases hq)); (try dsimp only at hzz); (try simp only [resTy, argTy, eqD, inR, big, wantOf, Bool.not_true, Bool.not_false, Bool.true_eq, decide_eq_true_eq, decide_eq_false_iff_not, Bool.not_eq_true', Bool.not_eq_false', Bool.and_eq_true, Prod.mk.injEq, and_true, true_and, Int.not_lt, Int.not_le, gt_iff_lt, ge_iff_le] at hzz); (try simp only [resTy, argTy, eqD, inR, big, wantOf, Bool.not_true, Bool.not_false, Bool.true_eq, decide_eq_true_eq, decide_eq_false_iff_not, Bool.not_eq_true', Bool.not_eq_false', Bool.and_eq_true, Prod.mk.injEq, and_true, true_and, Int.not_lt, Int.not_le, gt_iff_lt, ge_iff_le, fWithin] at hzz); (try (revert hzz; intro _)))
  all_goals try (rename Unit => hq; clear hq)
  all_goals try ((with_reducible refine Held.mk ?_); (with_reducible (first | refine Frz.mk ?_ | refine And.intro (Frz.mk ?_) ?_ | refine And.intro ?_ (Frz.mk ?_))); repeat' first | exact True.intro | (change _ = _; with_reducible rfl) | refine And.intro ?_ ?_ | (with_reducible refine Frz.mk ?_))
  all_goals try (refine Held.mk ?_; (try dsimp only at *); (try simp only [resTy, argTy, eqD, inR, big, wantOf, Bool.not_true, Bool.not_false, Bool.true_eq, decide_eq_true_eq, decide_eq_false_iff_not, Bool.not_eq_true', Bool.not_eq_false', Bool.and_eq_true, Prod.mk.injEq, and_true, true_and, Int.not_lt, Int.not_le, gt_iff_lt, ge_iff_le] at *); (try simp only [resTy, argTy, eqD, inR, big, wantOf, Bool.not_true, Bool.not_false, Bool.true_eq, decide_eq_true_eq, decide_eq_false_iff_not, Bool.not_eq_true', Bool.not_eq_false', Bool.and_eq_true, Prod.mk.injEq, and_true, true_and, Int.not_lt, Int.not_le, gt_iff_lt, ge_iff_le, fWithin] at *))
  all_goals (first | (simp only [decide_eq_decide]; omega) | (symm; simp only [decide_eq_false_iff_not]; omega) | trace_state)

abbrev pSmall (m : Int) : Prop := 0 ≤ m ∧ m ≤ 9000000000000000000
@[reducible] def sSmall : Spec := { pats := [.dat I64, .dat I64], res := [{ t := .bool }], pre := fun x => pSmall x.2.1, f := fun x => (fWithin x.1 (-x.2.1) x.2.1, ()) }

/-- pulse.small -/
theorem h118 : Ok 75 sSmall := by
  refine mk (ctr := [(29, sWithin)]) ⟨h86, trivial⟩ (nt := 10) Tryd.func75 rfl rfl rfl rfl (by kernel_rfl) (by kernel_rfl) (fun _ => []) ?_
  rintro ⟨(n : Int), (m : Int), _⟩ ⟨h1, h2⟩
  repeat' (intro hzz; (try (rename Two => hq; cases hq)); (try dsimp only at hzz); (try simp only [resTy, argTy, eqD, inR, big, wantOf, Bool.not_true, Bool.not_false, Bool.true_eq, decide_eq_true_eq, decide_eq_false_iff_not, Bool.not_eq_true', Bool.not_eq_false', Bool.and_eq_true, Prod.mk.injEq, and_true, true_and, Int.not_lt, Int.not_le, gt_iff_lt, ge_iff_le] at hzz); (try simp only [resTy, argTy, eqD, inR, big, wantOf, Bool.not_true, Bool.not_false, Bool.true_eq, decide_eq_true_eq, decide_eq_false_iff_not, Bool.not_eq_true', Bool.not_eq_false', Bool.and_eq_true, Prod.mk.injEq, and_true, true_and, Int.not_lt, Int.not_le, gt_iff_lt, ge_iff_le, pSmall, fWithin] at hzz); (try (revert hzz; intro _)))
  all_goals try (rename Unit => hq; clear hq)
  all_goals try ((with_reducible refine Held.mk ?_); (with_reducible (first | refine Frz.mk ?_ | refine And.intro (Frz.mk ?_) ?_ | refine And.intro ?_ (Frz.mk ?_))); repeat' first | exact True.intro | (change _ = _; with_reducible rfl) | refine And.intro ?_ ?_ | (with_reducible refine Frz.mk ?_))
  all_goals try (refine Held.mk ?_; (try dsimp only at *); (try simp only [resTy, argTy, eqD, inR, big, wantOf, Bool.not_true, Bool.not_false, Bool.true_eq, decide_eq_true_eq, decide_eq_false_iff_not, Bool.not_eq_true', Bool.not_eq_false', Bool.and_eq_true, Prod.mk.injEq, and_true, true_and, Int.not_lt, Int.not_le, gt_iff_lt, ge_iff_le] at *); (try simp only [resTy, argTy, eqD, inR, big, wantOf, Bool.not_true, Bool.not_false, Bool.true_eq, decide_eq_true_eq, decide_eq_false_iff_not, Bool.not_eq_true', Bool.not_eq_false', Bool.and_eq_true, Prod.mk.injEq, and_true, true_and, Int.not_lt, Int.not_le, gt_iff_lt, ge_iff_le, pSmall, fWithin] at *))
  all_goals (first | omega | trace_state)

@[reducible] def sUnless : Spec := { pats := [.dat .bool, .dat I64], res := [{ t := I64 }], pre := fun _ => True, f := fun x => (cond x.1 0 x.2.1, ()) }

/-- pulse.unless -/
theorem h85 : Ok 52 sUnless := by
  refine mk (ctr := []) trivial (nt := 7) Tryd.func52 rfl rfl rfl rfl (by kernel_rfl) (by kernel_rfl) (fun _ => []) ?_
  rintro ⟨(b : Bool), (e : Int), _⟩ _
  repeat' (intro hzz; (try (rename Two => hq; cases hq)); (try dsimp only at hzz); (try simp only [resTy, argTy, eqD, inR, big, wantOf, Bool.not_true, Bool.not_false, Bool.true_eq, decide_eq_true_eq, decide_eq_false_iff_not, Bool.not_eq_true', Bool.not_eq_false', Bool.and_eq_true, Prod.mk.injEq, and_true, true_and, Int.not_lt, Int.not_le, gt_iff_lt, ge_iff_le] at hzz); (try (revert hzz; intro _)))
  all_goals try (rename Unit => hq; clear hq)
  all_goals try ((with_reducible refine Held.mk ?_); (with_reducible (first | refine Frz.mk ?_ | refine And.intro (Frz.mk ?_) ?_ | refine And.intro ?_ (Frz.mk ?_))); repeat' first | exact True.intro | (change _ = _; with_reducible rfl) | refine And.intro ?_ ?_ | (with_reducible refine Frz.mk ?_))
  all_goals try (refine Held.mk ?_; (try dsimp only at *); (try simp only [resTy, argTy, eqD, inR, big, wantOf, Bool.not_true, Bool.not_false, Bool.true_eq, decide_eq_true_eq, decide_eq_false_iff_not, Bool.not_eq_true', Bool.not_eq_false', Bool.and_eq_true, Prod.mk.injEq, and_true, true_and, Int.not_lt, Int.not_le, gt_iff_lt, ge_iff_le] at *))
  all_goals (first | (rename_i h; rw [h]; rfl) | trace_state)

abbrev fRec (n : Int) : Bool := fWithin n (-16777216) 16777216
@[reducible] def sRec : Spec := { pats := [.dat I64], res := [{ t := .bool }], pre := fun _ => True, f := fun x => (fRec x.1, ()) }

/-- pulse.isRecorded -/
theorem h117 : Ok 63 sRec := by
  refine mk (ctr := [(75, sSmall)]) ⟨h118, trivial⟩ (nt := 5) Tryd.func63 rfl rfl rfl rfl (by kernel_rfl) (by kernel_rfl) (fun _ => []) ?_
  rintro ⟨(n : Int), _⟩ _
  repeat' (intro hzz; (try (rename Two => hq; cases hq)); (try dsimp only at hzz); (try simp only [resTy, argTy, eqD, inR, big, wantOf, Bool.not_true, Bool.not_false, Bool.true_eq, decide_eq_true_eq, decide_eq_false_iff_not, Bool.not_eq_true', Bool.not_eq_false', Bool.and_eq_true, Prod.mk.injEq, and_true, true_and, Int.not_lt, Int.not_le, gt_iff_lt, ge_iff_le] at hzz); (try simp only [resTy, argTy, eqD, inR, big, wantOf, Bool.not_true, Bool.not_false, Bool.true_eq, decide_eq_true_eq, decide_eq_false_iff_not, Bool.not_eq_true', Bool.not_eq_false', Bool.and_eq_true, Prod.mk.injEq, and_true, true_and, Int.not_lt, Int.not_le, gt_iff_lt, ge_iff_le, pSmall, fWithin] at hzz); (try (revert hzz; intro _)))
  all_goals try (rename Unit => hq; clear hq)
  all_goals try ((with_reducible refine Held.mk ?_); (with_reducible (first | refine Frz.mk ?_ | refine And.intro (Frz.mk ?_) ?_ | refine And.intro ?_ (Frz.mk ?_))); repeat' first | exact True.intro | (change _ = _; with_reducible rfl) | refine And.intro ?_ ?_ | (with_reducible refine Frz.mk ?_))
  all_goals try (refine Held.mk ?_; (try dsimp only at *); (try simp only [resTy, argTy, eqD, inR, big, wantOf, Bool.not_true, Bool.not_false, Bool.true_eq, decide_eq_true_eq, decide_eq_false_iff_not, Bool.not_eq_true', Bool.not_eq_false', Bool.and_eq_true, Prod.mk.injEq, and_true, true_and, Int.not_lt, Int.not_le, gt_iff_lt, ge_iff_le] at *); (try simp only [resTy, argTy, eqD, inR, big, wantOf, Bool.not_true, Bool.not_false, Bool.true_eq, decide_eq_true_eq, decide_eq_false_iff_not, Bool.not_eq_true', Bool.not_eq_false', Bool.and_eq_true, Prod.mk.injEq, and_true, true_and, Int.not_lt, Int.not_le, gt_iff_lt, ge_iff_le, pSmall, fWithin] at *))
  all_goals (first | omega | trace_state)

abbrev fPrm (n : Int) : Bool := fWithin n (-2147483647) 2147483647
@[reducible] def sPrm : Spec := { pats := [.dat I64], res := [{ t := .bool }], pre := fun _ => True, f := fun x => (fPrm x.1, ()) }

/-- openField's literal -/
theorem h152 : Ok 74 sPrm := by
  refine mk (ctr := [(75, sSmall)]) ⟨h118, trivial⟩ (nt := 5) Tryd.func74 rfl rfl rfl rfl (by kernel_rfl) (by kernel_rfl) (fun _ => []) ?_
  rintro ⟨(n : Int), _⟩ _
  repeat' (intro hzz; (try (rename Two => hq; cases hq)); (try dsimp only at hzz); (try simp only [resTy, argTy, eqD, inR, big, wantOf, Bool.not_true, Bool.not_false, Bool.true_eq, decide_eq_true_eq, decide_eq_false_iff_not, Bool.not_eq_true', Bool.not_eq_false', Bool.and_eq_true, Prod.mk.injEq, and_true, true_and, Int.not_lt, Int.not_le, gt_iff_lt, ge_iff_le] at hzz); (try simp only [resTy, argTy, eqD, inR, big, wantOf, Bool.not_true, Bool.not_false, Bool.true_eq, decide_eq_true_eq, decide_eq_false_iff_not, Bool.not_eq_true', Bool.not_eq_false', Bool.and_eq_true, Prod.mk.injEq, and_true, true_and, Int.not_lt, Int.not_le, gt_iff_lt, ge_iff_le, pSmall, fWithin] at hzz); (try (revert hzz; intro _)))
  all_goals try (rename Unit => hq; clear hq)
  all_goals try ((with_reducible refine Held.mk ?_); (with_reducible (first | refine Frz.mk ?_ | refine And.intro (Frz.mk ?_) ?_ | refine And.intro ?_ (Frz.mk ?_))); repeat' first | exact True.intro | (change _ = _; with_reducible rfl) | refine And.intro ?_ ?_ | (with_reducible refine Frz.mk ?_))
  all_goals try (refine Held.mk ?_; (try dsimp only at *); (try simp only [resTy, argTy, eqD, inR, big, wantOf, Bool.not_true, Bool.not_false, Bool.true_eq, decide_eq_true_eq, decide_eq_false_iff_not, Bool.not_eq_true', Bool.not_eq_false', Bool.and_eq_true, Prod.mk.injEq, and_true, true_and, Int.not_lt, Int.not_le, gt_iff_lt, ge_iff_le] at *); (try simp only [resTy, argTy, eqD, inR, big, wantOf, Bool.not_true, Bool.not_false, Bool.true_eq, decide_eq_true_eq, decide_eq_false_iff_not, Bool.not_eq_true', Bool.not_eq_false', Bool.and_eq_true, Prod.mk.injEq, and_true, true_and, Int.not_lt, Int.not_le, gt_iff_lt, ge_iff_le, pSmall, fWithin] at *))
  all_goals (first | omega | trace_state)

abbrev fMod (n b : Int) : Int := n % b
@[reducible] def sMod : Spec := { pats := [.dat I64, .dat I64], res := [{ t := I64 }], pre := fun x => 0 < x.2.1 ∧ x.2.1 ≤ 2000000000000000000, f := fun x => (fMod x.1 x.2.1, ()) }

/-- pulse.modulo -/
theorem h109 : Ok 68 sMod := by
  refine mk (ctr := []) trivial (nt := 14) Tryd.func68 rfl rfl rfl rfl (by kernel_rfl) (by kernel_rfl) (fun _ => []) ?_
  rintro ⟨(n : Int), (b : Int), _⟩ ⟨(h1 : 0 < b), (h2 : b ≤ 2000000000000000000)⟩
  have h3 := tmod_sz n b h1
  have h4 := tmod_mod (n := n) h1
  repeat' (intro hzz; (try (rename Two => hq; cases hq)); (try dsimp only at hzz); (try simp only [resTy, argTy, eqD, inR, big, wantOf, Bool.not_true, Bool.not_false, Bool.true_eq, decide_eq_true_eq, decide_eq_false_iff_not, Bool.not_eq_true', Bool.not_eq_false', Bool.and_eq_true, Prod.mk.injEq, and_true, true_and, Int.not_lt, Int.not_le, gt_iff_lt, ge_iff_le] at hzz); (try simp only [resTy, argTy, eqD, inR, big, wantOf, Bool.not_true, Bool.not_false, Bool.true_eq, decide_eq_true_eq, decide_eq_false_iff_not, Bool.not_eq_true', Bool.not_eq_false', Bool.and_eq_true, Prod.mk.injEq, and_true, true_and, Int.not_lt, Int.not_le, gt_iff_lt, ge_iff_le, fMod] at hzz); (try (revert hzz; intro _)))
  all_goals try (rename Unit => hq; clear hq)
  all_goals try ((with_reducible refine Held.mk ?_); (with_reducible (first | refine Frz.mk ?_ | refine And.intro (Frz.mk ?_) ?_ | refine And.intro ?_ (Frz.mk ?_))); repeat' first | exact True.intro | (change _ = _; with_reducible rfl) | refine And.intro ?_ ?_ | (with_reducible refine Frz.mk ?_))
  all_goals try (refine Held.mk ?_; (try dsimp only at *); (try simp only [resTy, argTy, eqD, inR, big, wantOf, Bool.not_true, Bool.not_false, Bool.true_eq, decide_eq_true_eq, decide_eq_false_iff_not, Bool.not_eq_true', Bool.not_eq_false', Bool.and_eq_true, Prod.mk.injEq, and_true, true_and, Int.not_lt, Int.not_le, gt_iff_lt, ge_iff_le] at *); (try simp only [resTy, argTy, eqD, inR, big, wantOf, Bool.not_true, Bool.not_false, Bool.true_eq, decide_eq_true_eq, decide_eq_false_iff_not, Bool.not_eq_true', Bool.not_eq_false', Bool.and_eq_true, Prod.mk.injEq, and_true, true_and, Int.not_lt, Int.not_le, gt_iff_lt, ge_iff_le, fMod] at *))
  all_goals try omega

@[reducible] def sTwo : Spec := { pats := [], res := [{ t := Reg0 }], pre := fun _ => True, f := fun _ => (((2 : Int), ([1, 2] : List Int), ()), ()) }

/-- Two -/
theorem h82 : Ok 23 sTwo := by
  refine mk (ctr := []) trivial (nt := 3) Tryd.func23 rfl rfl rfl rfl (by kernel_rfl) (by kernel_rfl) (fun _ => []) ?_
  rintro _ _
  repeat' (intro hzz; (try (rename Two => hq; cases hq)); (try dsimp only at hzz); (try simp only [resTy, argTy, eqD, inR, big, wantOf, Bool.not_true, Bool.not_false, Bool.true_eq, decide_eq_true_eq, decide_eq_false_iff_not, Bool.not_eq_true', Bool.not_eq_false', Bool.and_eq_true, Prod.mk.injEq, and_true, true_and, Int.not_lt, Int.not_le, gt_iff_lt, ge_iff_le] at hzz); (try (revert hzz; intro _)))
  all_goals try (rename Unit => hq; clear hq)
  all_goals try ((with_reducible refine Held.mk ?_); (with_reducible (first | refine Frz.mk ?_ | refine And.intro (Frz.mk ?_) ?_ | refine And.intro ?_ (Frz.mk ?_))); repeat' first | exact True.intro | (change _ = _; with_reducible rfl) | refine And.intro ?_ ?_ | (with_reducible refine Frz.mk ?_))
  all_goals try (refine Held.mk ?_; (try dsimp only at *); (try simp only [resTy, argTy, eqD, inR, big, wantOf, Bool.not_true, Bool.not_false, Bool.true_eq, decide_eq_true_eq, decide_eq_false_iff_not, Bool.not_eq_true', Bool.not_eq_false', Bool.and_eq_true, Prod.mk.injEq, and_true, true_and, Int.not_lt, Int.not_le, gt_iff_lt, ge_iff_le] at *))

@[reducible] def sCopyInts : Spec := { pats := [.dat (.sl I64)], res := [{ t := .sl I64 }], pre := fun x => pLen (List.length (α := Int) x.1) ∧ List.length (α := Int) x.1 ≤ 2000000000, f := fun x => (x.1, ()) }

/-- base.CopyInts -/
theorem h36 : Ok 49 sCopyInts := by
  refine mk (ctr := []) trivial (nt := 6) Tryd.func49 rfl rfl rfl rfl (by kernel_rfl) (by kernel_rfl) (fun _ => []) ?_
  rintro ⟨(xs : List Int), _⟩ ⟨_, (h : xs.length ≤ 2000000000)⟩
  repeat' (intro hzz; (try (rename Two => hq; cases hq)); (try dsimp only at hzz); (try simp only [resTy, argTy, eqD, inR, big, wantOf, Bool.not_true, Bool.not_false, Bool.true_eq, decide_eq_true_eq, decide_eq_false_iff_not, Bool.not_eq_true', Bool.not_eq_false', Bool.and_eq_true, Prod.mk.injEq, and_true, true_and, Int.not_lt, Int.not_le, gt_iff_lt, ge_iff_le] at hzz); (try (revert hzz; intro _)))
  all_goals try (rename Unit => hq; clear hq)
  all_goals try ((with_reducible refine Held.mk ?_); (with_reducible (first | refine Frz.mk ?_ | refine And.intro (Frz.mk ?_) ?_ | refine And.intro ?_ (Frz.mk ?_))); repeat' first | exact True.intro | (change _ = _; with_reducible rfl) | refine And.intro ?_ ?_ | (with_reducible refine Frz.mk ?_))
  all_goals try (refine Held.mk ?_; (try dsimp only at *); (try simp only [resTy, argTy, eqD, inR, big, wantOf, Bool.not_true, Bool.not_false, Bool.true_eq, decide_eq_true_eq, decide_eq_false_iff_not, Bool.not_eq_true', Bool.not_eq_false', Bool.and_eq_true, Prod.mk.injEq, and_true, true_and, Int.not_lt, Int.not_le, gt_iff_lt, ge_iff_le] at *))
  all_goals first | exact List.nil_append _ | (show ([] : List Int).length + xs.length ≤ 2147483648; simp; omega)

end Go.Eng.Pu

namespace Go.Eng.Pu
open Go.Eng Go.Proofs
set_option linter.all false
set_option maxRecDepth 100000
set_option maxHeartbeats 8000000

def M32 : Int := 16777216 * fS .f32

/-- The error of a part. -/
def pE (x : Nat) : Int := if fN .f32 x = true then (if M32 < fV .f32 x ∨ fV .f32 x < -M32 then 2 else if fWh .f32 x = true then 0 else 27) else 27

theorem c32 : fN .f32 1266679808 = true ∧ fN .f32 3414163456 = true ∧ fV .f32 1266679808 = M32 ∧ fV .f32 3414163456 = -M32 := by decide +kernel

theorem fT_small {x : Nat} (h1 : ¬ M32 < fV .f32 x) (h2 : ¬ fV .f32 x < -M32) : -16777216 ≤ fT .f32 x ∧ fT .f32 x ≤ 16777216 := by
  have h0 := fS_pos .f32
  unfold M32 at h1 h2
  unfold fT
  generalize fS .f32 = S at *
  generalize fV .f32 x = V at *
  constructor
  · by_cases hv : 0 ≤ V
    · rw [Int.tdiv_eq_ediv_of_nonneg hv]; have := Int.ediv_nonneg hv (by omega : 0 ≤ S); omega
    · have e : V.tdiv S = -((-V).tdiv S) := by rw [Int.neg_tdiv]; omega
      rw [e, Int.tdiv_eq_ediv_of_nonneg (by omega)]
      have : (-V) / S ≤ 16777216 := by
        have := Int.ediv_le_ediv h0 (show -V ≤ 16777216 * S by omega)
        rwa [Int.mul_ediv_cancel _ (by omega)] at this
      omega
  · by_cases hv : 0 ≤ V
    · rw [Int.tdiv_eq_ediv_of_nonneg hv]
      have := Int.ediv_le_ediv h0 (show V ≤ 16777216 * S by omega)
      rwa [Int.mul_ediv_cancel _ (by omega)] at this
    · have e : V.tdiv S = -((-V).tdiv S) := by rw [Int.neg_tdiv]; omega
      rw [e, Int.tdiv_eq_ediv_of_nonneg (by omega)]
      have := Int.ediv_nonneg (show 0 ≤ -V by omega) (by omega : 0 ≤ S)
      omega

theorem not_num {k : FloatKind} {x : Nat} (h : ¬ fN k x = true) : (∃ s, k.format.read x = .infinity s) ∨ ∃ s f, k.format.read x = .nan s f := by
  unfold fN at h
  cases hd : k.format.read x with
  | number s m i => rw [hd] at h; exact absurd rfl h
  | infinity s => exact .inl ⟨s, rfl⟩
  | nan s f => exact .inr ⟨s, f, rfl⟩

theorem fok_none {k : FloatKind} {n : Nat} (h : fok k none n) (y : Nat) : k.format.order n y = none := by
  rcases h with h | ⟨_, h⟩
  · cases h
  · obtain ⟨s, f, e⟩ := read_nan h
    exact (order_nan e y).1

@[reducible] def sPartE : Spec := { pats := [.dat F32], res := [{ t := I64 }], pre := fun _ => True, f := fun x => (pE x.1, ()) }

theorem fok_some {k : FloatKind} {m n : Nat} (h : fok k (some m) n) : n = m := by
  rcases h with h | ⟨h, _⟩
  · exact (Option.some.inj h).symm
  · cases h

theorem zz32 : (FloatKind.f32.format.order 0 0 != some .eq) = false := by decide
theorem zz64 : (FloatKind.f64.format.order 0 0 != some .eq) = false := by decide
theorem bne_of {α : Type} [BEq α] {a b : α} (h : (a == b) = true) : (a != b) = false := by simp [bne, h]
theorem nan_bne {k : FloatKind} {n : Nat} (h : fok k none n) {y : Nat} (h2 : (k.format.order n y != some .eq) = false) : False := by
  rw [fok_none h] at h2; cases h2

/-- partErr -/
theorem h147n : Ok 64 sPartE := by
  refine mkN (X := x0) (hX := x0_ok) (ctr := [(52, sUnless)]) ⟨h85, trivial⟩ (nt := 26) Tryd.func64 rfl rfl rfl rfl (by kernel_rfl) (by kernel_rfl) (fun _ => []) ?_
  rintro ⟨(x : Nat), _⟩ _
  by_cases hN : fN .f32 x = true
  · have o1 := bne_of (show (FloatKind.f32.format.order x x == some .eq) = true by rw [cmp_eq hN hN]; simp)
    have s1 := sub_num hN
    have g1 := cmp_gt hN c32.1
    have g2 := cmp_lt hN c32.2.1
    rw [c32.2.2.1] at g1
    rw [c32.2.2.2] at g2
    have f1 := foi_fT hN
    have f2 := cmp_eq f1.1 hN
    rw [f1.2] at f2
    have z := zz32
    by_cases h1 : M32 < fV .f32 x
    · have u : pE x = 2 := by unfold pE; rw [if_pos hN, if_pos (.inl h1)]
      repeat' (intro hzz; (try (rename Two => hq; cases hq)); (try dsimp only at hzz); (try simp only [resTy, argTy, eqD, inR, big, wantOf, Bool.not_true, Bool.not_false, Bool.true_eq, decide_eq_true_eq, decide_eq_false_iff_not, Bool.not_eq_true', Bool.not_eq_false', Bool.and_eq_true, Prod.mk.injEq, and_true, true_and, Int.not_lt, Int.not_le, gt_iff_lt, ge_iff_le] at hzz); (try simp only [resTy, argTy, eqD, inR, big, wantOf, Bool.not_true, Bool.not_false, Bool.true_eq, decide_eq_true_eq, decide_eq_false_iff_not, Bool.not_eq_true', Bool.not_eq_false', Bool.and_eq_true, Prod.mk.injEq, and_true, true_and, Int.not_lt, Int.not_le, gt_iff_lt, ge_iff_le, o1, s1, g1, z, u] at hzz); (try (first | contradiction | (exfalso; omega))); (try (have hq := fok_some hzz; subst hq)); (try (revert hzz; intro _)))
      all_goals try (rename Unit => hq; clear hq)
      all_goals try ((with_reducible refine Held.mk ?_); (with_reducible (first | refine Frz.mk ?_ | refine And.intro (Frz.mk ?_) ?_ | refine And.intro ?_ (Frz.mk ?_))); repeat' first | exact True.intro | (change _ = _; with_reducible rfl) | refine And.intro ?_ ?_ | (with_reducible refine Frz.mk ?_))
      all_goals try (refine Held.mk ?_; (try dsimp only at *); (try simp only [resTy, argTy, eqD, inR, big, wantOf, Bool.not_true, Bool.not_false, Bool.true_eq, decide_eq_true_eq, decide_eq_false_iff_not, Bool.not_eq_true', Bool.not_eq_false', Bool.and_eq_true, Prod.mk.injEq, and_true, true_and, Int.not_lt, Int.not_le, gt_iff_lt, ge_iff_le] at *); (try simp only [resTy, argTy, eqD, inR, big, wantOf, Bool.not_true, Bool.not_false, Bool.true_eq, decide_eq_true_eq, decide_eq_false_iff_not, Bool.not_eq_true', Bool.not_eq_false', Bool.and_eq_true, Prod.mk.injEq, and_true, true_and, Int.not_lt, Int.not_le, gt_iff_lt, ge_iff_le, o1, s1, g1, z, u] at *))
      all_goals try omega
    · by_cases h2 : fV .f32 x < -M32
      · have u : pE x = 2 := by unfold pE; rw [if_pos hN, if_pos (.inr h2)]
        repeat' (intro hzz; (try (rename Two => hq; cases hq)); (try dsimp only at hzz); (try simp only [resTy, argTy, eqD, inR, big, wantOf, Bool.not_true, Bool.not_false, Bool.true_eq, decide_eq_true_eq, decide_eq_false_iff_not, Bool.not_eq_true', Bool.not_eq_false', Bool.and_eq_true, Prod.mk.injEq, and_true, true_and, Int.not_lt, Int.not_le, gt_iff_lt, ge_iff_le] at hzz); (try simp only [resTy, argTy, eqD, inR, big, wantOf, Bool.not_true, Bool.not_false, Bool.true_eq, decide_eq_true_eq, decide_eq_false_iff_not, Bool.not_eq_true', Bool.not_eq_false', Bool.and_eq_true, Prod.mk.injEq, and_true, true_and, Int.not_lt, Int.not_le, gt_iff_lt, ge_iff_le, o1, s1, g1, g2, z, u] at hzz); (try (first | contradiction | (exfalso; omega))); (try (have hq := fok_some hzz; subst hq)); (try (revert hzz; intro _)))
        all_goals try (rename Unit => hq; clear hq)
        all_goals try ((with_reducible refine Held.mk ?_); (with_reducible (first | refine Frz.mk ?_ | refine And.intro (Frz.mk ?_) ?_ | refine And.intro ?_ (Frz.mk ?_))); repeat' first | exact True.intro | (change _ = _; with_reducible rfl) | refine And.intro ?_ ?_ | (with_reducible refine Frz.mk ?_))
        all_goals try (refine Held.mk ?_; (try dsimp only at *); (try simp only [resTy, argTy, eqD, inR, big, wantOf, Bool.not_true, Bool.not_false, Bool.true_eq, decide_eq_true_eq, decide_eq_false_iff_not, Bool.not_eq_true', Bool.not_eq_false', Bool.and_eq_true, Prod.mk.injEq, and_true, true_and, Int.not_lt, Int.not_le, gt_iff_lt, ge_iff_le] at *); (try simp only [resTy, argTy, eqD, inR, big, wantOf, Bool.not_true, Bool.not_false, Bool.true_eq, decide_eq_true_eq, decide_eq_false_iff_not, Bool.not_eq_true', Bool.not_eq_false', Bool.and_eq_true, Prod.mk.injEq, and_true, true_and, Int.not_lt, Int.not_le, gt_iff_lt, ge_iff_le, o1, s1, g1, g2, z, u] at *))
        all_goals try omega
      · have ht := fT_small h1 h2
        have f3 := f2i_fT hN (by omega) (by omega)
        have u : pE x = if fWh .f32 x = true then 0 else 27 := by unfold pE; rw [if_pos hN, if_neg (fun h => h.elim h1 h2)]
        repeat' (intro hzz; (try (rename Two => hq; cases hq)); (try dsimp only at hzz); (try simp only [resTy, argTy, eqD, inR, big, wantOf, Bool.not_true, Bool.not_false, Bool.true_eq, decide_eq_true_eq, decide_eq_false_iff_not, Bool.not_eq_true', Bool.not_eq_false', Bool.and_eq_true, Prod.mk.injEq, and_true, true_and, Int.not_lt, Int.not_le, gt_iff_lt, ge_iff_le] at hzz); (try simp only [resTy, argTy, eqD, inR, big, wantOf, Bool.not_true, Bool.not_false, Bool.true_eq, decide_eq_true_eq, decide_eq_false_iff_not, Bool.not_eq_true', Bool.not_eq_false', Bool.and_eq_true, Prod.mk.injEq, and_true, true_and, Int.not_lt, Int.not_le, gt_iff_lt, ge_iff_le, o1, s1, g1, g2, f3, f2, z, u, Option.getD_some, Option.isSome_some] at hzz); (try (first | contradiction | (exfalso; omega))); (try (have hq := fok_some hzz; subst hq)); (try (revert hzz; intro _)))
        all_goals try (rename Unit => hq; clear hq)
        all_goals try ((with_reducible refine Held.mk ?_); (with_reducible (first | refine Frz.mk ?_ | refine And.intro (Frz.mk ?_) ?_ | refine And.intro ?_ (Frz.mk ?_))); repeat' first | exact True.intro | (change _ = _; with_reducible rfl) | refine And.intro ?_ ?_ | (with_reducible refine Frz.mk ?_))
        all_goals try (refine Held.mk ?_; (try dsimp only at *); (try simp only [resTy, argTy, eqD, inR, big, wantOf, Bool.not_true, Bool.not_false, Bool.true_eq, decide_eq_true_eq, decide_eq_false_iff_not, Bool.not_eq_true', Bool.not_eq_false', Bool.and_eq_true, Prod.mk.injEq, and_true, true_and, Int.not_lt, Int.not_le, gt_iff_lt, ge_iff_le] at *); (try simp only [resTy, argTy, eqD, inR, big, wantOf, Bool.not_true, Bool.not_false, Bool.true_eq, decide_eq_true_eq, decide_eq_false_iff_not, Bool.not_eq_true', Bool.not_eq_false', Bool.and_eq_true, Prod.mk.injEq, and_true, true_and, Int.not_lt, Int.not_le, gt_iff_lt, ge_iff_le, o1, s1, g1, g2, f3, f2, z, u, Option.getD_some, Option.isSome_some] at *))
        all_goals try omega
        unfold fWh
        cases decide (fT .f32 x * fS .f32 = fV .f32 x) <;> rfl
  · have u : pE x = 27 := if_neg hN
    rcases not_num hN with ⟨s, e⟩ | ⟨s, f, e⟩
    · have o1 := bne_of (show (FloatKind.f32.format.order x x == some .eq) = true by rw [(order_inf e).1]; rfl)
      have s1 := (order_inf e).2
      repeat' (intro hzz; (try (rename Two => hq; cases hq)); (try dsimp only at hzz); (try simp only [resTy, argTy, eqD, inR, big, wantOf, Bool.not_true, Bool.not_false, Bool.true_eq, decide_eq_true_eq, decide_eq_false_iff_not, Bool.not_eq_true', Bool.not_eq_false', Bool.and_eq_true, Prod.mk.injEq, and_true, true_and, Int.not_lt, Int.not_le, gt_iff_lt, ge_iff_le] at hzz); (try simp only [resTy, argTy, eqD, inR, big, wantOf, Bool.not_true, Bool.not_false, Bool.true_eq, decide_eq_true_eq, decide_eq_false_iff_not, Bool.not_eq_true', Bool.not_eq_false', Bool.and_eq_true, Prod.mk.injEq, and_true, true_and, Int.not_lt, Int.not_le, gt_iff_lt, ge_iff_le, o1, s1, u] at hzz); (try (first | contradiction | (exfalso; omega))); (try (exfalso; exact nan_bne (by assumption) hzz)); (try (revert hzz; intro _)))
      all_goals try (rename Unit => hq; clear hq)
      all_goals try ((with_reducible refine Held.mk ?_); (with_reducible (first | refine Frz.mk ?_ | refine And.intro (Frz.mk ?_) ?_ | refine And.intro ?_ (Frz.mk ?_))); repeat' first | exact True.intro | (change _ = _; with_reducible rfl) | refine And.intro ?_ ?_ | (with_reducible refine Frz.mk ?_))
      all_goals try (refine Held.mk ?_; (try dsimp only at *); (try simp only [resTy, argTy, eqD, inR, big, wantOf, Bool.not_true, Bool.not_false, Bool.true_eq, decide_eq_true_eq, decide_eq_false_iff_not, Bool.not_eq_true', Bool.not_eq_false', Bool.and_eq_true, Prod.mk.injEq, and_true, true_and, Int.not_lt, Int.not_le, gt_iff_lt, ge_iff_le] at *); (try simp only [resTy, argTy, eqD, inR, big, wantOf, Bool.not_true, Bool.not_false, Bool.true_eq, decide_eq_true_eq, decide_eq_false_iff_not, Bool.not_eq_true', Bool.not_eq_false', Bool.and_eq_true, Prod.mk.injEq, and_true, true_and, Int.not_lt, Int.not_le, gt_iff_lt, ge_iff_le, o1, s1, u] at *))
      all_goals try omega
    · have o1 : (FloatKind.f32.format.order x x != some .eq) = true := by rw [(order_nan e x).1]; rfl
      repeat' (intro hzz; (try (rename Two => hq; cases hq)); (try dsimp only at hzz); (try simp only [resTy, argTy, eqD, inR, big, wantOf, Bool.not_true, Bool.not_false, Bool.true_eq, decide_eq_true_eq, decide_eq_false_iff_not, Bool.not_eq_true', Bool.not_eq_false', Bool.and_eq_true, Prod.mk.injEq, and_true, true_and, Int.not_lt, Int.not_le, gt_iff_lt, ge_iff_le] at hzz); (try simp only [resTy, argTy, eqD, inR, big, wantOf, Bool.not_true, Bool.not_false, Bool.true_eq, decide_eq_true_eq, decide_eq_false_iff_not, Bool.not_eq_true', Bool.not_eq_false', Bool.and_eq_true, Prod.mk.injEq, and_true, true_and, Int.not_lt, Int.not_le, gt_iff_lt, ge_iff_le, o1, u] at hzz); (try (first | contradiction | (exfalso; omega))); (try (revert hzz; intro _)))
      all_goals try (rename Unit => hq; clear hq)
      all_goals try ((with_reducible refine Held.mk ?_); (with_reducible (first | refine Frz.mk ?_ | refine And.intro (Frz.mk ?_) ?_ | refine And.intro ?_ (Frz.mk ?_))); repeat' first | exact True.intro | (change _ = _; with_reducible rfl) | refine And.intro ?_ ?_ | (with_reducible refine Frz.mk ?_))
      all_goals try (refine Held.mk ?_; (try dsimp only at *); (try simp only [resTy, argTy, eqD, inR, big, wantOf, Bool.not_true, Bool.not_false, Bool.true_eq, decide_eq_true_eq, decide_eq_false_iff_not, Bool.not_eq_true', Bool.not_eq_false', Bool.and_eq_true, Prod.mk.injEq, and_true, true_and, Int.not_lt, Int.not_le, gt_iff_lt, ge_iff_le] at *); (try simp only [resTy, argTy, eqD, inR, big, wantOf, Bool.not_true, Bool.not_false, Bool.true_eq, decide_eq_true_eq, decide_eq_false_iff_not, Bool.not_eq_true', Bool.not_eq_false', Bool.and_eq_true, Prod.mk.injEq, and_true, true_and, Int.not_lt, Int.not_le, gt_iff_lt, ge_iff_le, o1, u] at *))
      all_goals try omega

/-! ### Whole floats -/

theorem fWh_dvd {k : FloatKind} {x : Nat} (h : fS k ∣ fV k x) : fWh k x = true := by
  unfold fWh fT
  exact decide_eq_true (Int.tdiv_mul_cancel h)

/-- All that are so great are whole. -/
theorem big_whole {k : FloatKind} {x : Nat} (hN : fN k x = true) (h : ((2 * k.format.binade : Nat) : Int) * fS k < fV k x ∨ fV k x < -(((2 * k.format.binade : Nat) : Int) * fS k)) : fWh k x = true := by
  obtain ⟨s, m, i, e⟩ := fN_ex hN
  obtain ⟨h1, h2, _⟩ := read_log k.format x (fmt_exp k) e
  have hv : fV k x = sg s (m * 2 ^ (i - k.format.leastPlace).toNat) := by
    unfold fV; rw [e]; exact signed_sg _ _ _
  have hlp := fmt_lp k
  by_cases hi : 0 ≤ i
  · apply fWh_dvd
    rw [hv]
    have hd : (2 ^ scF k.format) ∣ m * 2 ^ (i - k.format.leastPlace).toNat := by
      unfold scF
      rw [show (i - k.format.leastPlace).toNat = i.toNat + (-k.format.leastPlace).toNat by omega, Nat.pow_add, ← Nat.mul_assoc]
      exact Nat.dvd_mul_left _ _
    have hd2 : fS k ∣ ((m * 2 ^ (i - k.format.leastPlace).toNat : Nat) : Int) := Int.ofNat_dvd.2 hd
    unfold sg
    cases s
    · exact hd2
    · exact Int.dvd_neg.2 hd2
  · exfalso
    have hlt : m * 2 ^ (i - k.format.leastPlace).toNat ≤ 2 * k.format.binade * 2 ^ scF k.format := by
      apply Nat.mul_le_mul (by omega)
      apply Nat.pow_le_pow_right (by omega)
      unfold scF; omega
    have hlt2 : ((m * 2 ^ (i - k.format.leastPlace).toNat : Nat) : Int) ≤ ((2 * k.format.binade : Nat) : Int) * fS k := by
      unfold fS
      rw [← Int.natCast_mul]
      exact Int.ofNat_le.2 hlt
    rw [hv] at h
    unfold sg at h
    generalize ((2 * k.format.binade : Nat) : Int) * fS k = C at *
    generalize m * 2 ^ (i - k.format.leastPlace).toNat = D at *
    cases s <;> simp only [Bool.false_eq_true, if_false, if_true] at h <;> omega

def M64 : Int := 10000000000000000 * fS .f64
def iwh (y : Nat) : Bool := fN .f64 y && fWh .f64 y
def pW (x : Nat) : Bool := fN .f32 x && fWh .f32 x

theorem c64 : fN .f64 14069741636278059008 = true ∧ fN .f64 4846369599423283200 = true ∧ fV .f64 14069741636278059008 = -M64 ∧ fV .f64 4846369599423283200 = M64 := by decide +kernel

theorem fT_small64 {x : Nat} (h1 : fV .f64 x ≤ M64) (h2 : -M64 ≤ fV .f64 x) : -10000000000000000 ≤ fT .f64 x ∧ fT .f64 x ≤ 10000000000000000 := by
  have h0 := fS_pos .f64
  unfold M64 at h1 h2
  unfold fT
  generalize fS .f64 = S at *
  generalize fV .f64 x = V at *
  constructor
  · by_cases hv : 0 ≤ V
    · rw [Int.tdiv_eq_ediv_of_nonneg hv]; have := Int.ediv_nonneg hv (by omega : 0 ≤ S); omega
    · have e : V.tdiv S = -((-V).tdiv S) := by rw [Int.neg_tdiv]; omega
      rw [e, Int.tdiv_eq_ediv_of_nonneg (by omega)]
      have : (-V) / S ≤ 10000000000000000 := by
        have := Int.ediv_le_ediv h0 (show -V ≤ 10000000000000000 * S by omega)
        rwa [Int.mul_ediv_cancel _ (by omega)] at this
      omega
  · by_cases hv : 0 ≤ V
    · rw [Int.tdiv_eq_ediv_of_nonneg hv]
      have := Int.ediv_le_ediv h0 (show V ≤ 10000000000000000 * S by omega)
      rwa [Int.mul_ediv_cancel _ (by omega)] at this
    · have e : V.tdiv S = -((-V).tdiv S) := by rw [Int.neg_tdiv]; omega
      rw [e, Int.tdiv_eq_ediv_of_nonneg (by omega)]
      have := Int.ediv_nonneg (show 0 ≤ -V by omega) (by omega : 0 ≤ S)
      omega

theorem big64 {x : Nat} (hN : fN .f64 x = true) (h : M64 < fV .f64 x ∨ fV .f64 x < -M64) : fWh .f64 x = true := by
  apply big_whole hN
  have hb : ((2 * FloatKind.f64.format.binade : Nat) : Int) = 9007199254740992 := by decide
  have h0 := fS_pos .f64
  rw [hb]
  unfold M64 at h
  omega

@[reducible] def sIsWh : Spec := { pats := [.dat (.flt .f64)], res := [{ t := .bool }], pre := fun _ => True, f := fun x => (iwh x.1, ()) }

end Go.Eng.Pu
