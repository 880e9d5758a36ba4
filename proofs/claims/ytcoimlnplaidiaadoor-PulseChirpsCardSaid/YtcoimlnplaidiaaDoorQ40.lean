/- Floats in plain terms: what a word of a format stands for, exact numbers, order, whole numbers. Plain laws. -/
import Derived.Test.YtcoimlnplaidiaaDoorEA
namespace Go.Eng.Pu
open Go Go.Eng Ieee
set_option linter.all false
set_option maxRecDepth 100000
set_option maxHeartbeats 8000000

theorem cut_exact (neg : Bool) (n d : Nat) (h : n % 2 ^ d = 0) (hd : d ≤ n.log2 + 2) : Toward.even.cut neg n d = n / 2 ^ d := by
  unfold Toward.cut
  simp only [Nat.min_eq_left hd, Nat.one_shiftLeft, h]
  have h0 : 0 < 2 ^ d := Nat.two_pow_pos d
  have e1 : decide (2 ^ d < 2 * 0) = false := by simp
  have e2 : (2 ^ d == 2 * 0) = false := by simp
  rw [e1, e2]
  simp

theorem log2_mul_pow (m j : Nat) (hm : m ≠ 0) : (m * 2 ^ j).log2 = m.log2 + j := by
  have h0 : 0 < 2 ^ j := Nat.two_pow_pos j
  have hne : m * 2 ^ j ≠ 0 := Nat.mul_ne_zero hm (by omega)
  have a1 := (Nat.log2_lt (k := m.log2 + j + 1) hne).2 (by
    have := Nat.lt_log2_self (n := m)
    rw [show m.log2 + j + 1 = (m.log2 + 1) + j by omega, Nat.pow_add]
    exact Nat.mul_lt_mul_of_pos_right this h0)
  have a2 : ¬ (m * 2 ^ j).log2 < m.log2 + j := fun h => by
    have h1 := (Nat.log2_lt hne).1 h
    have h2 := Nat.log2_self_le hm
    rw [Nat.pow_add] at h1
    have := Nat.mul_le_mul_right (2 ^ j) h2
    omega
  omega

/-- What a whole multiple of a place is written as, it is read as. -/
theorem nearest_read (f : Format) (neg : Bool) (m j : Nat) (place : Int) (he : 2 ≤ f.exponentBits) (hm : m ≠ 0) (h1 : m.log2 ≤ f.fractionBits) (h2 : f.leastPlace ≤ place + j)
    (h3 : place + j + m.log2 + 3 ≤ f.leastPlace + f.fractionBits + 2 ^ f.exponentBits) : ∃ (k : Nat) (i : Int), f.read (f.nearest neg (m * 2 ^ j) place) = .number neg k i ∧ f.leastPlace ≤ i ∧ i ≤ place + j ∧ k = m * 2 ^ (place + j - i).toNat := by
  have hne : m * 2 ^ j ≠ 0 := Nat.mul_ne_zero hm (by have := Nat.two_pow_pos j; omega)
  have hl := log2_mul_pow m j hm
  unfold Format.nearest
  rw [if_neg hne, hl]
  simp only []
  generalize hL : max (place + ((m.log2 + j : Nat) : Int) - f.fractionBits) f.leastPlace = last
  have hL1 : f.leastPlace ≤ last := by omega
  have hL2 : last ≤ place + j := by omega
  have hk : Toward.even.cut neg ((m * 2 ^ j) <<< (place - last).toNat) (last - place).toNat = m * 2 ^ (place + j - last).toNat := by
    rw [Nat.shiftLeft_eq]
    by_cases hp : last ≤ place
    · rw [show (last - place).toNat = 0 by omega, cut_exact _ _ _ (by simp [Nat.mod_one]) (by omega), Nat.pow_zero, Nat.div_one, Nat.mul_assoc, ← Nat.pow_add]
      congr 2; omega
    · rw [show (place - last).toNat = 0 by omega, Nat.pow_zero, Nat.mul_one]
      have hd : (last - place).toNat ≤ j := by omega
      have e : m * 2 ^ j = m * 2 ^ (j - (last - place).toNat) * 2 ^ (last - place).toNat := by rw [Nat.mul_assoc, ← Nat.pow_add]; congr 2; omega
      rw [cut_exact _ _ _ (by rw [e]; exact Nat.mul_mod_left _ _) (by rw [hl]; omega)]
      rw [e, Nat.mul_div_cancel _ (Nat.two_pow_pos _)]
      congr 2; omega
  rw [hk]
  generalize hK : m * 2 ^ (place + j - last).toNat = kept
  have hB : f.binade = 2 ^ f.fractionBits := rfl
  have hB0 : 0 < f.binade := Nat.two_pow_pos _
  have hk0 : kept ≠ 0 := by rw [← hK]; exact Nat.mul_ne_zero hm (by have := Nat.two_pow_pos (place + j - last).toNat; omega)
  have hkl : kept.log2 = m.log2 + (place + j - last).toNat := by rw [← hK]; exact log2_mul_pow _ _ hm
  have hk2 : kept < 2 * f.binade := by
    rw [hB, Nat.mul_comm, ← Nat.pow_succ]
    exact (Nat.log2_lt hk0).1 (by rw [hkl]; omega)
  have hrung : (last - f.leastPlace).toNat * f.binade + kept < f.infRung := by
    unfold Format.infRung
    have h2e := Nat.two_pow_pos f.exponentBits
    have hc : (((2 : Nat) ^ f.exponentBits : Nat) : Int) = 2 ^ f.exponentBits := by simp
    have : (last - f.leastPlace).toNat + 2 ≤ 2 ^ f.exponentBits - 1 := by
      by_cases hq : last = f.leastPlace
      · have : 2 ^ 2 ≤ 2 ^ f.exponentBits := Nat.pow_le_pow_right (by omega) he
        omega
      · omega
    have := Nat.mul_le_mul_right f.binade this
    rw [Nat.add_mul] at this
    omega
  rw [Nat.min_eq_left (by omega)]
  have hw : ∀ r, r < f.signWeight → f.word neg r % f.signWeight = r ∧ (f.word neg r / f.signWeight % 2 == 1) = neg := by
    intro r hr
    unfold Format.word
    cases neg with
    | false => exact ⟨Nat.mod_eq_of_lt hr, by rw [if_neg (by simp), Nat.div_eq_of_lt hr]; rfl⟩
    | true =>
      rw [if_pos rfl, Nat.add_mod_left, Nat.mod_eq_of_lt hr, Nat.add_div_left _ (by omega), Nat.div_eq_of_lt hr]
      exact ⟨rfl, rfl⟩
  have hsw : f.infRung < f.signWeight := f.infRung_lt
  obtain ⟨w1, w2⟩ := hw _ (show (last - f.leastPlace).toNat * f.binade + kept < f.signWeight by omega)
  unfold Format.read
  simp only [w1, w2]
  by_cases hq : last = f.leastPlace
  · have e0 : (last - f.leastPlace).toNat = 0 := by omega
    rw [e0, Nat.zero_mul, Nat.zero_add]
    by_cases hb : kept < f.binade
    · rw [if_pos hb]
      exact ⟨kept, f.leastPlace, rfl, Int.le_refl _, h2, by rw [← hK, hq]⟩
    · rw [if_neg hb, if_pos (by rw [e0, Nat.zero_mul, Nat.zero_add] at hrung; exact hrung)]
      have d1 : kept / f.binade = 1 := Nat.div_eq_of_lt_le (by omega) (by omega)
      have d2 : kept % f.binade = kept - f.binade := by rw [Nat.mod_eq_sub_mod (by omega), Nat.mod_eq_of_lt (by omega)]
      refine ⟨f.binade + kept % f.binade, f.leastPlace + (kept / f.binade - 1 : Nat), rfl, by omega, by rw [d1]; simpa using h2, ?_⟩
      rw [d1, d2, show f.binade + (kept - f.binade) = kept by omega, ← hK, hq]
      simp
  · have hlast : last = place + ((m.log2 + j : Nat) : Int) - f.fractionBits := by omega
    have hbk : f.binade ≤ kept := by
      rw [hB]
      have := Nat.log2_self_le hk0
      rwa [hkl, show m.log2 + (place + j - last).toNat = f.fractionBits by omega] at this
    have hpos : 1 ≤ (last - f.leastPlace).toNat := by omega
    have hmul := Nat.mul_le_mul_right f.binade hpos
    rw [if_neg (by omega), if_pos hrung]
    have d1 : ((last - f.leastPlace).toNat * f.binade + kept) / f.binade = (last - f.leastPlace).toNat + 1 := by
      rw [Nat.mul_comm, Nat.mul_add_div hB0, Nat.div_eq_of_lt_le (m := kept) (k := 1) (by omega) (by omega)]
    have d2 : ((last - f.leastPlace).toNat * f.binade + kept) % f.binade = kept - f.binade := by
      rw [Nat.mul_comm, Nat.mul_add_mod, Nat.mod_eq_sub_mod (by omega), Nat.mod_eq_of_lt (by omega)]
    refine ⟨_, _, rfl, by omega, ?_, ?_⟩
    · rw [d1]; omega
    · rw [d1, d2, show f.binade + (kept - f.binade) = kept by omega, ← hK]
      congr 2; omega

/-! ### Numbers, scaled -/

theorem signed_add (s : Bool) (m a b : Nat) : signed s m (a + b) = signed s m a * 2 ^ b := by
  unfold signed
  have e : ((m <<< (a + b) : Nat) : Int) = ((m <<< a : Nat) : Int) * 2 ^ b := by
    rw [Nat.shiftLeft_eq, Nat.shiftLeft_eq, Nat.pow_add, ← Nat.mul_assoc, Int.natCast_mul, Int.natCast_pow]; rfl
  cases s
  · simp only [Bool.false_eq_true, if_false]; exact e
  · simp only [if_true]; rw [e, Int.neg_mul]

/-- A number of a format, times 2 to the power - leastPlace. -/
def dv (f : Format) : Datum → Int
  | .number s m i => signed s m (i - f.leastPlace).toNat
  | _ => 0
def isN : Datum → Bool
  | .number .. => true
  | _ => false

theorem isN_ex {d : Datum} (h : isN d = true) : ∃ s m i, d = .number s m i := by
  cases d with
  | number s m i => exact ⟨s, m, i, rfl⟩
  | _ => cases h

theorem read_in (f : Format) (x : Nat) {s : Bool} {m : Nat} {i : Int} (h : f.read x = .number s m i) : m < 2 * f.binade ∧ f.leastPlace ≤ i ∧ i + 3 ≤ f.leastPlace + 2 ^ f.exponentBits ∨ m < f.binade ∧ i = f.leastPlace := by
  unfold Format.read at h
  simp only [] at h
  have hB0 : 0 < f.binade := Nat.two_pow_pos _
  split at h
  · rename_i h1
    cases h
    exact .inr ⟨h1, rfl⟩
  · rename_i h1
    split at h
    · rename_i h2
      cases h
      left
      have hm := Nat.mod_lt (x % f.signWeight) hB0
      have hd : x % f.signWeight / f.binade < 2 ^ f.exponentBits - 1 := by
        rw [Nat.div_lt_iff_lt_mul hB0]; exact h2
      have hc : (((2 : Nat) ^ f.exponentBits : Nat) : Int) = 2 ^ f.exponentBits := by simp
      have hd1 : 1 ≤ x % f.signWeight / f.binade := (Nat.one_le_div_iff hB0).2 (by omega)
      refine ⟨by omega, by omega, by omega⟩
    · split at h <;> cases h

theorem read_log (f : Format) (x : Nat) {s : Bool} {m : Nat} {i : Int} (he : 2 ≤ f.exponentBits) (h : f.read x = .number s m i) : f.leastPlace ≤ i ∧ m < 2 * f.binade ∧ (m ≠ 0 → m.log2 ≤ f.fractionBits ∧ i + m.log2 + 3 ≤ f.leastPlace + f.fractionBits + 2 ^ f.exponentBits) := by
  have hB : f.binade = 2 ^ f.fractionBits := rfl
  have key : m < 2 * f.binade → m ≠ 0 → m.log2 ≤ f.fractionBits := fun h1 h2 => by
    have : m.log2 < f.fractionBits + 1 := (Nat.log2_lt h2).2 (by rw [Nat.pow_succ, Nat.mul_comm, ← hB]; exact h1)
    omega
  have hp : 2 ^ 2 ≤ 2 ^ f.exponentBits := Nat.pow_le_pow_right (by omega) he
  have hc : (((2 : Nat) ^ f.exponentBits : Nat) : Int) = 2 ^ f.exponentBits := by simp
  rcases read_in f x h with ⟨h1, h2, h3⟩ | ⟨h1, h2⟩
  · refine ⟨h2, h1, fun h0 => ?_⟩
    have := key h1 h0
    omega
  · refine ⟨by omega, by omega, fun h0 => ?_⟩
    have := key (by omega) h0
    omega

theorem compare_mul (a b c : Int) (h : 0 < c) : compare (a * c) (b * c) = compare a b := by
  simp only [compare, compareOfLessAndEq]
  by_cases h1 : a < b
  · rw [if_pos h1, if_pos (Int.mul_lt_mul_of_pos_right h1 h)]
  · rw [if_neg h1, if_neg (fun hh => h1 (Int.lt_of_mul_lt_mul_right hh (by omega)))]
    by_cases h2 : a = b
    · rw [if_pos h2, if_pos (by rw [h2])]
    · rw [if_neg h2, if_neg (fun hh => h2 (Int.eq_of_mul_eq_mul_right (by omega) hh))]

/-- The order of two numbers. -/
theorem order_num (f : Format) {x y : Nat} {s t : Bool} {m n : Nat} {i j : Int} (hx : f.read x = .number s m i) (hy : f.read y = .number t n j) (he : 2 ≤ f.exponentBits) :
    f.order x y = some (compare (dv f (f.read x)) (dv f (f.read y))) := by
  have h1 := (read_log f x he hx).1
  have h2 := (read_log f y he hy).1
  unfold Format.order
  rw [hx, hy]
  simp only [Datum.order, dv]
  rw [show (i - f.leastPlace).toNat = (i - min i j).toNat + (min i j - f.leastPlace).toNat by omega, show (j - f.leastPlace).toNat = (j - min i j).toNat + (min i j - f.leastPlace).toNat by omega, signed_add, signed_add, compare_mul _ _ _ (Int.pow_pos (by omega))]

/-! ### Numbers made whole -/

theorem cut_zero (neg : Bool) (n d : Nat) : Toward.zero.cut neg n d = n / 2 ^ d := by
  unfold Toward.cut
  simp only [Nat.one_shiftLeft, Bool.toNat_false, Nat.add_zero]
  by_cases hd : d ≤ n.log2 + 2
  · rw [Nat.min_eq_left hd]
  · rw [Nat.min_eq_right (by omega)]
    have h1 : n < 2 ^ (n.log2 + 2) := Nat.lt_of_lt_of_le (Nat.lt_log2_self) (Nat.pow_le_pow_right (by omega) (by omega))
    have h2 : n < 2 ^ d := Nat.lt_of_lt_of_le h1 (Nat.pow_le_pow_right (by omega) (by omega))
    rw [Nat.div_eq_of_lt h1, Nat.div_eq_of_lt h2]

/-- The scale of a format. -/
def scF (f : Format) : Nat := (-f.leastPlace).toNat

def sg (s : Bool) (n : Nat) : Int := if s then -(n : Int) else n

theorem signed_sg (s : Bool) (m a : Nat) : signed s m a = sg s (m * 2 ^ a) := by
  unfold signed sg
  rw [Nat.shiftLeft_eq]

theorem sg_tdiv (s : Bool) (a b : Nat) : (sg s a).tdiv (b : Int) = sg s (a / b) := by
  unfold sg
  cases s
  · simp only [Bool.false_eq_true, if_false]; rw [Int.tdiv_eq_ediv_of_nonneg (by omega)]; rfl
  · simp only [if_true]; rw [Int.neg_tdiv, Int.tdiv_eq_ediv_of_nonneg (by omega)]; rfl

/-- How much of a number is left when it is made whole. -/
def tru (f : Format) (m : Nat) (i : Int) : Nat := m * 2 ^ i.toNat / 2 ^ (-i).toNat

theorem toInt_num (f : Format) (s : Bool) (m : Nat) (i : Int) : (Datum.number s m i).toInt .zero = some (sg s (tru f m i)) := by
  unfold Datum.toInt Datum.integral
  simp only [cut_zero, signed_sg, Nat.shiftLeft_eq, Nat.pow_zero, Nat.mul_one, tru]

theorem tru_dv (f : Format) {s : Bool} {m : Nat} {i : Int} (h0 : f.leastPlace ≤ 0) (hi : f.leastPlace ≤ i) : sg s (tru f m i) = (dv f (.number s m i)).tdiv ((2 ^ scF f : Nat) : Int) := by
  show sg s (tru f m i) = (signed s m (i - f.leastPlace).toNat).tdiv ((2 ^ scF f : Nat) : Int)
  rw [signed_sg, sg_tdiv]
  congr 1
  unfold tru scF
  by_cases hp : 0 ≤ i
  · rw [show (-i).toNat = 0 by omega, Nat.pow_zero, Nat.div_one, show (i - f.leastPlace).toNat = i.toNat + (-f.leastPlace).toNat by omega, Nat.pow_add, ← Nat.mul_assoc, Nat.mul_div_cancel _ (Nat.two_pow_pos _)]
  · rw [show i.toNat = 0 by omega, Nat.pow_zero, Nat.mul_one, show (-f.leastPlace).toNat = (-i).toNat + (i - f.leastPlace).toNat by omega, Nat.pow_add, Nat.mul_div_mul_right _ _ (Nat.two_pow_pos _)]

/-- A whole number of a format is written exactly. -/
theorem write_whole (f : Format) {x : Nat} {s : Bool} {m : Nat} {i : Int} (he : 2 ≤ f.exponentBits) (h0 : f.leastPlace ≤ 0) (h00 : 3 ≤ f.leastPlace + 2 ^ f.exponentBits) (hx : f.read x = .number s m i) (neg : Bool) :
    ∃ (k : Nat) (l : Int), f.read (f.nearest neg (tru f m i) 0) = .number neg k l ∧ f.leastPlace ≤ l ∧ k * 2 ^ (l - f.leastPlace).toNat = tru f m i * 2 ^ scF f := by
  obtain ⟨h1, h2, h3⟩ := read_log f x he hx
  by_cases ht : tru f m i = 0
  · rw [ht]
    refine ⟨0, f.leastPlace, ?_, Int.le_refl _, by simp⟩
    unfold Format.nearest
    rw [if_pos rfl]
    have hsw : 0 < f.signWeight := Nat.two_pow_pos _
    have hB : 0 < f.binade := Nat.two_pow_pos _
    unfold Format.read Format.word
    cases neg with
    | false => simp [hB, Nat.div_eq_of_lt hsw]
    | true => simp [hB, Nat.div_self hsw]
  · by_cases hp : 0 ≤ i
    · have hm : m ≠ 0 := fun hc => ht (by unfold tru; rw [hc]; simp)
      obtain ⟨h4, h5⟩ := h3 hm
      have e : tru f m i = m * 2 ^ i.toNat := by unfold tru; rw [show (-i).toNat = 0 by omega, Nat.pow_zero, Nat.div_one]
      obtain ⟨k, l, g1, g2, g3, g4⟩ := nearest_read f neg m i.toNat 0 he hm h4 (by omega) (by omega)
      rw [e]
      refine ⟨k, l, g1, g2, ?_⟩
      rw [g4, Nat.mul_assoc, Nat.mul_assoc, ← Nat.pow_add, ← Nat.pow_add]
      unfold scF
      congr 2; omega
    · have e : tru f m i = m / 2 ^ (-i).toNat := by unfold tru; rw [show i.toNat = 0 by omega, Nat.pow_zero, Nat.mul_one]
      have hm : m ≠ 0 := fun hc => ht (by rw [e, hc]; simp)
      obtain ⟨h4, h5⟩ := h3 hm
      have hle : tru f m i ≤ m := by rw [e]; exact Nat.div_le_self _ _
      have hlog : (tru f m i).log2 ≤ m.log2 := by
        by_cases hc : (tru f m i).log2 < m.log2 + 1
        · omega
        · have := (Nat.log2_lt (k := m.log2 + 1) ht).2 (Nat.lt_of_le_of_lt hle Nat.lt_log2_self)
          omega
      have hle2 : (tru f m i).log2 ≤ f.fractionBits := by omega
      obtain ⟨k, l, g1, g2, g3, g4⟩ := nearest_read f neg (tru f m i) 0 0 he ht hle2 (by omega) (by omega)
      rw [Nat.pow_zero, Nat.mul_one] at g1
      refine ⟨k, l, g1, g2, ?_⟩
      rw [g4, Nat.mul_assoc, ← Nat.pow_add]
      unfold scF
      congr 2; omega

end Go.Eng.Pu
