/- Plain laws: the exact sums of a loop stand in the ball of its value, and in the ball of each arc that holds the number. Conditions: right loops. -/
import Derived.Test.YtdphhjibkjlmcaaL21
import Derived.Test.YtdphhjibkjlmcaaP3
namespace Go.Eng.Lp
set_option linter.all false
set_option maxRecDepth 100000

theorem sm_abs {f g : Nat → Int} : ∀ k : Nat, (∀ i, i < k → -(g i) ≤ f i ∧ f i ≤ g i) → -(sm g k) ≤ sm f k ∧ sm f k ≤ sm g k
  | 0, _ => by simp [sm]
  | k + 1, h => by
    have ih := sm_abs k (fun i hi => h i (by omega))
    have := h k (by omega)
    simp only [sm]; omega

theorem sm_mul (f : Nat → Int) (c : Int) : ∀ k, sm (fun i => f i * c) k = sm f k * c
  | 0 => by simp [sm]
  | k + 1 => by simp only [sm]; rw [sm_mul f c k, Int.add_mul]

theorem sm_lin (f g : Nat → Int) (c : Int) : ∀ k, sm (fun i => c * f i - g i) k = c * sm f k - sm g k
  | 0 => by simp [sm]
  | k + 1 => by simp only [sm]; rw [sm_lin f g c k, Int.mul_add]; omega

theorem mul_abs {t e B : Int} (h1 : -B ≤ e) (h2 : e ≤ B) : -((t.natAbs : Int) * B) ≤ t * e ∧ t * e ≤ (t.natAbs : Int) * B := by
  rcases Int.le_total 0 t with h | h
  · have e1 : (t.natAbs : Int) = t := by omega
    rw [e1]
    have h3 := Int.mul_le_mul_of_nonneg_left h2 h
    have h4 := Int.mul_le_mul_of_nonneg_left h1 h
    rw [Int.mul_neg] at h4
    exact ⟨h4, h3⟩
  · obtain ⟨s, rfl⟩ : ∃ s, t = -s := ⟨-t, by omega⟩
    have e1 : ((-s).natAbs : Int) = s := by omega
    rw [e1]
    have hs : 0 ≤ s := by omega
    have h3 := Int.mul_le_mul_of_nonneg_left h2 hs
    have h4 := Int.mul_le_mul_of_nonneg_left h1 hs
    rw [Int.mul_neg] at h4
    rw [Int.neg_mul]
    omega

def wX (T : List Int) (m : Int) (k : Nat) : Int := T.getD k 0 * (wayI (-m * k)).1
def wY (T : List Int) (m : Int) (k : Nat) : Int := T.getD k 0 * (wayI (-m * k)).2
/-- The exact sums. -/
def zX (T : List Int) (m : Int) : Int := sm (wX T m) T.length
def zY (T : List Int) (m : Int) : Int := sm (wY T m) T.length

theorem sX_near (T : List Int) (m : Int) : -(16 * sm (vR T m) T.length) ≤ 64 * sm (vX T m) T.length - zX T m ∧ 64 * sm (vX T m) T.length - zX T m ≤ 16 * sm (vR T m) T.length := by
  have h := sm_abs (f := fun i => 64 * vX T m i - wX T m i) (g := fun i => vR T m i * 16) T.length (fun i _ => by
    have h1 := (unit_way (-m * i)).1
    have h2 := mul_abs (t := T.getD i 0) h1.1 h1.2
    have e : 64 * vX T m i - wX T m i = T.getD i 0 * (64 * (unitI (-m * i)).1 - (wayI (-m * i)).1) := by
      simp only [vX, wX]; rw [Int.mul_sub, Int.mul_left_comm]
    have e2 : vR T m i * 16 = ((T.getD i 0).natAbs : Int) * (16 * (unitI (-m * i)).2.2.1) := by
      simp only [vR]; rw [Int.mul_assoc, Int.mul_comm _ 16]
    rw [e, e2]; exact h2)
  rw [sm_lin, sm_mul] at h
  simp only [zX]; omega

theorem sY_near (T : List Int) (m : Int) : -(16 * sm (vR T m) T.length) ≤ 64 * sm (vY T m) T.length - zY T m ∧ 64 * sm (vY T m) T.length - zY T m ≤ 16 * sm (vR T m) T.length := by
  have h := sm_abs (f := fun i => 64 * vY T m i - wY T m i) (g := fun i => vR T m i * 16) T.length (fun i _ => by
    have h1 := (unit_way (-m * i)).2
    have h2 := mul_abs (t := T.getD i 0) h1.1 h1.2
    have e : 64 * vY T m i - wY T m i = T.getD i 0 * (64 * (unitI (-m * i)).2.1 - (wayI (-m * i)).2) := by
      simp only [vY, wY]; rw [Int.mul_sub, Int.mul_left_comm]
    have e2 : vR T m i * 16 = ((T.getD i 0).natAbs : Int) * (16 * (unitI (-m * i)).2.2.1) := by
      simp only [vR]; rw [Int.mul_assoc, Int.mul_comm _ 16]
    rw [e, e2]; exact h2)
  rw [sm_lin, sm_mul] at h
  simp only [zY]; omega

/-- The point z, in parts of 1048576000, lies within c times R of X. -/
def inB (c X R z : Int) : Prop := -(c * R) ≤ 1048576000 * X - z ∧ 1048576000 * X - z ≤ c * R

theorem near_mul {s w r g : Int} (hg : 0 ≤ g) (h1 : -(16 * r) ≤ 64 * s - w) (h2 : 64 * s - w ≤ 16 * r) : -(16 * (r * g)) ≤ 64 * (s * g) - w * g ∧ 64 * (s * g) - w * g ≤ 16 * (r * g) := by
  have a := Int.mul_le_mul_of_nonneg_right h1 hg
  have b := Int.mul_le_mul_of_nonneg_right h2 hg
  rw [Int.sub_mul, Int.mul_assoc] at a b
  rw [Int.neg_mul, Int.mul_assoc] at a
  rw [Int.mul_assoc] at b
  exact ⟨a, b⟩

/-- The ball of a value holds the exact sums, within half of its R. -/
theorem value_in {T : List Int} {g : Int} (h : GoodLoop T g) (m : Int) : inB 524288000 (valueI T g m).1 (valueI T g m).2.2.1 (zX T m * g) ∧ inB 524288000 (valueI T g m).2.1 (valueI T g m).2.2.1 (zY T m * g) := by
  have hx := sX_near T m
  have hy := sY_near T m
  have h1 := near_mul h.gain0 hx.1 hx.2
  have h2 := near_mul h.gain0 hy.1 hy.2
  have h3 := sR_le h m (Nat.le_refl T.length)
  have h4 : 0 ≤ sm (vR T m) T.length * g := Int.mul_nonneg h3.1 h.gain0
  simp only [inB, valueI, tmod0, fRound, fCeil]
  generalize sm (vX T m) T.length * g = s at *
  generalize sm (vY T m) T.length * g = u at *
  generalize sm (vR T m) T.length * g = r at *
  generalize zX T m * g = w at *
  generalize zY T m * g = v at *
  split
  · omega
  · rename_i hc
    have ha : s % 16384000 = 0 := Classical.byContradiction fun hn => hc (.inl hn)
    have hb : u % 16384000 = 0 := Classical.byContradiction fun hn => hc (.inr hn)
    omega

theorem zX_dist (T : List Int) (m n : Int) : (-(102957 * (((m - n).natAbs : Int) * sSlope T T.length)) ≤ zX T m - zX T n ∧ zX T m - zX T n ≤ 102957 * (((m - n).natAbs : Int) * sSlope T T.length)) ∧
    -(102957 * (((m - n).natAbs : Int) * sSlope T T.length)) ≤ zY T m - zY T n ∧ zY T m - zY T n ≤ 102957 * (((m - n).natAbs : Int) * sSlope T T.length) := by
  have key : ∀ i : Nat, (-m * i - -n * i).natAbs = (m - n).natAbs * i := fun i => by
    rw [← Int.sub_mul, Int.natAbs_mul, Int.natAbs_natCast]
    congr 1
    omega
  have e : ∀ i : Nat, ((T.getD i 0).natAbs : Int) * (102957 * ((-m * i - -n * i).natAbs : Int)) = (i * ((T.getD i 0).natAbs : Int)) * (102957 * ((m - n).natAbs : Int)) := fun i => by
    rw [key i, Int.natCast_mul]
    simp only [Int.mul_left_comm, Int.mul_comm, Int.mul_assoc]
  have e0 : 102957 * (((m - n).natAbs : Int) * sSlope T T.length) = sSlope T T.length * (102957 * ((m - n).natAbs : Int)) := by
    simp only [Int.mul_left_comm, Int.mul_comm, Int.mul_assoc]
  rw [e0]
  have hx := sm_abs (f := fun i => 1 * wX T m i - wX T n i) (g := fun i => ((i : Int) * ((T.getD i 0).natAbs : Int)) * (102957 * ((m - n).natAbs : Int))) T.length (fun i _ => by
    have h1 := (wayI_dist (-m * i) (-n * i)).1
    have h2 := mul_abs (t := T.getD i 0) (e := (wayI (-m * i)).1 - (wayI (-n * i)).1) (B := 102957 * ((-m * i - -n * i).natAbs : Int)) (by omega) (by omega)
    rw [e i] at h2
    simp only [wX]; rw [Int.one_mul, ← Int.mul_sub]; exact h2)
  have hy := sm_abs (f := fun i => 1 * wY T m i - wY T n i) (g := fun i => ((i : Int) * ((T.getD i 0).natAbs : Int)) * (102957 * ((m - n).natAbs : Int))) T.length (fun i _ => by
    have h1 := (wayI_dist (-m * i) (-n * i)).2
    have h2 := mul_abs (t := T.getD i 0) (e := (wayI (-m * i)).2 - (wayI (-n * i)).2) (B := 102957 * ((-m * i - -n * i).natAbs : Int)) (by omega) (by omega)
    rw [e i] at h2
    simp only [wY]; rw [Int.one_mul, ← Int.mul_sub]; exact h2)
  rw [sm_lin, sm_mul] at hx hy
  rw [Int.one_mul] at hx hy
  exact ⟨hx, hy⟩

/-- The ball of an arc holds the exact sums at all of its numbers. -/
theorem arc_in {T : List Int} {g a b m : Int} (h : GoodLoop T g) (hab : 0 ≤ a ∧ a ≤ b ∧ b ≤ 2048) (h1 : a ≤ m) (h2 : m ≤ b) : inB 1048576000 (arcI T g a b).1 (arcI T g a b).2.2.1 (zX T m * g) ∧ inB 1048576000 (arcI T g a b).2.1 (arcI T g a b).2.2.1 (zY T m * g) := by
  have hv := value_in h ((a + b) / 2)
  have hr := valueR_le h ((a + b) / 2)
  have hd := zX_dist T ((a + b) / 2) m
  have hs := slope_le h (Nat.le_refl T.length)
  have hg := h.gain0
  have hm : (((a + b) / 2 - m).natAbs : Int) ≤ b - (a + b) / 2 := by omega
  have hP : 0 ≤ sSlope T T.length * g := Int.mul_nonneg hs.1 hg
  have hQ : (((a + b) / 2 - m).natAbs : Int) * (sSlope T T.length * g) ≤ (b - (a + b) / 2) * (sSlope T T.length * g) := Int.mul_le_mul_of_nonneg_right hm hP
  have eQ : sSlope T T.length * g * 6284 * (b - (a + b) / 2) = 6284 * ((b - (a + b) / 2) * (sSlope T T.length * g)) := by
    simp only [Int.mul_left_comm, Int.mul_comm, Int.mul_assoc]
  have eS : 102957 * ((((a + b) / 2 - m).natAbs : Int) * sSlope T T.length) * g = 102957 * ((((a + b) / 2 - m).natAbs : Int) * (sSlope T T.length * g)) := by
    simp only [Int.mul_assoc]
  have x1 := Int.mul_le_mul_of_nonneg_right hd.1.1 hg
  have x2 := Int.mul_le_mul_of_nonneg_right hd.1.2 hg
  have y1 := Int.mul_le_mul_of_nonneg_right hd.2.1 hg
  have y2 := Int.mul_le_mul_of_nonneg_right hd.2.2 hg
  rw [Int.neg_mul, Int.sub_mul, eS] at x1 y1
  rw [Int.sub_mul, eS] at x2 y2
  simp only [inB, arcI, fCeil] at hv ⊢
  rw [eQ]
  generalize (((a + b) / 2 - m).natAbs : Int) * (sSlope T T.length * g) = q at *
  generalize (b - (a + b) / 2) * (sSlope T T.length * g) = p at *
  generalize (valueI T g ((a + b) / 2)).2.2.1 = r at *
  omega

end Go.Eng.Lp
