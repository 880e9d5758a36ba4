/- Plain laws: where clear arcs cover the half of the turn, a loop rings on no arc, with no lesser gain either. Conditions: right loops. -/
import Derived.Test.YtdphhjibkjlmcaaL22
import Derived.Test.YtdphhjibkjlmcaaP4
namespace Go.Eng.Lp
set_option linter.all false
set_option maxRecDepth 100000

abbrev AA := Int × Int × Unit
def clearA (T : List Int) (g a b : Int) : Bool := fClear (arcI T g a b).1 (arcI T g a b).2.1 (arcI T g a b).2.2.1
def arcsE (T : List Int) (g : Int) : Int → List AA → Int
  | at_, [] => if at_ = 2048 then 0 else 14
  | at_, a :: r => if fArcErr a.1 a.2.1 ≠ 0 then fArcErr a.1 a.2.1 else if a.1 ≠ at_ then 14 else if clearA T g a.1 a.2.1 = true then arcsE T g a.2.1 r else 20

def fRings (T : List Int) (g a b : Int) : Bool :=
  decide (1048576 ≤ (arcI T g a b).1 - (arcI T g a b).2.2.1 ∧ ((a = b ∧ (a = 0 ∨ a = 2048)) ∨
    ((valueI T g a).2.2.1 < (valueI T g a).2.1 ∧ (valueI T g b).2.1 < -(valueI T g b).2.2.1) ∨ ((valueI T g a).2.1 < -(valueI T g a).2.2.1 ∧ (valueI T g b).2.2.1 < (valueI T g b).2.1)))

theorem wY_mul {x g : Int} (hg : 0 < g) : (0 < x * g → 0 < x) ∧ (x * g < 0 → x < 0) := by
  refine ⟨fun h => ?_, fun h => ?_⟩
  · rcases Int.le_total x 0 with hx | hx
    · have := Int.mul_nonpos_of_nonpos_of_nonneg hx (Int.le_of_lt hg); omega
    · by_cases h0 : x = 0
      · subst h0; simp at h
      · omega
  · rcases Int.le_total 0 x with hx | hx
    · have := Int.mul_nonneg hx (Int.le_of_lt hg); omega
    · by_cases h0 : x = 0
      · subst h0; simp at h
      · omega

/-- All numbers between two neighbours lie on a clear arc. -/
def Covers (T : List Int) (g lo : Int) : Prop := ∀ j, lo ≤ j → j < 2048 → ∃ a b : Int, (0 ≤ a ∧ a ≤ b ∧ b ≤ 2048) ∧ clearA T g a b = true ∧ a ≤ j ∧ j + 1 ≤ b

theorem arcs_cover {T : List Int} {g : Int} : ∀ (arcs : List AA) (at_ : Int), arcsE T g at_ arcs = 0 → Covers T g at_
  | [], at_, h => by
    simp only [arcsE] at h
    split at h
    · intro j h1 h2; omega
    · omega
  | a :: r, at_, h => by
    simp only [arcsE] at h
    split at h
    · rename_i h1; exact absurd h h1
    · rename_i h1
      split at h
      · omega
      · rename_i h2
        split at h
        · rename_i h3
          have h1 : fArcErr a.1 a.2.1 = 0 := Classical.byContradiction h1
          have ha := arc_of h1
          have h2 : a.1 = at_ := Classical.byContradiction h2
          intro j hj1 hj2
          by_cases hj : j + 1 ≤ a.2.1
          · exact ⟨a.1, a.2.1, ha, h3, by omega, hj⟩
          · exact arcs_cover r a.2.1 h j (by omega) hj2
        · omega

theorem clear_cases {T : List Int} {g a b : Int} (h : GoodLoop T g) (hab : 0 ≤ a ∧ a ≤ b ∧ b ≤ 2048) (hc : clearA T g a b = true) :
    (∀ m, a ≤ m → m ≤ b → 0 < zY T m * g) ∨ (∀ m, a ≤ m → m ≤ b → zY T m * g < 0) ∨ (∀ m, a ≤ m → m ≤ b → zX T m * g < 1099511627776000) := by
  have hc := of_decide_eq_true hc
  rcases hc.2 with hy | hx
  · rcases Int.le_total 0 (arcI T g a b).2.1 with hs | hs
    · refine .inl fun m h1 h2 => ?_
      have := (arc_in h hab h1 h2).2
      simp only [inB] at this
      omega
    · refine .inr (.inl fun m h1 h2 => ?_)
      have := (arc_in h hab h1 h2).2
      simp only [inB] at this
      omega
  · refine .inr (.inr fun m h1 h2 => ?_)
    have := (arc_in h hab h1 h2).1
    simp only [inB] at this
    omega

theorem ivt {f : Int → Int} {A : Int} : ∀ d : Nat, 0 < f A → f (A + d) ≤ 0 → ∃ j, A ≤ j ∧ j < A + d ∧ 0 < f j ∧ f (j + 1) ≤ 0
  | 0, h1, h2 => by simp at h2; omega
  | d + 1, h1, h2 => by
    by_cases h : f (A + d) ≤ 0
    · obtain ⟨j, a, b, c, e⟩ := ivt d h1 h
      exact ⟨j, a, by omega, c, e⟩
    · refine ⟨A + d, by omega, by omega, by omega, ?_⟩
      rw [show A + (d : Int) + 1 = A + ((d + 1 : Nat) : Int) by omega]; exact h2

theorem zY_ends (T : List Int) {m : Int} (h : m = 0 ∨ m = 2048) : zY T m = 0 := by
  have e : ∀ n, sm (fun _ => (0 : Int)) n = 0 := fun n => by
    induction n with
    | zero => rfl
    | succ n ih => simp only [sm, ih]; rfl
  simp only [zY]
  rw [← e T.length]
  refine sm_congr _ fun i _ => ?_
  simp only [wY]
  have hw : (wayI (-m * i)).2 = 0 := by
    have h4 : (-m * (i : Int)) % 4096 = 1024 * (0 : Nat) + (0 : Nat) ∨ (-m * (i : Int)) % 4096 = 1024 * (2 : Nat) + (0 : Nat) := by
      rcases h with rfl | rfl <;> omega
    rcases h4 with h | h <;> rw [wayI_at (by decide) h, W_zero] <;> decide
  rw [hw, Int.mul_zero]

/-- A loop with clear arcs rings on no arc, with no lesser gain either. -/
theorem no_rings {T : List Int} {g g' A B : Int} (h : GoodLoop T g) (hg0 : 0 ≤ g') (hg1 : g' ≤ g) (hcov : Covers T g 0) (hAB : 0 ≤ A ∧ A ≤ B ∧ B ≤ 2048) : fRings T g' A B = false := by
  have h' : GoodLoop T g' := ⟨h.pos, h.le, h.zero, h.val, hg0, by have := h.gain1; omega⟩
  cases hr : fRings T g' A B with
  | false => rfl
  | true =>
    exfalso
    have hr := of_decide_eq_true hr
    have hx : ∀ m, A ≤ m → m ≤ B → 1099511627776000 ≤ zX T m * g' := fun m h1 h2 => by
      have := (arc_in h' hAB h1 h2).1
      simp only [inB] at this
      omega
    have hgp : 0 < g' := by
      by_cases h0 : g' = 0
      · have := hx A (by omega) (by omega)
        rw [h0, Int.mul_zero] at this; omega
      · omega
    have hgg : 0 < g := by omega
    have hx2 : ∀ m, A ≤ m → m ≤ B → 1099511627776000 ≤ zX T m * g := fun m h1 h2 => by
      have a := hx m h1 h2
      have b := (wY_mul hgp).1 (show 0 < zX T m * g' by omega)
      have := Int.mul_le_mul_of_nonneg_left hg1 (Int.le_of_lt b)
      omega
    -- a clear arc with two numbers, one of them on the arc: no sign changes there
    have key : ∀ j m n, 0 ≤ j → j < 2048 → (m = j ∨ m = j + 1) → (n = j ∨ n = j + 1) → A ≤ m → m ≤ B → ¬ (0 ≤ zY T m ∧ zY T n ≤ 0) ∧ ¬ (zY T m ≤ 0 ∧ 0 ≤ zY T n) := by
      intro j m n h1 h2 hm hn h3 h4
      obtain ⟨a, b, hab, hc, ha, hb⟩ := hcov j h1 h2
      have e1 : a ≤ m ∧ m ≤ b := by omega
      have e2 : a ≤ n ∧ n ≤ b := by omega
      rcases clear_cases h hab hc with hy | hy | hy
      · have p := (wY_mul hgg).1 (hy m e1.1 e1.2)
        have q := (wY_mul hgg).1 (hy n e2.1 e2.2)
        omega
      · have p := (wY_mul hgg).2 (hy m e1.1 e1.2)
        have q := (wY_mul hgg).2 (hy n e2.1 e2.2)
        omega
      · have p := hy m e1.1 e1.2
        have q := hx2 m h3 h4
        omega
    rcases hr.2 with ⟨hAB1, hend⟩ | ⟨hp, hq⟩ | ⟨hp, hq⟩
    · have z := zY_ends T hend
      rcases hend with h0 | h0
      · exact (key 0 A A (by omega) (by omega) (by omega) (by omega) (by omega) (by omega)).1 (by omega)
      · exact (key 2047 A A (by omega) (by omega) (by omega) (by omega) (by omega) (by omega)).1 (by omega)
    · have vp := (value_in h' A).2
      have vq := (value_in h' B).2
      have rp := valueR_le h' A
      have rq := valueR_le h' B
      simp only [inB] at vp vq
      have p := (wY_mul hgp).1 (show 0 < zY T A * g' by omega)
      have q := (wY_mul hgp).2 (show zY T B * g' < 0 by omega)
      obtain ⟨j, j1, j2, j3, j4⟩ := ivt (f := zY T) (A := A) (B - A).toNat p (by rw [show A + ((B - A).toNat : Int) = B by omega]; omega)
      exact (key j j (j + 1) (by omega) (by omega) (by omega) (by omega) (by omega) (by omega)).1 (by omega)
    · have vp := (value_in h' A).2
      have vq := (value_in h' B).2
      have rp := valueR_le h' A
      have rq := valueR_le h' B
      simp only [inB] at vp vq
      have p := (wY_mul hgp).2 (show zY T A * g' < 0 by omega)
      have q := (wY_mul hgp).1 (show 0 < zY T B * g' by omega)
      obtain ⟨j, j1, j2, j3, j4⟩ := ivt (f := fun m => -(zY T m)) (A := A) (B - A).toNat (by omega) (by
        rw [show A + ((B - A).toNat : Int) = B by omega]; omega)
      exact (key j j (j + 1) (by omega) (by omega) (by omega) (by omega) (by omega) (by omega)).2 (by omega)

end Go.Eng.Lp
