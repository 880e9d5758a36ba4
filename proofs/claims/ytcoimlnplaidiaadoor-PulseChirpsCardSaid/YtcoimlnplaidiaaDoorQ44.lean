/- Contracts: lists of complex numbers, checked and taken apart, for any raw numbers. Conditions: each contract's own. -/
import Derived.Test.YtcoimlnplaidiaaDoorQ43
import Derived.Test.YtcoimlnplaidiaaDoorQ11
namespace Go.Eng.Pu
open Go.Eng Go.Proofs
set_option linter.all false
set_option maxRecDepth 100000
set_option maxHeartbeats 8000000

theorem big32 {x : Nat} (hN : fN .f32 x = true) (h : M32 < fV .f32 x ∨ fV .f32 x < -M32) : fWh .f32 x = true := by
  apply big_whole hN
  have hb : ((2 * FloatKind.f32.format.binade : Nat) : Int) = 16777216 := by decide
  rw [hb]
  unfold M32 at h
  exact h

theorem pE_eq (x : Nat) : pE x = if pW x = true then (if M32 < fV .f32 x ∨ fV .f32 x < -M32 then 2 else 0) else 27 := by
  unfold pE pW
  by_cases hN : fN .f32 x = true
  · rw [if_pos hN, hN, Bool.true_and]
    by_cases hb : M32 < fV .f32 x ∨ fV .f32 x < -M32
    · rw [if_pos hb, if_pos (big32 hN hb), if_pos hb]
    · rw [if_neg hb, if_neg hb]
  · rw [if_neg hN, if_neg (by simp [hN])]

theorem fS_32_64 : fS .f64 = fS .f32 * 2 ^ 925 := by decide +kernel

/-- A float32 as a float64, or a NaN. -/
theorem wid_all {x n : Nat} (h : fok .f64 (f2f .f32 x .f64) n) : iwh n = pW x ∧ (pW x = true → (FloatKind.f64.format.order n 4715268809856909312 == some .gt) = decide (M32 < fV .f32 x) ∧ (FloatKind.f64.format.order n 13938640846711685120 == some .lt) = decide (fV .f32 x < -M32)) := by
  by_cases hN : fN .f32 x = true
  · obtain ⟨y, h1, h2, h3⟩ := wid_num hN
    rw [h1] at h
    have := fok_some h
    subst this
    have e1 : fWh .f64 n = fWh .f32 x := by
      unfold fWh fT
      rw [h3, fS_32_64, Int.mul_tdiv_mul_of_pos_left _ _ (by decide +kernel), ← Int.mul_assoc]
      have hp : (0 : Int) < 2 ^ 925 := by decide +kernel
      simp only [decide_eq_decide]
      exact ⟨fun hh => Int.eq_of_mul_eq_mul_right (by omega) hh, fun hh => by rw [hh]⟩
    have c1 : fN .f64 4715268809856909312 = true ∧ fN .f64 13938640846711685120 = true ∧ fV .f64 4715268809856909312 = M32 * 2 ^ 925 ∧ fV .f64 13938640846711685120 = -M32 * 2 ^ 925 := by decide +kernel
    refine ⟨by unfold iwh pW; rw [h2, hN, e1], fun _ => ⟨?_, ?_⟩⟩
    · rw [cmp_gt h2 c1.1, c1.2.2.1, h3]
      have hp : (0 : Int) < 2 ^ 925 := by decide +kernel
      simp only [decide_eq_decide]
      exact ⟨fun hh => Int.lt_of_mul_lt_mul_right hh (by omega), fun hh => Int.mul_lt_mul_of_pos_right hh hp⟩
    · rw [cmp_lt h2 c1.2.1, c1.2.2.2, h3]
      have hp : (0 : Int) < 2 ^ 925 := by decide +kernel
      simp only [decide_eq_decide]
      exact ⟨fun hh => Int.lt_of_mul_lt_mul_right hh (by omega), fun hh => Int.mul_lt_mul_of_pos_right hh hp⟩
  · have hp : pW x = false := by unfold pW; simp [hN]
    refine ⟨?_, fun hh => by rw [hp] at hh; cases hh⟩
    rw [hp]
    have hn : fN .f64 n = false := by
      rcases not_num hN with ⟨s, e⟩ | ⟨s, f, e⟩
      · obtain ⟨y, h1, h2⟩ := wid_inf e
        rw [h1] at h
        have := fok_some h
        subst this
        unfold fN; rw [h2]; rfl
      · rw [wid_nan e] at h
        rcases h with h | ⟨_, h⟩
        · cases h
        · obtain ⟨s', f', e'⟩ := read_nan h
          unfold fN; rw [e']; rfl
    unfold iwh; rw [hn]; rfl

theorem wid_side (x : Nat) : (FloatKind.f32.decode x).isNaN = true ∨ (f2f .f32 x .f64).isSome = true := by
  by_cases hN : fN .f32 x = true
  · obtain ⟨y, h1, _⟩ := wid_num hN
    exact .inr (by rw [h1]; rfl)
  · rcases not_num hN with ⟨s, e⟩ | ⟨s, f, e⟩
    · obtain ⟨y, h1, _⟩ := wid_inf e
      exact .inr (by rw [h1]; rfl)
    · left
      show (FloatKind.f32.format.read x).isNaN = true
      rw [e]; rfl

/-! ### Lists -/

abbrev CL := List (Nat × Nat)
abbrev IP := Int × Int × Unit
/-- The error of a number, and of a list. -/
def eE (z : Nat × Nat) : Int := if pE z.1 = 27 ∨ pE z.2 = 27 then 27 else if pE z.1 ≠ 0 ∨ pE z.2 ≠ 0 then 2 else 0
def lF : CL → Int
  | [] => 0
  | z :: r => if eE z = 0 then lF r else eE z
def lE (xs : CL) : Int := if xs.length = 0 then 10 else if 1024 < xs.length then 8 else lF xs
def prT (z : Nat × Nat) : IP := (fT .f32 z.1, fT .f32 z.2, ())
def lP (xs : CL) : List IP := if lE xs = 0 then tab (fun i => prT (xs.getD i (0, 0))) xs.length else []

theorem drop_getC {α : Type} {xs : List α} {i : Nat} {d : α} (h : i < xs.length) : xs.drop i = xs.getD i d :: xs.drop (i + 1) := by
  rw [List.drop_eq_getElem_cons h]
  simp [List.getD, List.getElem?_eq_getElem h]

theorem lF_step {xs : CL} {i : Nat} (h : i < xs.length) : lF (xs.drop i) = if eE (xs.getD i (0, 0)) = 0 then lF (xs.drop (i + 1)) else eE (xs.getD i (0, 0)) := by
  rw [drop_getC (d := (0, 0)) h]; rfl

theorem getD_c (xs : CL) (i : Nat) : List.getD xs ((i : Int)).toNat (Ty.dflt C64) = xs.getD i (0, 0) := rfl

theorem eE_of {z : Nat × Nat} {n1 n2 : Nat} (f1 : fok .f64 (f2f .f32 z.1 .f64) n1) (f2 : fok .f64 (f2f .f32 z.2 .f64) n2) :
    eE z = if iwh n1 = true ∧ iwh n2 = true then (if (FloatKind.f64.format.order n1 4715268809856909312 == some .gt) = true ∨ (FloatKind.f64.format.order n1 13938640846711685120 == some .lt) = true ∨ (FloatKind.f64.format.order n2 4715268809856909312 == some .gt) = true ∨ (FloatKind.f64.format.order n2 13938640846711685120 == some .lt) = true then 2 else 0) else 27 := by
  obtain ⟨a1, a2⟩ := wid_all f1
  obtain ⟨b1, b2⟩ := wid_all f2
  unfold eE
  rw [pE_eq, pE_eq, a1, b1]
  by_cases h1 : pW z.1 = true
  · by_cases h2 : pW z.2 = true
    · obtain ⟨a3, a4⟩ := a2 h1
      obtain ⟨b3, b4⟩ := b2 h2
      rw [a3, a4, b3, b4]
      simp only [h1, h2, if_true, and_self, decide_eq_true_eq]
      by_cases A : M32 < fV .f32 z.1 <;> by_cases B : fV .f32 z.1 < -M32 <;> by_cases C : M32 < fV .f32 z.2 <;> by_cases D : fV .f32 z.2 < -M32 <;> simp [A, B, C, D]
    · rw [if_neg h2]; simp [h2]
  · rw [if_neg h1]; simp [h1]

theorem lE_err {xs : CL} {k : Nat} {e : Int} (h0 : ¬ (xs.length : Int) = 0) (h1 : (xs.length : Int) ≤ 1024) (hk : k ≤ xs.length ∧ lF (xs.drop k) = lF xs) (hlt : (k : Int) < xs.length) (he : eE (xs.getD k (0, 0)) = e) (hne : e ≠ 0) : e = lE xs := by
  unfold lE
  rw [if_neg (by omega), if_neg (by omega), ← hk.2, lF_step (by omega), he, if_neg hne]

theorem lE_next {xs : CL} {k : Nat} (hk : k ≤ xs.length ∧ lF (xs.drop k) = lF xs) (hlt : (k : Int) < xs.length) (he : eE (xs.getD k (0, 0)) = 0) : k + 1 ≤ xs.length ∧ lF (xs.drop (k + 1)) = lF xs := by
  refine ⟨by omega, ?_⟩
  have := hk.2
  rwa [lF_step (by omega), if_pos he] at this

theorem lE_end {xs : CL} {k : Nat} (h0 : ¬ (xs.length : Int) = 0) (h1 : (xs.length : Int) ≤ 1024) (hk : k ≤ xs.length ∧ lF (xs.drop k) = lF xs) (hge : (xs.length : Int) ≤ k) : 0 = lE xs := by
  unfold lE
  rw [if_neg (by omega), if_neg (by omega), ← hk.2, List.drop_eq_nil_of_le (by omega)]; rfl

@[reducible] def sListE : Spec := { pats := [.dat (.sl C64)], res := [{ t := I64 }], pre := fun _ => True, f := fun x => (lE x.1, ()) }

end Go.Eng.Pu
