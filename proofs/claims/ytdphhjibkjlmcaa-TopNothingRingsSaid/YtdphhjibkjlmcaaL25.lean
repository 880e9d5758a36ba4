/- Plain laws of echoes: those of fewer samples begin them, and all but the first one lie within the bound; the law LoopEchoes returns true. Conditions: none. -/
import Derived.Test.YtdphhjibkjlmcaaL24
namespace Go.Eng.Lp
open Go.Eng Go.Proofs
set_option linter.all false
set_option maxRecDepth 100000
set_option maxHeartbeats 8000000

theorem echoL_take (T : List Int) (g h : Int) (n : Nat) : ∀ d, (echoL T g h (n + d)).take n = echoL T g h n
  | 0 => by rw [Nat.add_zero]; exact List.take_of_length_le (by rw [echoL_len]; exact Nat.le_refl _)
  | d + 1 => by
    rw [← Nat.add_assoc]
    simp only [echoL]
    rw [List.take_append_of_le_length (by rw [echoL_len]; omega)]
    exact echoL_take T g h n d

theorem clampE_in {v b : Int} (h1 : -b ≤ v) (h2 : v ≤ b) : -b ≤ clampE v ∧ clampE v ≤ b := by
  simp only [clampE]; split <;> split <;> omega

theorem echoL_at (T : List Int) (g h : Int) (n i : Nat) : (echoL T g h (n + 1)).getD i 0 = if i < n then (echoL T g h n).getD i 0 else if i = n then echoV T g h n (echoL T g h n) else 0 := by
  simp only [echoL, List.getD_eq_getElem?_getD]
  split
  · rename_i hi
    rw [List.getElem?_append_left (by rw [echoL_len]; exact hi)]
  · rename_i hi
    rw [List.getElem?_append_right (by rw [echoL_len]; omega), echoL_len]
    split
    · rename_i h0; subst h0; simp
    · rw [List.getElem?_eq_none (by simp; omega)]; rfl

theorem sum_step {T : List Int} {g h M : Int} (hT : GoodLoop T g) (n k : Nat) (hk : k ≤ T.length) (hM : 0 ≤ M) (hb : ∀ i, -M ≤ (echoL T g h n).getD i 0 ∧ (echoL T g h n).getD i 0 ≤ M) :
    -(16384 * (sizeI T g * M)) ≤ sm (echoF T (echoL T g h n) n) k * g ∧ sm (echoF T (echoL T g h n) n) k * g ≤ 16384 * (sizeI T g * M) := by
  have h1 := sm_abs (f := echoF T (echoL T g h n) n) (g := fun i => ((T.getD i 0).natAbs : Int) * M) k (fun i _ => by
    simp only [echoF]
    split
    · exact mul_abs (hb _).1 (hb _).2
    · have : 0 ≤ ((T.getD i 0).natAbs : Int) * M := Int.mul_nonneg (by omega) hM
      omega)
  rw [sm_mul] at h1
  have h2 := sm_mono T.length k hk (f := fun i => ((T.getD i 0).natAbs : Int)) (fun i _ => by omega)
  have h3 := Int.mul_le_mul_of_nonneg_right h2 hM
  have hg := hT.gain0
  have h4 := Int.mul_le_mul_of_nonneg_right (show sm (echoF T (echoL T g h n) n) k ≤ sSz T T.length * M from Int.le_trans h1.2 h3) hg
  have h5 := Int.mul_le_mul_of_nonneg_right (show -(sSz T T.length * M) ≤ sm (echoF T (echoL T g h n) n) k from Int.le_trans (Int.neg_le_neg h3) h1.1) hg
  have h6 : sSz T T.length * g ≤ 16384 * sizeI T g := by simp only [sizeI, fCeil]; omega
  have h7 := Int.mul_le_mul_of_nonneg_right h6 hM
  rw [Int.neg_mul] at h5
  rw [Int.mul_right_comm] at h4 h5
  rw [Int.mul_assoc 16384] at h7
  omega

theorem echo_in {T : List Int} {g h : Int} (hT : GoodLoop T g) (hh : -32767 ≤ h ∧ h ≤ 32767) (hs : sizeI T g < 1000) : ∀ n i : Nat, 1 ≤ i → -(boundI T g h) ≤ (echoL T g h n).getD i 0 ∧ (echoL T g h n).getD i 0 ≤ boundI T g h
  | 0, i, _ => by
    have := (boundI_bd hT hh.1 hh.2 hs).1
    simp only [echoL, List.getD_eq_getElem?_getD, List.getElem?_nil, Option.getD_none]; omega
  | n + 1, i, hi => by
    have hb0 := (boundI_bd hT hh.1 hh.2 hs).1
    rw [echoL_at]
    split
    · exact echo_in hT hh hs n i hi
    · split
      · rename_i hn
        simp only [echoV]
        rw [if_neg (by omega)]
        have first : (echoL T g h n).getD 0 0 = h := by
          have hd : ∀ m, (echoL T g h (m + 1)).getD 0 0 = h := fun m => by
            induction m with
            | zero => rfl
            | succ m ih => rw [echoL_at, if_pos (by omega)]; exact ih
          obtain ⟨m, rfl⟩ : ∃ m, n = m + 1 := ⟨n - 1, by omega⟩
          exact hd m
        have all : ∀ M : Int, (h.natAbs : Int) ≤ M → boundI T g h ≤ M → ∀ j, -M ≤ (echoL T g h n).getD j 0 ∧ (echoL T g h n).getD j 0 ≤ M := by
          intro M h1 h2 j
          by_cases hj : j = 0
          · subst hj; rw [first]; omega
          · have := echo_in hT hh hs n j (by omega)
            omega
        by_cases hc : boundI T g h ≤ (h.natAbs : Int)
        · have hz := sum_step (h := h) hT n (min (n + 1) T.length) (by omega) (show (0 : Int) ≤ (h.natAbs : Int) by omega) (all _ (Int.le_refl _) hc)
          have := bound_step hT hs (.inl ⟨rfl, hc⟩) hz.1 hz.2
          exact clampE_in this.1 this.2
        · have hz := sum_step (h := h) hT n (min (n + 1) T.length) (by omega) hb0 (all _ (by omega) (Int.le_refl _))
          have := bound_step hT hs (.inr rfl) hz.1 hz.2
          exact clampE_in this.1 this.2
      · omega

@[reducible] def sLoopEchoes : Spec := { pats := [.dat LoopT, .dat I64, .dat I64], res := [{ t := .bool }], pre := fun _ => True, f := fun _ => (true, ()) }
def leAnn (T : List Int) (g h c : Int) : LoopAnn := { σ := Nat, pat := fun k => [sI 14 k], inv := fun k => 1 ≤ k ∧ k ≤ max 1 c.toNat, meas := fun k => max 1 c.toNat - k }

theorem ebBad {T : List Int} {g h : Int} (hc : ¬ fCheckLoop T g = 0) : fBound T g h = (0, fCheckLoop T g) := by
  have e : ebErr T g h = fCheckLoop T g := by simp only [ebErr]; rw [if_neg hc]
  simp only [fBound]; rw [e, if_neg hc]
theorem ecBad {T : List Int} {g h c : Int} (hc : ¬ fCheckLoop T g = 0) : fEchoes T g h c = ([], fCheckLoop T g) := by
  have e : echoErr T g h c = fCheckLoop T g := by simp only [echoErr]; rw [if_neg hc]
  simp only [fEchoes]; rw [e, if_neg hc]
theorem ebBad2 {T : List Int} {g h : Int} (hc : fCheckLoop T g = 0) (hh : ¬ (-32767 ≤ h ∧ h ≤ 32767)) : fBound T g h = (0, 2) := by
  have e : ebErr T g h = 2 := by simp [ebErr, hc, hh]
  simp only [fBound]; rw [e, if_neg (by decide)]
theorem ecBad2 {T : List Int} {g h c : Int} (hc : fCheckLoop T g = 0) (hh : ¬ ((-32767 ≤ h ∧ h ≤ 32767) ∧ 0 ≤ c ∧ c ≤ 200)) : fEchoes T g h c = ([], 2) := by
  have e : echoErr T g h c = 2 := by simp only [echoErr]; rw [if_pos hc, if_neg hh]
  simp only [fEchoes]; rw [e, if_neg (by decide)]
theorem ecOk {T : List Int} {g h c : Int} (hc : fCheckLoop T g = 0) (hh : (-32767 ≤ h ∧ h ≤ 32767) ∧ 0 ≤ c ∧ c ≤ 200) : fEchoes T g h c = (echoL T g h c.toNat, 0) := by
  have e : echoErr T g h c = 0 := by simp only [echoErr]; rw [if_pos hc, if_pos hh]
  simp only [fEchoes]; rw [if_pos e]
theorem ebOk {T : List Int} {g h : Int} (hc : fCheckLoop T g = 0) (hh : -32767 ≤ h ∧ h ≤ 32767) : fBound T g h = fBoundR T g h := by
  have e : ebErr T g h = 0 := by simp [ebErr, hc, hh]
  simp only [fBound, fBoundR]; rw [if_pos e]

end Go.Eng.Lp
