/- The law LoopMargins returns true. Conditions: none. -/
import Derived.Test.YtdphhjibkjlmcaaL41
namespace Go.Eng.Lp
open Go.Eng Go.Proofs
set_option linter.all false
set_option maxRecDepth 100000
set_option maxHeartbeats 8000000

/-- The loops, scaled. -/
def scl (n : Int) (x : LD) : LD := (x.1, scGain x.2.1 n, ())

theorem mar_steps (l : List LD) : ∃ k : Nat, k ≤ 40 ∧ marI l = 100 * k ∧ (k = 0 ∨ safeB l (100 * k) = true) := by
  have key : ∀ (f : Nat) (k : Nat), k + f = 40 → (k = 0 ∨ safeB l (100 * k) = true) → ∃ k', k' ≤ 40 ∧ marK (safeB l) f (100 * k) = 100 * (k' : Nat) ∧ (k' = 0 ∨ safeB l (100 * k') = true) := by
    intro f
    induction f with
    | zero => intro k hk h; exact ⟨k, by omega, rfl, h⟩
    | succ f ih =>
      intro k hk h
      simp only [marK]
      split
      · rename_i hs
        have e : (100 * (k : Int) + 100) = 100 * ((k + 1 : Nat) : Int) := by omega
        rw [e] at hs ⊢
        exact ih (k + 1) (by omega) (.inr hs.2)
      · exact ⟨k, by omega, rfl, h⟩
  exact key 40 0 rfl (.inl rfl)

theorem gain0 (g : Int) : scGain g 0 = 0 := by simp [scGain, fCeil]

theorem zero_yes {T : List Int} {g : Int} (h : GoodLoop T g) : yesB T 0 = true := by
  have h0 : GoodLoop T 0 := ⟨h.pos, h.le, h.zero, h.val, by omega, by omega⟩
  have ho := small_yes h0 (by simp [sizeI, fCeil])
  unfold yesB; exact decide_eq_true (by simp only [decK]; rw [if_pos ho])

/-- All loops, scaled by the margin, are right and proved. -/
theorem mar_all {l : List LD} (hl : goodAll l) : (0 ≤ marI l ∧ marI l ≤ 4000) ∧ ∀ i, i < l.length → scGain (l.getD i ([], 0, ())).2.1 (marI l) ≤ 10000 ∧ yesB (l.getD i ([], 0, ())).1 (scGain (l.getD i ([], 0, ())).2.1 (marI l)) = true := by
  obtain ⟨k, h1, h2, h3⟩ := mar_steps l
  rw [h2]
  refine ⟨by omega, fun i hi => ?_⟩
  rcases h3 with rfl | h3
  · have e : (100 * ((0 : Nat) : Int)) = 0 := rfl
    rw [e, gain0]
    exact ⟨by omega, zero_yes (hl.2 i hi)⟩
  · have := of_decide_eq_true h3 i hi
    simpa only [nxB, Bool.and_eq_true, decide_eq_true_eq] using this

theorem gain_loop {T : List Int} {g g' : Int} (hc : fCheckLoop T g = 0) (h0 : 0 ≤ g') (h1 : g' ≤ 10000) : fCheckLoop T g' = 0 := by
  unfold fCheckLoop at hc ⊢
  split at hc
  · omega
  · split at hc
    · omega
    · split at hc
      · omega
      · split at hc
        · omega
        · rename_i a b c d
          rw [if_neg a, if_neg b, if_neg c, if_neg (by
            intro h; exact d (h.imp id (fun h => by omega)))]

theorem mapL_get {f : LD → LD} {l : List LD} {i : Nat} (hi : i < l.length) : (l.map f).getD i ([], 0, ()) = f (l.getD i ([], 0, ())) := by
  rw [List.getD_eq_getElem?_getD, List.getD_eq_getElem?_getD, List.getElem?_map, List.getElem?_eq_getElem hi]; rfl

theorem scaled_open {l : List LD} (he : lpErr l = 0) : foErr (l.map (scl (marI l))) = 12 := by
  obtain ⟨hpos, hg⟩ := lp_good he
  obtain ⟨hm, hall⟩ := mar_all hg
  have hz : ∀ j, j < l.length → fCheckLoop (l.getD j ([], 0, ())).1 (l.getD j ([], 0, ())).2.1 = 0 := by
    have h := he
    simp only [lpErr] at h
    rw [if_neg (by omega), if_neg (by have := hg.1; omega)] at h
    exact (lpErrK_zero _).1 h
  have h1 : lpErr (l.map (scl (marI l))) = 0 := by
    simp only [lpErr, List.length_map]
    rw [if_neg (by omega), if_neg (by have := hg.1; omega)]
    refine (lpErrK_zero _).2 fun j hj => ?_
    rw [mapL_get hj]
    have hgj := hg.2 j hj
    have h0 := Int.mul_nonneg hgj.gain0 hm.1
    exact gain_loop (hz j hj) (show 0 ≤ scGain (l.getD j ([], 0, ())).2.1 (marI l) by simp only [scGain, fCeil]; omega) (hall j hj).1
  have h2 : findNo (fun x => yesB x.1 x.2.1) (l.map (scl (marI l))) 0 = -1 := findNo_none _ 0 fun j hj => by
    have hj : j < l.length := by simpa using hj
    rw [mapL_get hj]
    exact (hall j hj).2
  simp only [foErr]
  rw [if_pos h1]
  simp only [frE]
  rw [h2]; rfl

theorem take_map {l : List LD} {f : LD → LD} {k : Nat} (hk : k < l.length) : (l.map f).take (k + 1) = (l.map f).take k ++ [f (l.getD k ([], 0, ()))] := by
  rw [List.take_succ_eq_append_getElem (by simpa using hk), List.getElem_map]
  rw [List.getD_eq_getElem?_getD, List.getElem?_eq_getElem hk]; rfl

def lmAll (l : List LD) : LoopAnn := { σ := Nat, pat := fun k => sI 11 k :: sOwnG LoopT 10 60010 27 ((l.map (scl (marI l))).take k), inv := fun k => k ≤ l.length, meas := fun k => l.length - k }

@[reducible] def sLoopMargins : Spec := { pats := [.dat (.sl LoopT)], res := [{ t := .bool }], pre := fun _ => True, f := fun _ => (true, ()) }

end Go.Eng.Lp
