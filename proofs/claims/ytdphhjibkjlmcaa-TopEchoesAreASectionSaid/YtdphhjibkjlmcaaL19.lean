/- Contract of ref.Table: the directions of the first quarter. Conditions: none. -/
import Derived.Test.YtdphhjibkjlmcaaL18
namespace Go.Eng.Lp
open Go.Eng Go.Proofs
set_option linter.all false
set_option maxRecDepth 100000
set_option maxHeartbeats 8000000

abbrev DirT : Ty := .cons I64 (.cons I64 .nil)
abbrev IIU := Int × Int × Unit
def wI (m : Nat) : IIU := ((W m).1, (W m).2, ())
/-- The table as far as it is done. -/
@[irreducible] def tabD (p : Nat → Bool) : List IIU := tab (fun i => bif p i then wI i else (0, 0, ())) 1025
theorem tabD_eq (p : Nat → Bool) : tabD p = tab (fun i => bif p i then wI i else (0, 0, ())) 1025 := by unfold tabD; rfl
theorem tabD_len (p : Nat → Bool) : (tabD p).length = 1025 := by rw [tabD_eq]; exact tab_len _ _
def tableI : List IIU := tab wI 1025

def dn (D : Nat) (i : Nat) : Bool := Nat.beq (i % D) 0
def dnx (s : Nat) (x i : Nat) : Bool := Nat.beq (i % (2 * s)) 0 || (Nat.beq (i % s) 0 && Nat.blt i x)
def stepN (j : Nat) : Nat := 256 / 2 ^ j

theorem dn_iff {D i : Nat} : dn D i = true ↔ i % D = 0 := by simp [dn]
theorem dnx_iff {s x i : Nat} : dnx s x i = true ↔ i % (2 * s) = 0 ∨ (i % s = 0 ∧ i < x) := by simp [dnx]

theorem tab_set {α : Type} {f g : Nat → α} {m : Nat} {v : α} : ∀ n, (∀ i, i < n → g i = if i = m then v else f i) → (tab f n).set m v = tab g n
  | 0, _ => rfl
  | n + 1, h => by
    simp only [tab]
    by_cases hm : m < n
    · rw [List.set_append_left _ _ (by rw [tab_len]; exact hm), tab_set n (fun i hi => h i (by omega))]
      have := h n (by omega)
      rw [if_neg (by omega)] at this
      rw [this]
    · rw [List.set_append_right _ _ (by rw [tab_len]; omega), tab_len]
      have e : tab f n = tab g n := tab_congr n fun i hi => by rw [h i (by omega), if_neg (by omega)]
      rw [e]
      have := h n (by omega)
      by_cases hn : n = m
      · subst hn
        rw [if_pos rfl] at this
        rw [this, Nat.sub_self]; rfl
      · rw [if_neg hn] at this
        obtain ⟨d, hd⟩ : ∃ d, m - n = d + 1 := ⟨m - n - 1, by omega⟩
        rw [this, hd]; rfl

theorem tabD_set {p q : Nat → Bool} {m : Nat} (h : ∀ i, i < 1025 → (q i = true ↔ p i = true ∨ i = m)) : (tabD p).set m (wI m) = tabD q := by
  rw [tabD_eq, tabD_eq]
  refine tab_set 1025 fun i hi => ?_
  have := h i hi
  by_cases hm : i = m
  · have hq : q i = true := this.2 (.inr hm)
    rw [if_pos hm, hq, hm]; rfl
  · rw [if_neg hm]
    have : q i = p i := by
      cases hq : q i with
      | true => cases hp : p i with
        | true => rfl
        | false => rw [hq, hp] at this; simp [hm] at this
      | false => cases hp : p i with
        | false => rfl
        | true => rw [hq, hp] at this; simp at this
    rw [this]

theorem tabD_congr {p q : Nat → Bool} (h : ∀ i, i < 1025 → (q i = true ↔ p i = true)) : tabD p = tabD q := by
  rw [tabD_eq, tabD_eq]
  refine tab_congr 1025 fun i hi => ?_
  have := h i hi
  have : q i = p i := by
    cases hq : q i <;> cases hp : p i <;> simp_all
  rw [this]

theorem tabD_get {p : Nat → Bool} {i : Nat} (hi : i < 1025) (hp : p i = true) (d : IIU) : (tabD p).getD i d = wI i := by
  rw [tabD_eq]
  have := tab_get (fun i => bif p i then wI i else (0, 0, ())) d 1025 i hi
  rw [hp] at this
  exact this

theorem rm0 (xs : List IIU) (h : xs.length = 1025) {k : Int} (h1 : 0 ≤ k) (h2 : k < 1025) : 0 ≤ k ∧ k < (xs.length : Int) := by omega

/-- The steps. -/
def Stp (j s : Nat) : Prop := (j = 0 ∧ s = 256) ∨ (j = 1 ∧ s = 128) ∨ (j = 2 ∧ s = 64) ∨ (j = 3 ∧ s = 32) ∨ (j = 4 ∧ s = 16) ∨ (j = 5 ∧ s = 8) ∨ (j = 6 ∧ s = 4) ∨ (j = 7 ∧ s = 2) ∨ (j = 8 ∧ s = 1)

theorem stp_of {j : Nat} (h : j ≤ 9) (h1 : 1 ≤ (stepN j : Int)) : Stp j (stepN j) := by
  match j, h with
  | 0, _ => exact .inl ⟨rfl, rfl⟩
  | 1, _ => exact .inr (.inl ⟨rfl, rfl⟩)
  | 2, _ => exact .inr (.inr (.inl ⟨rfl, rfl⟩))
  | 3, _ => exact .inr (.inr (.inr (.inl ⟨rfl, rfl⟩)))
  | 4, _ => exact .inr (.inr (.inr (.inr (.inl ⟨rfl, rfl⟩))))
  | 5, _ => exact .inr (.inr (.inr (.inr (.inr (.inl ⟨rfl, rfl⟩)))))
  | 6, _ => exact .inr (.inr (.inr (.inr (.inr (.inr (.inl ⟨rfl, rfl⟩))))))
  | 7, _ => exact .inr (.inr (.inr (.inr (.inr (.inr (.inr (.inl ⟨rfl, rfl⟩)))))))
  | 8, _ => exact .inr (.inr (.inr (.inr (.inr (.inr (.inr (.inr ⟨rfl, rfl⟩)))))))
  | 9, _ => simp [stepN] at h1

theorem stp_pow {j s : Nat} (h : Stp j s) : 512 / 2 ^ j = 2 * s ∧ 512 / 2 ^ (j + 1) = s ∧ stepN (j + 1) = s / 2 ∧ j + 1 ≤ 9 ∧ 1 ≤ s ∧ s ≤ 256 := by
  rcases h with ⟨rfl, rfl⟩ | ⟨rfl, rfl⟩ | ⟨rfl, rfl⟩ | ⟨rfl, rfl⟩ | ⟨rfl, rfl⟩ | ⟨rfl, rfl⟩ | ⟨rfl, rfl⟩ | ⟨rfl, rfl⟩ | ⟨rfl, rfl⟩ <;> decide

theorem stp_room {j s x : Nat} (h : Stp j s) (hx : x % (2 * s) = 0) (h1 : x ≤ 1024) (h2 : s + x < 1024) : s + x + s ≤ 1024 := by
  rcases h with ⟨rfl, rfl⟩ | ⟨rfl, rfl⟩ | ⟨rfl, rfl⟩ | ⟨rfl, rfl⟩ | ⟨rfl, rfl⟩ | ⟨rfl, rfl⟩ | ⟨rfl, rfl⟩ | ⟨rfl, rfl⟩ | ⟨rfl, rfl⟩ <;> omega

theorem stp_mid {j s x : Nat} (h : Stp j s) (hx : x % (2 * s) = 0) (h2 : s + x < 1024) : W (s + x) = mid (W x) (W (s + x + s)) ∧ okMid (W x) (W (s + x + s)) = true := by
  have key : ∀ n, n ≤ 8 → s = 2 ^ n → W (s + x) = mid (W x) (W (s + x + s)) ∧ okMid (W x) (W (s + x + s)) = true := by
    intro n hn hs
    have hp : 2 ^ (n + 1) = 2 * s := by rw [Nat.pow_succ, hs]; omega
    have hk : x / (2 * s) < 2 ^ (9 - n) := by
      have e : 2 ^ (9 - n) * (2 * s) = 1024 := by
        rw [← hp, ← Nat.pow_add, show 9 - n + (n + 1) = 10 by omega]
      rw [Nat.div_lt_iff_lt_mul (by rw [hs]; have := Nat.two_pow_pos n; omega), e]
      omega
    have := W_mid hn hk
    have ex : x / (2 * s) * (2 * s) = x := Nat.div_mul_cancel (Nat.dvd_of_mod_eq_zero hx)
    rw [hp, ex, ← hs, show x + 2 * s = s + x + s by omega, Nat.add_comm x s] at this
    exact this
  rcases h with ⟨_, h⟩ | ⟨_, h⟩ | ⟨_, h⟩ | ⟨_, h⟩ | ⟨_, h⟩ | ⟨_, h⟩ | ⟨_, h⟩ | ⟨_, h⟩ | ⟨_, h⟩
  · exact key 8 (by decide) h
  · exact key 7 (by decide) h
  · exact key 6 (by decide) h
  · exact key 5 (by decide) h
  · exact key 4 (by decide) h
  · exact key 3 (by decide) h
  · exact key 2 (by decide) h
  · exact key 1 (by decide) h
  · exact key 0 (by decide) h

theorem tb_get {j s x : Nat} (h : Stp j s) (hx : x % (2 * s) = 0) (h2 : s + x < 1024) : (tabD (dnx s (s + x))).getD (((s + x : Nat) : Int) - (s : Nat)).toNat (Ty.dflt DirT) = wI x ∧
    (tabD (dnx s (s + x))).getD (((s + x : Nat) : Int) + (s : Nat)).toNat (Ty.dflt DirT) = wI (s + x + s) ∧ W (s + x) = mid (W x) (W (s + x + s)) ∧ okMid (W x) (W (s + x + s)) = true := by
  have hr := stp_room h hx (by omega) h2
  have e1 : (((s + x : Nat) : Int) - (s : Nat)).toNat = x := by omega
  have e2 : (((s + x : Nat) : Int) + (s : Nat)).toNat = s + x + s := by omega
  rw [e1, e2]
  refine ⟨tabD_get (by omega) (dnx_iff.2 (.inl hx)) _, tabD_get (by omega) (dnx_iff.2 (.inl ?_)) _, stp_mid h hx h2⟩
  rw [show s + x + s = x + 2 * s by omega, Nat.add_mod_right]; exact hx

theorem stp_next {j s x i : Nat} (h : Stp j s) (hx : x % (2 * s) = 0) : dnx s (s + (x + 2 * s)) i = true ↔ dnx s (s + x) i = true ∨ i = s + x := by
  rw [dnx_iff, dnx_iff]
  rcases h with ⟨_, rfl⟩ | ⟨_, rfl⟩ | ⟨_, rfl⟩ | ⟨_, rfl⟩ | ⟨_, rfl⟩ | ⟨_, rfl⟩ | ⟨_, rfl⟩ | ⟨_, rfl⟩ | ⟨_, rfl⟩ <;> omega

theorem stp_in {j s i : Nat} (h : Stp j s) : dnx s (s + 0) i = true ↔ dn (512 / 2 ^ j) i = true := by
  rw [dnx_iff, dn_iff, (stp_pow h).1]
  rcases h with ⟨_, rfl⟩ | ⟨_, rfl⟩ | ⟨_, rfl⟩ | ⟨_, rfl⟩ | ⟨_, rfl⟩ | ⟨_, rfl⟩ | ⟨_, rfl⟩ | ⟨_, rfl⟩ | ⟨_, rfl⟩ <;> omega

theorem stp_out {j s x i : Nat} (h : Stp j s) (hx : x % (2 * s) = 0) (h1 : x ≤ 1024) (h2 : 1024 ≤ s + x) (hi : i < 1025) : dn (512 / 2 ^ (j + 1)) i = true ↔ dnx s (s + x) i = true := by
  rw [dnx_iff, dn_iff, (stp_pow h).2.1]
  rcases h with ⟨_, rfl⟩ | ⟨_, rfl⟩ | ⟨_, rfl⟩ | ⟨_, rfl⟩ | ⟨_, rfl⟩ | ⟨_, rfl⟩ | ⟨_, rfl⟩ | ⟨_, rfl⟩ | ⟨_, rfl⟩ <;> omega

def tbOuter : LoopAnn := { σ := Nat, pat := fun j => [sI 2 (stepN j), .slot 1 (.one (.o 4 (tabD (dn (512 / 2 ^ j))).length)), .row 4 22 DirT (tabD (dn (512 / 2 ^ j)))], inv := fun j => j ≤ 9, meas := fun j => 9 - j }
def tbInner (st : St) : LoopAnn := withI 2 st fun s => { σ := Nat, pat := fun x => [sI 3 (s.toNat + x : Nat), .slot 1 (.one (.o 4 (tabD (dnx s.toNat (s.toNat + x))).length)), .row 4 22 DirT (tabD (dnx s.toNat (s.toNat + x)))], inv := fun x => x % (2 * s.toNat) = 0 ∧ x ≤ 1024, meas := fun x => 1024 - x }

@[reducible] def sTable : Spec := { pats := [], res := [{ t := .sl DirT }], pre := fun _ => True, f := fun _ => (tableI, ()) }

end Go.Eng.Lp
