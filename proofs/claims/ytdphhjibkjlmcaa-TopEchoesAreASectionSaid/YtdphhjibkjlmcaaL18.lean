/- Contracts of base.Root, base.Mod, ref.round, ref.middle. Conditions: each contract's own. -/
import Derived.Test.YtdphhjibkjlmcaaL17
import Derived.Test.YtdphhjibkjlmcaaP2
namespace Go.Eng.Lp
open Go.Eng Go.Proofs
set_option linter.all false
set_option maxRecDepth 100000
set_option maxHeartbeats 8000000

/-- The bit ahead of k bits. -/
def bitI (k : Nat) : Int := ((2 ^ k / 2 : Nat) : Int)

def rootAnnB (n : Int) : LoopAnn := { σ := Nat × Nat, pat := fun s => [sI 3 s.2, sI 4 (bitI s.1)], inv := fun s => rtGo s.1 s.2 n.toNat = rt n.toNat ∧ s.1 ≤ 31 ∧ s.2 + 2 ^ s.1 ≤ 2147483648, meas := fun s => s.1 }

@[reducible] def sRootB : Spec := { pats := [.dat I64], res := [{ t := I64 }], pre := fun x => 0 ≤ x.1, f := fun x => (rtI x.1, ()) }

theorem bit_succ (k : Nat) : bitI (k + 1) = (2 ^ k : Nat) := by
  simp only [bitI]
  rw [Nat.pow_succ, Nat.mul_div_cancel _ (by decide)]

abbrev rootInv (n : Int) (k r : Nat) : Prop := rtGo k r n.toNat = rt n.toNat ∧ k ≤ 31 ∧ r + 2 ^ k ≤ 2147483648

theorem root_step {n : Int} (hn : 0 ≤ n) {k r : Nat} (h : rootInv n k r) (hb : 0 < bitI k) : ∃ j p : Nat, k = j + 1 ∧ bitI k = p ∧ (bitI k).tdiv 2 = bitI j ∧ 1 ≤ p ∧ p ≤ 1073741824 ∧ r + 2 * p ≤ 2147483648 ∧
    (((r : Int) + p) * ((r : Int) + p) ≤ n → rootInv n j (r + p)) ∧ (n < ((r : Int) + p) * ((r : Int) + p) → rootInv n j r) := by
  obtain ⟨h1, h2, h3⟩ := h
  cases k with
  | zero => simp [bitI] at hb
  | succ j =>
    have hp := Nat.two_pow_pos j
    have hle : 2 ^ j ≤ 2 ^ 30 := Nat.pow_le_pow_right (by decide) (by omega)
    rw [Nat.pow_succ] at h3
    have hc : (((r + 2 ^ j) * (r + 2 ^ j) : Nat) : Int) = ((r : Int) + (2 ^ j : Nat)) * ((r : Int) + (2 ^ j : Nat)) := by push_cast; rfl
    have e3 : (bitI (j + 1)).tdiv 2 = bitI j := by
      rw [bit_succ, Int.tdiv_eq_ediv_of_nonneg (by omega)]
      simp only [bitI]; omega
    simp only [rtGo] at h1
    refine ⟨j, 2 ^ j, rfl, bit_succ j, e3, hp, by simpa using hle, by omega, fun hx => ?_, fun hx => ?_⟩
    · have : Nat.ble ((r + 2 ^ j) * (r + 2 ^ j)) n.toNat = true := Nat.ble_eq_true_of_le (by omega)
      rw [this] at h1
      exact ⟨h1, by omega, by omega⟩
    · have : Nat.ble ((r + 2 ^ j) * (r + 2 ^ j)) n.toNat = false := by
        cases hb : Nat.ble ((r + 2 ^ j) * (r + 2 ^ j)) n.toNat with
        | false => rfl
        | true => have := Nat.le_of_ble_eq_true hb; omega
      rw [this] at h1
      exact ⟨h1, by omega, by omega⟩

theorem sq_le2 {x B : Int} (h1 : 0 ≤ x) (h2 : x ≤ B) : 0 ≤ x * x ∧ x * x ≤ B * B := ⟨Int.mul_nonneg h1 h1, Int.mul_le_mul h2 h2 h1 (by omega)⟩

abbrev fMod (n b : Int) : Int := n % b
@[reducible] def sMod : Spec := { pats := [.dat I64, .dat I64], res := [{ t := I64 }], pre := fun x => 0 < x.2.1 ∧ x.2.1 ≤ 2000000000000000000, f := fun x => (fMod x.1 x.2.1, ()) }

theorem tmod_mod {n b : Int} (hb : 0 < b) : (n.tmod b < 0 → n.tmod b + b = n % b) ∧ (0 ≤ n.tmod b → n.tmod b = n % b) := by
  have h1 := Int.tmod_eq_emod (a := n) (b := b)
  have h2 := Int.emod_nonneg n (show b ≠ 0 by omega)
  have h3 := Int.emod_lt_of_pos n hb
  split at h1 <;> omega

/-- base.Mod -/
theorem h66 : Ok 13 sMod := by
  refine mk (ctr := []) trivial (nt := 14) Try.func13 rfl rfl rfl rfl (by kernel_rfl) (by kernel_rfl) (fun _ => []) ?_
  rintro ⟨(n : Int), (b : Int), _⟩ ⟨(h1 : 0 < b), (h2 : b ≤ 2000000000000000000)⟩
  have h3 := tmod_sz n b h1
  have h4 := tmod_mod (n := n) h1
  repeat' (intro hzz; (try (rename Two => hq; cases hq)); (try dsimp only at hzz); (try simp only [resTy, argTy, eqD, inR, big, wantOf, Bool.not_true, Bool.not_false, Bool.true_eq, decide_eq_true_eq, decide_eq_false_iff_not, Bool.not_eq_true', Bool.not_eq_false', Bool.and_eq_true, Prod.mk.injEq, and_true, true_and, Int.not_lt, Int.not_le, gt_iff_lt, ge_iff_le] at hzz); (try simp only [resTy, argTy, eqD, inR, big, wantOf, Bool.not_true, Bool.not_false, Bool.true_eq, decide_eq_true_eq, decide_eq_false_iff_not, Bool.not_eq_true', Bool.not_eq_false', Bool.and_eq_true, Prod.mk.injEq, and_true, true_and, Int.not_lt, Int.not_le, gt_iff_lt, ge_iff_le, fMod] at hzz); (try (revert hzz; intro _)))
  all_goals try (rename Unit => hq; clear hq)
  all_goals try ((with_reducible refine Held.mk ?_); (with_reducible (first | refine Frz.mk ?_ | refine And.intro (Frz.mk ?_) ?_ | refine And.intro ?_ (Frz.mk ?_))); repeat' first | exact True.intro | (change _ = _; with_reducible rfl) | refine And.intro ?_ ?_ | (with_reducible refine Frz.mk ?_))
  all_goals try (refine Held.mk ?_; (try dsimp only at *); (try simp only [resTy, argTy, eqD, inR, big, wantOf, Bool.not_true, Bool.not_false, Bool.true_eq, decide_eq_true_eq, decide_eq_false_iff_not, Bool.not_eq_true', Bool.not_eq_false', Bool.and_eq_true, Prod.mk.injEq, and_true, true_and, Int.not_lt, Int.not_le, gt_iff_lt, ge_iff_le] at *); (try simp only [resTy, argTy, eqD, inR, big, wantOf, Bool.not_true, Bool.not_false, Bool.true_eq, decide_eq_true_eq, decide_eq_false_iff_not, Bool.not_eq_true', Bool.not_eq_false', Bool.and_eq_true, Prod.mk.injEq, and_true, true_and, Int.not_lt, Int.not_le, gt_iff_lt, ge_iff_le, fMod] at *))
  all_goals try omega

abbrev fRoundR (n b : Int) : Int := (n + b / 2) / b
@[reducible] def sRoundR : Spec := { pats := [.dat I64, .dat I64], res := [{ t := I64 }], pre := fun x => 0 < x.2.1 ∧ x.2.1 ≤ 2000000000000000000 ∧ -8000000000000000000 ≤ x.1 ∧ x.1 ≤ 7000000000000000000, f := fun x => (fRoundR x.1 x.2.1, ()) }

end Go.Eng.Lp
