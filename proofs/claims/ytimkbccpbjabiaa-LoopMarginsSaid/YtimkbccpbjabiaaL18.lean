/- Contracts of base.Root, base.Mod, ref.round, ref.middle. Conditions: each contract's own. -/
import Derived.Test.YtimkbccpbjabiaaL17
import Derived.Test.YtimkbccpbjabiaaP2
namespace Go.Eng.Lp
open Go.Eng Go.Proofs
set_option linter.all false
set_option maxRecDepth 100000
set_option maxHeartbeats 8000000

/-- The bit ahead of k bits. -/
def bitI (k : Nat) : Int := ((2 ^ k / 2 : Nat) : Int)

def rootAnnB (n : Int) : LoopAnn := { σ := Nat × Nat, pat := fun s => [sI 3 s.2, sI 4 (bitI s.1)], inv := fun s => rtGo s.1 s.2 n.toNat = rt n.toNat ∧ s.1 ≤ 31 ∧ s.2 + 2 ^ s.1 ≤ 2147483648, meas := fun s => s.1 }

@[reducible] def sRootB : Spec := { pats := [.dat I64], res := [{ t := I64 }], pre := fun x => 0 ≤ x.1, f := fun x => (rtI x.1, ()) }

theorem bit_succ (k : Nat) : bitI (k + 1) = (2 ^ k : Nat) := by
  simp only [bitI]
  rw [Nat.pow_succ, Nat.mul_div_cancel _ (by decide)]

abbrev rootInv (n : Int) (k r : Nat) : Prop := rtGo k r n.toNat = rt n.toNat ∧ k ≤ 31 ∧ r + 2 ^ k ≤ 2147483648

theorem root_step {n : Int} (hn : 0 ≤ n) {k r : Nat} (h : rootInv n k r) (hb : 0 < bitI k) : ∃ j p : Nat, k = j + 1 ∧ bitI k = p ∧ (bitI k).tdiv 2 = bitI j ∧ 1 ≤ p ∧ p ≤ 1073741824 ∧ r + 2 * p ≤ 2147483648 ∧
    (((r : Int) + p) * ((r : Int) + p) ≤ n → rootInv n j (r + p)) ∧ (n < ((r : Int) + p) * ((r : Int) + p) → rootInv n j r) := by
  obtain ⟨h1, h2, h3⟩ := h
  cases k with
  | zero => simp [bitI] at hb
  | succ j =>
    have hp := Nat.two_pow_pos j
    have hle : 2 ^ j ≤ 2 ^ 30 := Nat.pow_le_pow_right (by decide) (by omega)
    rw [Nat.pow_succ] at h3
    have hc : (((r + 2 ^ j) * (r + 2 ^ j) : Nat) : Int) = ((r : Int) + (2 ^ j : Nat)) * ((r : Int) + (2 ^ j : Nat)) := by push_cast; rfl
    have e3 : (bitI (j + 1)).tdiv 2 = bitI j := by
      rw [bit_succ, Int.tdiv_eq_ediv_of_nonneg (by omega)]
      simp only [bitI]; omega
    simp only [rtGo] at h1
    refine ⟨j, 2 ^ j, rfl, bit_succ j, e3, hp, by simpa using hle, by omega, fun hx => ?_, fun hx => ?_⟩
    · have : Nat.ble ((r + 2 ^ j) * (r + 2 ^ j)) n.toNat = true := Nat.ble_eq_true_of_le (by omega)
      rw [this] at h1
      exact ⟨h1, by omega, by omega⟩
    · have : Nat.ble ((r + 2 ^ j) * (r + 2 ^ j)) n.toNat = false := by
        cases hb : Nat.ble ((r + 2 ^ j) * (r + 2 ^ j)) n.toNat with
        | false => rfl
        | true => have := Nat.le_of_ble_eq_true hb; omega
      rw [this] at h1
      exact ⟨h1, by omega, by omega⟩

theorem sq_le2 {x B : Int} (h1 : 0 ≤ x) (h2 : x ≤ B) : 0 ≤ x * x ∧ x * x ≤ B * B := ⟨Int.mul_nonneg h1 h1, Int.mul_le_mul h2 h2 h1 (by omega)⟩

/-- base.Root -/
theorem h117 : Ok 117 sRootB := by
  refine mk (ctr := []) trivial (nt := 22) Try.func117 rfl rfl rfl rfl (by kernel_rfl) (by kernel_rfl) (fun x => [fun _ => rootAnnB x.1]) ?_
  rintro ⟨(n : Int), _⟩ (hn : 0 ≤ n)
  repeat' (intro hzz; (try (rename Two => hq; cases hq)); (try dsimp only at hzz); (try simp only [resTy, argTy, eqD, inR, big, wantOf, Bool.not_true, Bool.not_false, Bool.true_eq, decide_eq_true_eq, decide_eq_false_iff_not, Bool.not_eq_true', Bool.not_eq_false', Bool.and_eq_true, Prod.mk.injEq, and_true, true_and, Int.not_lt, Int.not_le, gt_iff_lt, ge_iff_le] at hzz); (try (revert hzz; intro _)))
  all_goals try (rename Unit => hq; clear hq)
  all_goals try ((with_reducible refine Held.mk ?_); (with_reducible (first | refine Frz.mk ?_ | refine And.intro (Frz.mk ?_) ?_ | refine And.intro ?_ (Frz.mk ?_))); repeat' first | exact True.intro | (change _ = _; with_reducible rfl) | refine And.intro ?_ ?_ | (with_reducible refine Frz.mk ?_))
  all_goals try (refine Held.mk ?_; (try dsimp only at *); (try simp only [resTy, argTy, eqD, inR, big, wantOf, Bool.not_true, Bool.not_false, Bool.true_eq, decide_eq_true_eq, decide_eq_false_iff_not, Bool.not_eq_true', Bool.not_eq_false', Bool.and_eq_true, Prod.mk.injEq, and_true, true_and, Int.not_lt, Int.not_le, gt_iff_lt, ge_iff_le] at *))
  all_goals try omega
  ·
    refine GHeld.mk ?_
    refine Exists.intro (31, 0) ?_
    refine And.intro (Leaf.mk ?_) ?_
    · repeat' first | exact True.intro | refine And.intro ?_ ?_
      all_goals try ((change _ = _ <;> try dsimp only) <;> try with_reducible rfl)
      all_goals try omega
      all_goals (rfl)
    exact ⟨rfl, by decide, by decide⟩
  all_goals try
    (rename_i s h1 h2
     obtain ⟨k, r⟩ := s
     obtain ⟨j, p, g1, g2, g3, g4, g5, g6, g7, g8⟩ := root_step hn h1 h2
     dsimp only at *
     rw [g2]
     have := sq_le2 (x := (r : Int) + p) (B := 2147483648) (by omega) (by omega)
     omega)
  all_goals try
    (rename_i s h1 h2 h3
     obtain ⟨k, r⟩ := s
     obtain ⟨j, p, g1, g2, g3, g4, g5, g6, g7, g8⟩ := root_step hn h1 h2
     dsimp only at *
     try rw [g3]
     try rw [g2]
     have e0 : bitI j = (p : Int).tdiv 2 := by rw [← g3, g2]
     rw [Int.tdiv_eq_ediv_of_nonneg (by omega)] at e0
     try rw [e0]
     omega)
  · rename_i s h1 h2 h3
    obtain ⟨k, r⟩ := s
    obtain ⟨j, p, g1, g2, g3, g4, g5, g6, g7, g8⟩ := root_step hn h1 h2
    dsimp only at h3
    rw [g2] at h3
    have e1 : (r : Int) + bitI k = ((r + p : Nat) : Int) := by rw [g2]; push_cast; rfl
    refine GHeld.mk ?_
    refine Exists.intro (j, r + p) ?_
    refine And.intro (Leaf.mk ?_) ?_
    · repeat' first | exact True.intro | refine And.intro ?_ ?_
      all_goals try ((change _ = _ <;> try dsimp only) <;> try with_reducible rfl)
      all_goals try omega
      all_goals (first | exact e1 | exact g3)
    exact ⟨g7 h3, by subst g1; exact Nat.lt_succ_self j⟩
  · rename_i s h1 h2 h3
    obtain ⟨k, r⟩ := s
    obtain ⟨j, p, g1, g2, g3, g4, g5, g6, g7, g8⟩ := root_step hn h1 h2
    dsimp only at h3
    rw [g2] at h3
    refine GHeld.mk ?_
    refine Exists.intro (j, r) ?_
    refine And.intro (Leaf.mk ?_) ?_
    · repeat' first | exact True.intro | refine And.intro ?_ ?_
      all_goals try ((change _ = _ <;> try dsimp only) <;> try with_reducible rfl)
      all_goals try omega
      all_goals (exact g3)
    exact ⟨g8 h3, by subst g1; exact Nat.lt_succ_self j⟩
  · rename_i s h1 h2
    obtain ⟨k, r⟩ := s
    obtain ⟨g1, g2, g3⟩ := h1
    dsimp only at *
    have hk : k = 0 := by
      cases k with
      | zero => rfl
      | succ j => rw [bit_succ] at h2; have := Nat.two_pow_pos j; omega
    subst hk
    simp only [rtI, ← g1, rtGo]

abbrev fMod (n b : Int) : Int := n % b
@[reducible] def sMod : Spec := { pats := [.dat I64, .dat I64], res := [{ t := I64 }], pre := fun x => 0 < x.2.1 ∧ x.2.1 ≤ 2000000000000000000, f := fun x => (fMod x.1 x.2.1, ()) }

theorem tmod_mod {n b : Int} (hb : 0 < b) : (n.tmod b < 0 → n.tmod b + b = n % b) ∧ (0 ≤ n.tmod b → n.tmod b = n % b) := by
  have h1 := Int.tmod_eq_emod (a := n) (b := b)
  have h2 := Int.emod_nonneg n (show b ≠ 0 by omega)
  have h3 := Int.emod_lt_of_pos n hb
  split at h1 <;> omega

/-- base.Mod -/
theorem h66 : Ok 66 sMod := by
  refine mk (ctr := []) trivial (nt := 14) Try.func66 rfl rfl rfl rfl (by kernel_rfl) (by kernel_rfl) (fun _ => []) ?_
  rintro ⟨(n : Int), (b : Int), _⟩ ⟨(h1 : 0 < b), (h2 : b ≤ 2000000000000000000)⟩
  have h3 := tmod_sz n b h1
  have h4 := tmod_mod (n := n) h1
  repeat' (intro hzz; (try (rename Two => hq; cases hq)); (try dsimp only at hzz); (try simp only [resTy, argTy, eqD, inR, big, wantOf, Bool.not_true, Bool.not_false, Bool.true_eq, decide_eq_true_eq, decide_eq_false_iff_not, Bool.not_eq_true', Bool.not_eq_false', Bool.and_eq_true, Prod.mk.injEq, and_true, true_and, Int.not_lt, Int.not_le, gt_iff_lt, ge_iff_le] at hzz); (try simp only [resTy, argTy, eqD, inR, big, wantOf, Bool.not_true, Bool.not_false, Bool.true_eq, decide_eq_true_eq, decide_eq_false_iff_not, Bool.not_eq_true', Bool.not_eq_false', Bool.and_eq_true, Prod.mk.injEq, and_true, true_and, Int.not_lt, Int.not_le, gt_iff_lt, ge_iff_le, fMod] at hzz); (try (revert hzz; intro _)))
  all_goals try (rename Unit => hq; clear hq)
  all_goals try ((with_reducible refine Held.mk ?_); (with_reducible (first | refine Frz.mk ?_ | refine And.intro (Frz.mk ?_) ?_ | refine And.intro ?_ (Frz.mk ?_))); repeat' first | exact True.intro | (change _ = _; with_reducible rfl) | refine And.intro ?_ ?_ | (with_reducible refine Frz.mk ?_))
  all_goals try (refine Held.mk ?_; (try dsimp only at *); (try simp only [resTy, argTy, eqD, inR, big, wantOf, Bool.not_true, Bool.not_false, Bool.true_eq, decide_eq_true_eq, decide_eq_false_iff_not, Bool.not_eq_true', Bool.not_eq_false', Bool.and_eq_true, Prod.mk.injEq, and_true, true_and, Int.not_lt, Int.not_le, gt_iff_lt, ge_iff_le] at *); (try simp only [resTy, argTy, eqD, inR, big, wantOf, Bool.not_true, Bool.not_false, Bool.true_eq, decide_eq_true_eq, decide_eq_false_iff_not, Bool.not_eq_true', Bool.not_eq_false', Bool.and_eq_true, Prod.mk.injEq, and_true, true_and, Int.not_lt, Int.not_le, gt_iff_lt, ge_iff_le, fMod] at *))
  all_goals try omega

abbrev fRoundR (n b : Int) : Int := (n + b / 2) / b
@[reducible] def sRoundR : Spec := { pats := [.dat I64, .dat I64], res := [{ t := I64 }], pre := fun x => 0 < x.2.1 ∧ x.2.1 ≤ 2000000000000000000 ∧ -8000000000000000000 ≤ x.1 ∧ x.1 ≤ 7000000000000000000, f := fun x => (fRoundR x.1 x.2.1, ()) }

/-- ref.round -/
theorem h79 : Ok 79 sRoundR := by
  refine mk (ctr := [(39, sFloor)]) ⟨h39, trivial⟩ (nt := 11) Try.func79 rfl rfl rfl rfl (by kernel_rfl) (by kernel_rfl) (fun _ => []) ?_
  rintro ⟨(n : Int), (b : Int), _⟩ ⟨(h1 : 0 < b), (h2 : b ≤ 2000000000000000000), (h3 : -8000000000000000000 ≤ n), (h4 : n ≤ 7000000000000000000)⟩
  have e : b.tdiv 2 = b / 2 := Int.tdiv_eq_ediv_of_nonneg (by omega)
  repeat' (intro hzz; (try (rename Two => hq; cases hq)); (try dsimp only at hzz); (try simp only [resTy, argTy, eqD, inR, big, wantOf, Bool.not_true, Bool.not_false, Bool.true_eq, decide_eq_true_eq, decide_eq_false_iff_not, Bool.not_eq_true', Bool.not_eq_false', Bool.and_eq_true, Prod.mk.injEq, and_true, true_and, Int.not_lt, Int.not_le, gt_iff_lt, ge_iff_le] at hzz); (try simp only [resTy, argTy, eqD, inR, big, wantOf, Bool.not_true, Bool.not_false, Bool.true_eq, decide_eq_true_eq, decide_eq_false_iff_not, Bool.not_eq_true', Bool.not_eq_false', Bool.and_eq_true, Prod.mk.injEq, and_true, true_and, Int.not_lt, Int.not_le, gt_iff_lt, ge_iff_le, e, pFloor] at hzz); (try (revert hzz; intro _)))
  all_goals try (rename Unit => hq; clear hq)
  all_goals try ((with_reducible refine Held.mk ?_); (with_reducible (first | refine Frz.mk ?_ | refine And.intro (Frz.mk ?_) ?_ | refine And.intro ?_ (Frz.mk ?_))); repeat' first | exact True.intro | (change _ = _; with_reducible rfl) | refine And.intro ?_ ?_ | (with_reducible refine Frz.mk ?_))
  all_goals try (refine Held.mk ?_; (try dsimp only at *); (try simp only [resTy, argTy, eqD, inR, big, wantOf, Bool.not_true, Bool.not_false, Bool.true_eq, decide_eq_true_eq, decide_eq_false_iff_not, Bool.not_eq_true', Bool.not_eq_false', Bool.and_eq_true, Prod.mk.injEq, and_true, true_and, Int.not_lt, Int.not_le, gt_iff_lt, ge_iff_le] at *); (try simp only [resTy, argTy, eqD, inR, big, wantOf, Bool.not_true, Bool.not_false, Bool.true_eq, decide_eq_true_eq, decide_eq_false_iff_not, Bool.not_eq_true', Bool.not_eq_false', Bool.and_eq_true, Prod.mk.injEq, and_true, true_and, Int.not_lt, Int.not_le, gt_iff_lt, ge_iff_le, e, pFloor] at *))
  all_goals try omega

/-- ref.middle -/
theorem h80 : Ok 80 sMid := by
  refine mk (ctr := [(117, sRootB), (39, sFloor)]) ⟨h117, h39, trivial⟩ (nt := 43) Try.func80 rfl rfl rfl rfl (by kernel_rfl) (by kernel_rfl) (fun _ => []) ?_
  rintro ⟨⟨(ax : Int), (ay : Int), _⟩, ⟨(bx : Int), (by' : Int), _⟩, _⟩ h
  have hp : pMid ax ay bx by' := h
  clear h
  obtain ⟨hb, hr⟩ := hp
  have hs := rtI_spec hr
  have e1 := sq_le (x := ax + bx) (B := 134217728) (by omega) (by omega)
  have e2 := sq_le (x := ay + by') (B := 134217728) (by omega) (by omega)
  repeat' (intro hzz; (try (rename Two => hq; cases hq)); (try dsimp only at hzz); (try simp only [resTy, argTy, eqD, inR, big, wantOf, Bool.not_true, Bool.not_false, Bool.true_eq, decide_eq_true_eq, decide_eq_false_iff_not, Bool.not_eq_true', Bool.not_eq_false', Bool.and_eq_true, Prod.mk.injEq, and_true, true_and, Int.not_lt, Int.not_le, gt_iff_lt, ge_iff_le] at hzz); (try simp only [resTy, argTy, eqD, inR, big, wantOf, Bool.not_true, Bool.not_false, Bool.true_eq, decide_eq_true_eq, decide_eq_false_iff_not, Bool.not_eq_true', Bool.not_eq_false', Bool.and_eq_true, Prod.mk.injEq, and_true, true_and, Int.not_lt, Int.not_le, gt_iff_lt, ge_iff_le, pFloor] at hzz); (try (revert hzz; intro _)))
  all_goals try (rename Unit => hq; clear hq)
  all_goals try ((with_reducible refine Held.mk ?_); (with_reducible (first | refine Frz.mk ?_ | refine And.intro (Frz.mk ?_) ?_ | refine And.intro ?_ (Frz.mk ?_))); repeat' first | exact True.intro | (change _ = _; with_reducible rfl) | refine And.intro ?_ ?_ | (with_reducible refine Frz.mk ?_))
  all_goals try (refine Held.mk ?_; (try dsimp only at *); (try simp only [resTy, argTy, eqD, inR, big, wantOf, Bool.not_true, Bool.not_false, Bool.true_eq, decide_eq_true_eq, decide_eq_false_iff_not, Bool.not_eq_true', Bool.not_eq_false', Bool.and_eq_true, Prod.mk.injEq, and_true, true_and, Int.not_lt, Int.not_le, gt_iff_lt, ge_iff_le] at *); (try simp only [resTy, argTy, eqD, inR, big, wantOf, Bool.not_true, Bool.not_false, Bool.true_eq, decide_eq_true_eq, decide_eq_false_iff_not, Bool.not_eq_true', Bool.not_eq_false', Bool.and_eq_true, Prod.mk.injEq, and_true, true_and, Int.not_lt, Int.not_le, gt_iff_lt, ge_iff_le, pFloor] at *))
  all_goals try omega
  · exact hr.1
  · have r1 : 2 * (ax + bx) * 67108864 = 2 * ((ax + bx) * 67108864) := by omega
    have r2 : 2 * (ay + by') * 67108864 = 2 * ((ay + by') * 67108864) := by omega
    rw [r1, r2]
    exact ⟨rfl, rfl⟩

end Go.Eng.Lp
