/- The law TopEchoesAreASection returns true. Conditions: none. -/
import Derived.Test.YtdphhjibkjlmcaaL17
import Derived.Test.YtdphhjibkjlmcaaL21
import Derived.Test.YtdphhjibkjlmcaaF5
namespace Go.Eng.Lp
open Go.Eng Go.Proofs
set_option linter.all false
set_option maxRecDepth 100000
set_option maxHeartbeats 8000000

@[reducible] def sLooped : Spec := { pats := [], res := [{ t := .bool }], pre := fun _ => True, f := fun _ => (true, ()) }
/-- looped -/
theorem hLooped : Ok 5 sLooped := by
  refine mk (ctr := [(21, sOne), (20, sValueAt)]) ⟨h76, h22, trivial⟩ (nt := 15) Try.func5 rfl rfl rfl rfl (by kernel_rfl) (by kernel_rfl) (fun _ => []) ?_
  rintro _ _
  repeat' (intro hzz; (try (rename Two => hq; cases hq)); (try dsimp only at hzz); (try simp only [resTy, argTy, eqD, inR, big, wantOf, Bool.not_true, Bool.not_false, Bool.true_eq, decide_eq_true_eq, decide_eq_false_iff_not, Bool.not_eq_true', Bool.not_eq_false', Bool.and_eq_true, Prod.mk.injEq, and_true, true_and, Int.not_lt, Int.not_le, gt_iff_lt, ge_iff_le] at hzz); (try simp only [resTy, argTy, eqD, inR, big, wantOf, Bool.not_true, Bool.not_false, Bool.true_eq, decide_eq_true_eq, decide_eq_false_iff_not, Bool.not_eq_true', Bool.not_eq_false', Bool.and_eq_true, Prod.mk.injEq, and_true, true_and, Int.not_lt, Int.not_le, gt_iff_lt, ge_iff_le, aw1, Ty.beq] at hzz); (try (revert hzz; intro _)))
  all_goals try (rename Unit => hq; clear hq)
  all_goals try ((with_reducible refine Held.mk ?_); (with_reducible (first | refine Frz.mk ?_ | refine And.intro (Frz.mk ?_) ?_ | refine And.intro ?_ (Frz.mk ?_))); repeat' first | exact True.intro | (change _ = _; with_reducible rfl) | refine And.intro ?_ ?_ | (with_reducible refine Frz.mk ?_))
  all_goals try (refine Held.mk ?_; (try dsimp only at *); (try simp only [resTy, argTy, eqD, inR, big, wantOf, Bool.not_true, Bool.not_false, Bool.true_eq, decide_eq_true_eq, decide_eq_false_iff_not, Bool.not_eq_true', Bool.not_eq_false', Bool.and_eq_true, Prod.mk.injEq, and_true, true_and, Int.not_lt, Int.not_le, gt_iff_lt, ge_iff_le] at *); (try simp only [resTy, argTy, eqD, inR, big, wantOf, Bool.not_true, Bool.not_false, Bool.true_eq, decide_eq_true_eq, decide_eq_false_iff_not, Bool.not_eq_true', Bool.not_eq_false', Bool.and_eq_true, Prod.mk.injEq, and_true, true_and, Int.not_lt, Int.not_le, gt_iff_lt, ge_iff_le, aw1, Ty.beq] at *))
  all_goals try omega
  all_goals (rename ¬ True => h; exact absurd trivial h)

/-- An echo by its number. -/
def eN (T : List Int) (g h : Int) (k : Nat) : Int := echoV T g h k (echoL T g h k)

theorem eL_at (T : List Int) (g h : Int) : ∀ n i, i < n → (echoL T g h n).getD i 0 = eN T g h i
  | 0, i, hi => absurd hi (Nat.not_lt_zero i)
  | n + 1, i, hi => by
    simp only [echoL, List.getD_eq_getElem?_getD]
    by_cases h1 : i < n
    · rw [List.getElem?_append_left (by rw [echoL_len]; exact h1), ← List.getD_eq_getElem?_getD]
      exact eL_at T g h n i h1
    · obtain rfl : i = n := by omega
      rw [List.getElem?_append_right (by rw [echoL_len]; exact Nat.le_refl _), echoL_len, Nat.sub_self]
      rfl

def sumE (t0 t1 h : Int) (k : Nat) : Int := t0 * (if k = 0 then 0 else eN [0, t0, t1] 1000 h (k - 1)) + t1 * (if k ≤ 1 then 0 else eN [0, t0, t1] 1000 h (k - 2))

theorem sum_two (t0 t1 h : Int) (k : Nat) (hk : 0 < k) : sm (echoF [0, t0, t1] (echoL [0, t0, t1] 1000 h k) k) (min (k + 1) 3) = sumE t0 t1 h k := by
  have e0 : echoF [0, t0, t1] (echoL [0, t0, t1] 1000 h k) k 0 = 0 := rfl
  have e1 : echoF [0, t0, t1] (echoL [0, t0, t1] 1000 h k) k 1 = t0 * eN [0, t0, t1] 1000 h (k - 1) := by
    simp only [echoF]
    rw [if_pos (by decide), show ((k : Int) - ((1 : Nat) : Int)).toNat = k - 1 by omega, eL_at _ _ _ _ _ (by omega)]
    rfl
  by_cases h1 : k = 1
  · subst h1
    show sm _ 2 = _
    simp only [sm, e0, e1, sumE]
    rw [if_neg (by decide), if_pos (by decide)]
    omega
  · have e2 : echoF [0, t0, t1] (echoL [0, t0, t1] 1000 h k) k 2 = t1 * eN [0, t0, t1] 1000 h (k - 2) := by
      simp only [echoF]
      rw [if_pos (by decide), show ((k : Int) - ((2 : Nat) : Int)).toNat = k - 2 by omega, eL_at _ _ _ _ _ (by omega)]
      rfl
    rw [show min (k + 1) 3 = 3 by omega]
    simp only [sm, e0, e1, e2, sumE]
    rw [if_neg (by omega), if_neg (by omega)]
    omega

theorem eN_succ (t0 t1 h : Int) (k : Nat) (hk : 0 < k) (hb : -32767 ≤ eN [0, t0, t1] 1000 h k ∧ eN [0, t0, t1] 1000 h k ≤ 32767) :
    eN [0, t0, t1] 1000 h k = (sumE t0 t1 h k + 8192) / 16384 := by
  have e : eN [0, t0, t1] 1000 h k = clampE ((sumE t0 t1 h k * 1000 + 8192000) / 16384000) := by
    simp only [eN, echoV]
    rw [if_neg (by omega)]
    show clampE ((sm (echoF [0, t0, t1] (echoL [0, t0, t1] 1000 h k) k) (min (k + 1) 3) * 1000 + 8192000) / 16384000) = _
    rw [sum_two t0 t1 h k hk]
  rw [e] at hb ⊢
  generalize sumE t0 t1 h k = S at *
  simp only [clampE] at hb ⊢
  split at hb <;> split at hb <;> (first | omega | skip)
  all_goals (repeat' split) <;> omega

theorem clampS_id {v : Int} (h : -32767 ≤ v ∧ v ≤ 32767) : clampS v = v := by
  simp only [clampS]; (repeat' split) <;> omega

/-- The section's state is that of the echoes. -/
theorem sect_step (t0 t1 h : Int) (hh : -32767 ≤ h ∧ h ≤ 32767) : ∀ k, (∀ i, i < k → -32767 ≤ eN [0, t0, t1] 1000 h i ∧ eN [0, t0, t1] 1000 h i ≤ 32767) →
    (stU (-t0) (-t1) h k).y0 = (if k = 0 then 0 else eN [0, t0, t1] 1000 h (k - 1)) ∧ (stU (-t0) (-t1) h k).y1 = (if k ≤ 1 then 0 else eN [0, t0, t1] 1000 h (k - 2)) ∧ impL (-t0) (-t1) h k = echoL [0, t0, t1] 1000 h k
  | 0, _ => ⟨rfl, rfl, rfl⟩
  | k + 1, hb => by
    obtain ⟨i1, i2, i3⟩ := sect_step t0 t1 h hh k (fun i hi => hb i (by omega))
    have hk := hb k (by omega)
    have e : (stU (-t0) (-t1) h (k + 1)).y0 = eN [0, t0, t1] 1000 h k := by
      show clampS (fRound (16384 * inK h k + 0 * (stU (-t0) (-t1) h k).x0 + 0 * (stU (-t0) (-t1) h k).x1 - -t0 * (stU (-t0) (-t1) h k).y0 - -t1 * (stU (-t0) (-t1) h k).y1) 16384) = _
      rw [i1, i2]
      have e1 : 16384 * inK h k + 0 * (stU (-t0) (-t1) h k).x0 + 0 * (stU (-t0) (-t1) h k).x1 - -t0 * (if k = 0 then 0 else eN [0, t0, t1] 1000 h (k - 1)) - -t1 * (if k ≤ 1 then 0 else eN [0, t0, t1] 1000 h (k - 2)) = 16384 * inK h k + sumE t0 t1 h k := by
        simp only [sumE, Int.neg_mul]; omega
      rw [e1]
      by_cases h0 : k = 0
      · subst h0
        have e2 : sumE t0 t1 h 0 = 0 := by simp [sumE]
        have e3 : eN [0, t0, t1] 1000 h 0 = h := rfl
        rw [e2, e3]
        show clampS ((2 * (16384 * h + 0) + 16384) / (2 * 16384)) = h
        rw [show (2 * (16384 * h + 0) + 16384) / (2 * 16384) = h by omega]
        exact clampS_id hh
      · have e2 : inK h k = 0 := by simp only [inK]; rw [if_neg h0]
        rw [e2]
        have e3 := eN_succ t0 t1 h k (by omega) hk
        rw [e3] at hk ⊢
        show clampS ((2 * (16384 * 0 + sumE t0 t1 h k) + 16384) / (2 * 16384)) = _
        rw [show (2 * (16384 * 0 + sumE t0 t1 h k) + 16384) / (2 * 16384) = (sumE t0 t1 h k + 8192) / 16384 by omega]
        exact clampS_id hk
    refine ⟨?_, ?_, ?_⟩
    · rw [if_neg (by omega)]; exact e
    · show (stU (-t0) (-t1) h k).y0 = _
      rw [i1]
      by_cases h0 : k = 0
      · subst h0; rfl
      · rw [if_neg h0, if_neg (by omega)]; rfl
    · show impL (-t0) (-t1) h k ++ [(stU (-t0) (-t1) h (k + 1)).y0] = echoL [0, t0, t1] 1000 h k ++ [eN [0, t0, t1] 1000 h k]
      rw [i3, e]

theorem sect_all {t0 t1 h : Int} {n : Nat} (hh : -32767 ≤ h ∧ h ≤ 32767) (hb : ∀ i, i < n → -32767 ≤ (echoL [0, t0, t1] 1000 h n).getD i 0 ∧ (echoL [0, t0, t1] 1000 h n).getD i 0 ≤ 32767) : impL (-t0) (-t1) h n = echoL [0, t0, t1] 1000 h n :=
  (sect_step t0 t1 h hh n fun i hi => by have := hb i hi; rwa [eL_at _ _ _ _ _ hi] at this).2.2

theorem three_err {t0 t1 : Int} (h : fCheckLoop [0, t0, t1] 1000 ≠ 0) : fCheckLoop [0, t0, t1] 1000 = 2 := by
  simp only [fCheckLoop] at h ⊢
  rw [if_neg (by simp), if_neg (by simp), if_neg (by simp)] at h ⊢
  split
  · rfl
  · rename_i h1; rw [if_neg h1] at h; exact absurd rfl h

def inC (c h : Int) : Prop := (1 ≤ c ∧ c ≤ 60) ∧ (-32767 ≤ h ∧ h ≤ 32767)

def seAnn (X : List Int) : LoopAnn := { σ := Nat, pat := fun k => [sI 10 k], inv := fun k => k ≤ X.length ∧ ∀ j, j < k → -32767 ≤ X.getD j 0 ∧ X.getD j 0 ≤ 32767, meas := fun k => X.length - k }

@[reducible] def sSection : Spec := { pats := [.dat A2, .dat I64, .dat I64], res := [{ t := .bool }], pre := fun _ => True, f := fun _ => (true, ()) }
/-- TopEchoesAreASection -/
theorem hSection : Ok 3 sSection := by
  refine mk (ctr := [(5, sLooped), (6, sWithin), (8, sCopy), (7, sEchoes), (9, sImp), (10, sInts)]) ⟨hLooped, h17, h23, h33, g9, h37, trivial⟩ (nt := 81) Try.func3 rfl rfl rfl rfl (by kernel_rfl) (by kernel_rfl) (fun x => [fun _ => seAnn (echoL [0, x.1.1, x.1.2.1] 1000 x.2.1 (Int.toNat x.2.2.1))]) ?_
  rintro ⟨⟨(t0 : Int), (t1 : Int), _⟩, (h : Int), (c : Int), _⟩ _
  by_cases hc : 1 ≤ c ∧ c ≤ 60
  · by_cases hh : -32767 ≤ h ∧ h ≤ 32767
    · have hK : inC c h := ⟨hc, hh⟩
      by_cases he : fCheckLoop [0, t0, t1] 1000 = 0
      · have hE : echoErr [0, t0, t1] 1000 h c = 0 := by simp only [echoErr]; rw [if_pos he, if_pos ⟨hh, by omega⟩]
        have hF : fEchoes [0, t0, t1] 1000 h c = (echoL [0, t0, t1] 1000 h c.toNat, 0) := by simp only [fEchoes]; rw [if_pos hE]
        have hG := loop_of he
        have ht0 := hG.val 1 (show 1 < 3 by omega)
        have ht1 := hG.val 2 (show 2 < 3 by omega)
        replace ht0 : -16384 ≤ t0 ∧ t0 ≤ 16384 := ht0
        replace ht1 : -16384 ≤ t1 ∧ t1 ≤ 16384 := ht1
        have hlen := echoL_len [0, t0, t1] 1000 h c.toNat
        have hT := @sect_all t0 t1 h c.toNat hh
        generalize echoL [0, t0, t1] 1000 h c.toNat = X at *
        have hX : pLen X.length := pLen2 (by omega)
        repeat' (intro hzz; (try (rename Two => hq; cases hq)); (try dsimp only at hzz); (try simp only [resTy, argTy, eqD, inR, big, wantOf, Bool.not_true, Bool.not_false, Bool.true_eq, decide_eq_true_eq, decide_eq_false_iff_not, Bool.not_eq_true', Bool.not_eq_false', Bool.and_eq_true, Prod.mk.injEq, and_true, true_and, Int.not_lt, Int.not_le, gt_iff_lt, ge_iff_le] at hzz); (try simp only [resTy, argTy, eqD, inR, big, wantOf, Bool.not_true, Bool.not_false, Bool.true_eq, decide_eq_true_eq, decide_eq_false_iff_not, Bool.not_eq_true', Bool.not_eq_false', Bool.and_eq_true, Prod.mk.injEq, and_true, true_and, Int.not_lt, Int.not_le, gt_iff_lt, ge_iff_le, fWithin, hF, hc, hh] at hzz); (try (first | contradiction | (exfalso; omega))); (try (revert hzz; intro _)))
        all_goals try (rename Unit => hq; clear hq)
        all_goals try ((with_reducible refine Held.mk ?_); (with_reducible (first | refine Frz.mk ?_ | refine And.intro (Frz.mk ?_) ?_ | refine And.intro ?_ (Frz.mk ?_))); repeat' first | exact True.intro | (change _ = _; with_reducible rfl) | refine And.intro ?_ ?_ | (with_reducible refine Frz.mk ?_))
        all_goals try (refine Held.mk ?_; (try dsimp only at *); (try simp only [resTy, argTy, eqD, inR, big, wantOf, Bool.not_true, Bool.not_false, Bool.true_eq, decide_eq_true_eq, decide_eq_false_iff_not, Bool.not_eq_true', Bool.not_eq_false', Bool.and_eq_true, Prod.mk.injEq, and_true, true_and, Int.not_lt, Int.not_le, gt_iff_lt, ge_iff_le] at *); (try simp only [resTy, argTy, eqD, inR, big, wantOf, Bool.not_true, Bool.not_false, Bool.true_eq, decide_eq_true_eq, decide_eq_false_iff_not, Bool.not_eq_true', Bool.not_eq_false', Bool.and_eq_true, Prod.mk.injEq, and_true, true_and, Int.not_lt, Int.not_le, gt_iff_lt, ge_iff_le, fWithin, hF, hc, hh] at *))
        all_goals try omega
        all_goals (rename inC c h => hK; have hK1 := hK.1; have hK2 := hK.2)
        · exact (show 3 ≤ 1000000 by omega)
        ·
          refine GHeld.mk ?_
          refine Exists.intro (0 : Nat) ?_
          refine And.intro (Leaf.mk ?_) ?_
          · repeat' first | exact True.intro | refine And.intro ?_ ?_
            all_goals try ((change _ = _ <;> try dsimp only) <;> try with_reducible rfl)
            all_goals try omega
            all_goals (rfl)
          exact ⟨Nat.zero_le _, fun j hj => absurd hj (Nat.not_lt_zero j)⟩
        · rename_i k hk hlt hv
          have hk1 := hk.1
          exact (show -9223372036854775808 ≤ (k : Int) + 1 ∧ (k : Int) + 1 ≤ 9223372036854775807 by omega)
        · rename_i k hk hlt hv
          refine GHeld.mk ?_
          refine Exists.intro (k + 1) ?_
          refine And.intro (Leaf.mk ?_) ?_
          · repeat' first | exact True.intro | refine And.intro ?_ ?_
            all_goals try ((change _ = _ <;> try dsimp only) <;> try with_reducible rfl)
            all_goals try omega
            all_goals (rfl)
          refine ⟨⟨(show k + 1 ≤ X.length by omega), fun j hj => ?_⟩, (show X.length - (k + 1) < X.length - k by omega)⟩
          rcases Nat.lt_or_ge j k with h3 | h3
          · exact hk.2 j h3
          · obtain rfl : j = k := by omega
            exact hv
        · refine ⟨-t0, -t1, rfl, by omega, by omega, ?_⟩
          first | exact (show (0 : Int) ≤ c by omega) | exact ⟨hK2, (show (0 : Int) ≤ c by omega), (show c ≤ 60 by omega)⟩ | trace_state
        · rename_i k hk hlt _
          replace hlt : (X.length : Int) ≤ (k : Int) := hlt
          exact (hT fun i hi => hk.2 i (by omega)).symm
      · have hE : echoErr [0, t0, t1] 1000 h c = 2 := by simp only [echoErr]; rw [if_neg he]; exact three_err he
        have hF : fEchoes [0, t0, t1] 1000 h c = ([], 2) := by simp only [fEchoes]; rw [if_neg (by omega), hE]
        repeat' (intro hzz; (try (rename Two => hq; cases hq)); (try dsimp only at hzz); (try simp only [resTy, argTy, eqD, inR, big, wantOf, Bool.not_true, Bool.not_false, Bool.true_eq, decide_eq_true_eq, decide_eq_false_iff_not, Bool.not_eq_true', Bool.not_eq_false', Bool.and_eq_true, Prod.mk.injEq, and_true, true_and, Int.not_lt, Int.not_le, gt_iff_lt, ge_iff_le] at hzz); (try simp only [resTy, argTy, eqD, inR, big, wantOf, Bool.not_true, Bool.not_false, Bool.true_eq, decide_eq_true_eq, decide_eq_false_iff_not, Bool.not_eq_true', Bool.not_eq_false', Bool.and_eq_true, Prod.mk.injEq, and_true, true_and, Int.not_lt, Int.not_le, gt_iff_lt, ge_iff_le, fWithin, hF, hc, hh] at hzz); (try (first | contradiction | (exfalso; omega))); (try (revert hzz; intro _)))
        all_goals try (rename Unit => hq; clear hq)
        all_goals try ((with_reducible refine Held.mk ?_); (with_reducible (first | refine Frz.mk ?_ | refine And.intro (Frz.mk ?_) ?_ | refine And.intro ?_ (Frz.mk ?_))); repeat' first | exact True.intro | (change _ = _; with_reducible rfl) | refine And.intro ?_ ?_ | (with_reducible refine Frz.mk ?_))
        all_goals try (refine Held.mk ?_; (try dsimp only at *); (try simp only [resTy, argTy, eqD, inR, big, wantOf, Bool.not_true, Bool.not_false, Bool.true_eq, decide_eq_true_eq, decide_eq_false_iff_not, Bool.not_eq_true', Bool.not_eq_false', Bool.and_eq_true, Prod.mk.injEq, and_true, true_and, Int.not_lt, Int.not_le, gt_iff_lt, ge_iff_le] at *); (try simp only [resTy, argTy, eqD, inR, big, wantOf, Bool.not_true, Bool.not_false, Bool.true_eq, decide_eq_true_eq, decide_eq_false_iff_not, Bool.not_eq_true', Bool.not_eq_false', Bool.and_eq_true, Prod.mk.injEq, and_true, true_and, Int.not_lt, Int.not_le, gt_iff_lt, ge_iff_le, fWithin, hF, hc, hh] at *))
        all_goals try omega
        · exact (show 3 ≤ 1000000 by omega)
        · rfl
    ·
      repeat' (intro hzz; (try (rename Two => hq; cases hq)); (try dsimp only at hzz); (try simp only [resTy, argTy, eqD, inR, big, wantOf, Bool.not_true, Bool.not_false, Bool.true_eq, decide_eq_true_eq, decide_eq_false_iff_not, Bool.not_eq_true', Bool.not_eq_false', Bool.and_eq_true, Prod.mk.injEq, and_true, true_and, Int.not_lt, Int.not_le, gt_iff_lt, ge_iff_le] at hzz); (try simp only [resTy, argTy, eqD, inR, big, wantOf, Bool.not_true, Bool.not_false, Bool.true_eq, decide_eq_true_eq, decide_eq_false_iff_not, Bool.not_eq_true', Bool.not_eq_false', Bool.and_eq_true, Prod.mk.injEq, and_true, true_and, Int.not_lt, Int.not_le, gt_iff_lt, ge_iff_le, fWithin, hc, hh] at hzz); (try (first | contradiction | (exfalso; omega))); (try (revert hzz; intro _)))
      all_goals try (rename Unit => hq; clear hq)
      all_goals try ((with_reducible refine Held.mk ?_); (with_reducible (first | refine Frz.mk ?_ | refine And.intro (Frz.mk ?_) ?_ | refine And.intro ?_ (Frz.mk ?_))); repeat' first | exact True.intro | (change _ = _; with_reducible rfl) | refine And.intro ?_ ?_ | (with_reducible refine Frz.mk ?_))
      all_goals try (refine Held.mk ?_; (try dsimp only at *); (try simp only [resTy, argTy, eqD, inR, big, wantOf, Bool.not_true, Bool.not_false, Bool.true_eq, decide_eq_true_eq, decide_eq_false_iff_not, Bool.not_eq_true', Bool.not_eq_false', Bool.and_eq_true, Prod.mk.injEq, and_true, true_and, Int.not_lt, Int.not_le, gt_iff_lt, ge_iff_le] at *); (try simp only [resTy, argTy, eqD, inR, big, wantOf, Bool.not_true, Bool.not_false, Bool.true_eq, decide_eq_true_eq, decide_eq_false_iff_not, Bool.not_eq_true', Bool.not_eq_false', Bool.and_eq_true, Prod.mk.injEq, and_true, true_and, Int.not_lt, Int.not_le, gt_iff_lt, ge_iff_le, fWithin, hc, hh] at *))
      all_goals try omega
      all_goals trace_state
  ·
    repeat' (intro hzz; (try (rename Two => hq; cases hq)); (try dsimp only at hzz); (try simp only [resTy, argTy, eqD, inR, big, wantOf, Bool.not_true, Bool.not_false, Bool.true_eq, decide_eq_true_eq, decide_eq_false_iff_not, Bool.not_eq_true', Bool.not_eq_false', Bool.and_eq_true, Prod.mk.injEq, and_true, true_and, Int.not_lt, Int.not_le, gt_iff_lt, ge_iff_le] at hzz); (try simp only [resTy, argTy, eqD, inR, big, wantOf, Bool.not_true, Bool.not_false, Bool.true_eq, decide_eq_true_eq, decide_eq_false_iff_not, Bool.not_eq_true', Bool.not_eq_false', Bool.and_eq_true, Prod.mk.injEq, and_true, true_and, Int.not_lt, Int.not_le, gt_iff_lt, ge_iff_le, fWithin, hc] at hzz); (try (first | contradiction | (exfalso; omega))); (try (revert hzz; intro _)))
    all_goals try (rename Unit => hq; clear hq)
    all_goals try ((with_reducible refine Held.mk ?_); (with_reducible (first | refine Frz.mk ?_ | refine And.intro (Frz.mk ?_) ?_ | refine And.intro ?_ (Frz.mk ?_))); repeat' first | exact True.intro | (change _ = _; with_reducible rfl) | refine And.intro ?_ ?_ | (with_reducible refine Frz.mk ?_))
    all_goals try (refine Held.mk ?_; (try dsimp only at *); (try simp only [resTy, argTy, eqD, inR, big, wantOf, Bool.not_true, Bool.not_false, Bool.true_eq, decide_eq_true_eq, decide_eq_false_iff_not, Bool.not_eq_true', Bool.not_eq_false', Bool.and_eq_true, Prod.mk.injEq, and_true, true_and, Int.not_lt, Int.not_le, gt_iff_lt, ge_iff_le] at *); (try simp only [resTy, argTy, eqD, inR, big, wantOf, Bool.not_true, Bool.not_false, Bool.true_eq, decide_eq_true_eq, decide_eq_false_iff_not, Bool.not_eq_true', Bool.not_eq_false', Bool.and_eq_true, Prod.mk.injEq, and_true, true_and, Int.not_lt, Int.not_le, gt_iff_lt, ge_iff_le, fWithin, hc] at *))
    all_goals try omega
    all_goals trace_state

end Go.Eng.Lp
