/- Plain laws of echoes: those of fewer samples begin them, and all but the first one lie within the bound; the law LoopEchoes returns true. Conditions: none. -/
import Derived.Test.YtimkbccpbjabiaaL24
namespace Go.Eng.Lp
open Go.Eng Go.Proofs
set_option linter.all false
set_option maxRecDepth 100000
set_option maxHeartbeats 8000000

theorem echoL_take (T : List Int) (g h : Int) (n : Nat) : ∀ d, (echoL T g h (n + d)).take n = echoL T g h n
  | 0 => by rw [Nat.add_zero]; exact List.take_of_length_le (by rw [echoL_len]; exact Nat.le_refl _)
  | d + 1 => by
    rw [← Nat.add_assoc]
    simp only [echoL]
    rw [List.take_append_of_le_length (by rw [echoL_len]; omega)]
    exact echoL_take T g h n d

theorem clampE_in {v b : Int} (h1 : -b ≤ v) (h2 : v ≤ b) : -b ≤ clampE v ∧ clampE v ≤ b := by
  simp only [clampE]; split <;> split <;> omega

theorem echoL_at (T : List Int) (g h : Int) (n i : Nat) : (echoL T g h (n + 1)).getD i 0 = if i < n then (echoL T g h n).getD i 0 else if i = n then echoV T g h n (echoL T g h n) else 0 := by
  simp only [echoL, List.getD_eq_getElem?_getD]
  split
  · rename_i hi
    rw [List.getElem?_append_left (by rw [echoL_len]; exact hi)]
  · rename_i hi
    rw [List.getElem?_append_right (by rw [echoL_len]; omega), echoL_len]
    split
    · rename_i h0; subst h0; simp
    · rw [List.getElem?_eq_none (by simp; omega)]; rfl

theorem sum_step {T : List Int} {g h M : Int} (hT : GoodLoop T g) (n k : Nat) (hk : k ≤ T.length) (hM : 0 ≤ M) (hb : ∀ i, -M ≤ (echoL T g h n).getD i 0 ∧ (echoL T g h n).getD i 0 ≤ M) :
    -(16384 * (sizeI T g * M)) ≤ sm (echoF T (echoL T g h n) n) k * g ∧ sm (echoF T (echoL T g h n) n) k * g ≤ 16384 * (sizeI T g * M) := by
  have h1 := sm_abs (f := echoF T (echoL T g h n) n) (g := fun i => ((T.getD i 0).natAbs : Int) * M) k (fun i _ => by
    simp only [echoF]
    split
    · exact mul_abs (hb _).1 (hb _).2
    · have : 0 ≤ ((T.getD i 0).natAbs : Int) * M := Int.mul_nonneg (by omega) hM
      omega)
  rw [sm_mul] at h1
  have h2 := sm_mono T.length k hk (f := fun i => ((T.getD i 0).natAbs : Int)) (fun i _ => by omega)
  have h3 := Int.mul_le_mul_of_nonneg_right h2 hM
  have hg := hT.gain0
  have h4 := Int.mul_le_mul_of_nonneg_right (show sm (echoF T (echoL T g h n) n) k ≤ sSz T T.length * M from Int.le_trans h1.2 h3) hg
  have h5 := Int.mul_le_mul_of_nonneg_right (show -(sSz T T.length * M) ≤ sm (echoF T (echoL T g h n) n) k from Int.le_trans (Int.neg_le_neg h3) h1.1) hg
  have h6 : sSz T T.length * g ≤ 16384 * sizeI T g := by simp only [sizeI, fCeil]; omega
  have h7 := Int.mul_le_mul_of_nonneg_right h6 hM
  rw [Int.neg_mul] at h5
  rw [Int.mul_right_comm] at h4 h5
  rw [Int.mul_assoc 16384] at h7
  omega

theorem echo_in {T : List Int} {g h : Int} (hT : GoodLoop T g) (hh : -32767 ≤ h ∧ h ≤ 32767) (hs : sizeI T g < 1000) : ∀ n i : Nat, 1 ≤ i → -(boundI T g h) ≤ (echoL T g h n).getD i 0 ∧ (echoL T g h n).getD i 0 ≤ boundI T g h
  | 0, i, _ => by
    have := (boundI_bd hT hh.1 hh.2 hs).1
    simp only [echoL, List.getD_eq_getElem?_getD, List.getElem?_nil, Option.getD_none]; omega
  | n + 1, i, hi => by
    have hb0 := (boundI_bd hT hh.1 hh.2 hs).1
    rw [echoL_at]
    split
    · exact echo_in hT hh hs n i hi
    · split
      · rename_i hn
        simp only [echoV]
        rw [if_neg (by omega)]
        have first : (echoL T g h n).getD 0 0 = h := by
          have hd : ∀ m, (echoL T g h (m + 1)).getD 0 0 = h := fun m => by
            induction m with
            | zero => rfl
            | succ m ih => rw [echoL_at, if_pos (by omega)]; exact ih
          obtain ⟨m, rfl⟩ : ∃ m, n = m + 1 := ⟨n - 1, by omega⟩
          exact hd m
        have all : ∀ M : Int, (h.natAbs : Int) ≤ M → boundI T g h ≤ M → ∀ j, -M ≤ (echoL T g h n).getD j 0 ∧ (echoL T g h n).getD j 0 ≤ M := by
          intro M h1 h2 j
          by_cases hj : j = 0
          · subst hj; rw [first]; omega
          · have := echo_in hT hh hs n j (by omega)
            omega
        by_cases hc : boundI T g h ≤ (h.natAbs : Int)
        · have hz := sum_step (h := h) hT n (min (n + 1) T.length) (by omega) (show (0 : Int) ≤ (h.natAbs : Int) by omega) (all _ (Int.le_refl _) hc)
          have := bound_step hT hs (.inl ⟨rfl, hc⟩) hz.1 hz.2
          exact clampE_in this.1 this.2
        · have hz := sum_step (h := h) hT n (min (n + 1) T.length) (by omega) hb0 (all _ (by omega) (Int.le_refl _))
          have := bound_step hT hs (.inr rfl) hz.1 hz.2
          exact clampE_in this.1 this.2
      · omega

@[reducible] def sLoopEchoes : Spec := { pats := [.dat LoopT, .dat I64, .dat I64], res := [{ t := .bool }], pre := fun _ => True, f := fun _ => (true, ()) }
def leAnn (T : List Int) (g h c : Int) : LoopAnn := { σ := Nat, pat := fun k => [sI 14 k], inv := fun k => 1 ≤ k ∧ k ≤ max 1 c.toNat, meas := fun k => max 1 c.toNat - k }

theorem ebBad {T : List Int} {g h : Int} (hc : ¬ fCheckLoop T g = 0) : fBound T g h = (0, fCheckLoop T g) := by
  have e : ebErr T g h = fCheckLoop T g := by simp only [ebErr]; rw [if_neg hc]
  simp only [fBound]; rw [e, if_neg hc]
theorem ecBad {T : List Int} {g h c : Int} (hc : ¬ fCheckLoop T g = 0) : fEchoes T g h c = ([], fCheckLoop T g) := by
  have e : echoErr T g h c = fCheckLoop T g := by simp only [echoErr]; rw [if_neg hc]
  simp only [fEchoes]; rw [e, if_neg hc]
theorem ebBad2 {T : List Int} {g h : Int} (hc : fCheckLoop T g = 0) (hh : ¬ (-32767 ≤ h ∧ h ≤ 32767)) : fBound T g h = (0, 2) := by
  have e : ebErr T g h = 2 := by simp [ebErr, hc, hh]
  simp only [fBound]; rw [e, if_neg (by decide)]
theorem ecBad2 {T : List Int} {g h c : Int} (hc : fCheckLoop T g = 0) (hh : ¬ ((-32767 ≤ h ∧ h ≤ 32767) ∧ 0 ≤ c ∧ c ≤ 200)) : fEchoes T g h c = ([], 2) := by
  have e : echoErr T g h c = 2 := by simp only [echoErr]; rw [if_pos hc, if_neg hh]
  simp only [fEchoes]; rw [e, if_neg (by decide)]
theorem ecOk {T : List Int} {g h c : Int} (hc : fCheckLoop T g = 0) (hh : (-32767 ≤ h ∧ h ≤ 32767) ∧ 0 ≤ c ∧ c ≤ 200) : fEchoes T g h c = (echoL T g h c.toNat, 0) := by
  have e : echoErr T g h c = 0 := by simp only [echoErr]; rw [if_pos hc, if_pos hh]
  simp only [fEchoes]; rw [if_pos e]
theorem ebOk {T : List Int} {g h : Int} (hc : fCheckLoop T g = 0) (hh : -32767 ≤ h ∧ h ≤ 32767) : fBound T g h = fBoundR T g h := by
  have e : ebErr T g h = 0 := by simp [ebErr, hc, hh]
  simp only [fBound, fBoundR]; rw [if_pos e]

/-- LoopEchoes -/
theorem h7 : Ok 7 sLoopEchoes := by
  refine mk (ctr := [(16, sAwake), (21, sFew), (23, sCopy), (33, sEchoes), (34, sBound), (25, sCheckLoop), (35, sHeightErr), (36, sBoundR), (17, sWithin), (37, sInts), (38, sEchoesR), (39, sFloor)]) ⟨h16, h21, h23, h33, h34, h25, h35, h36, h17, h37, h38, h39, trivial⟩ (nt := 134) Try.func7 rfl rfl rfl rfl (by kernel_rfl) (by kernel_rfl) (fun x => [fun _ => leAnn x.1.1 x.1.2.1 x.2.1 x.2.2.1]) ?_
  rintro ⟨⟨(T : List Int), (g : Int), _⟩, (h : Int), (c : Int), _⟩ _
  by_cases hfew : (T.length : Int) ≤ 34
  · by_cases hc : fCheckLoop T g = 0
    · have hT := loop_of hc
      by_cases hh : -32767 ≤ h ∧ h ≤ 32767
      · have hH : (if -32767 ≤ h ∧ h ≤ 32767 then (0 : Int) else 2) = 0 := if_pos hh
        have hB := ebOk hc hh
        have hGh := (⟨hT, hh⟩ : GoodLoop T g ∧ -32767 ≤ h ∧ h ≤ 32767)
        by_cases hn : 0 ≤ c ∧ c ≤ 200
        · have hE := ecOk hc ⟨hh, hn⟩
          have hF := ecOk (c := fFloor c 2) hc ⟨hh, by simp only [fFloor]; omega⟩
          have hGn := (⟨hT, hh, hn⟩ : GoodLoop T g ∧ (-32767 ≤ h ∧ h ≤ 32767) ∧ 0 ≤ c ∧ c ≤ 200)
          have hl : (echoL T g h c.toNat).length = c.toNat := echoL_len T g h _
          have hl2 : (echoL T g h (fFloor c 2).toNat).length = (c / 2).toNat := echoL_len T g h _
          have hcut : echoL T g h (fFloor c 2).toNat = List.take (fFloor c 2).toNat (echoL T g h c.toNat) := by
            have e : c.toNat = (fFloor c 2).toNat + (c.toNat - (fFloor c 2).toNat) := by simp only [fFloor]; omega
            rw [e]; exact (echoL_take T g h _ _).symm
          have hf0 : 0 ≤ fFloor c 2 ∧ fFloor c 2 ≤ c := by simp only [fFloor]; omega
          by_cases hs : 1000 ≤ sizeI T g
          · have hR : fBoundR T g h = (0, 12) := by simp only [fBoundR]; rw [if_pos hs]
            repeat' (intro hzz; (try (rename Two => hq; cases hq)); (try dsimp only at hzz); (try simp only [resTy, argTy, eqD, inR, big, wantOf, Bool.not_true, Bool.not_false, Bool.true_eq, decide_eq_true_eq, decide_eq_false_iff_not, Bool.not_eq_true', Bool.not_eq_false', Bool.and_eq_true, Prod.mk.injEq, and_true, true_and, Int.not_lt, Int.not_le, gt_iff_lt, ge_iff_le] at hzz); (try simp only [resTy, argTy, eqD, inR, big, wantOf, Bool.not_true, Bool.not_false, Bool.true_eq, decide_eq_true_eq, decide_eq_false_iff_not, Bool.not_eq_true', Bool.not_eq_false', Bool.and_eq_true, Prod.mk.injEq, and_true, true_and, Int.not_lt, Int.not_le, gt_iff_lt, ge_iff_le, fWithin, hc, hH, hB, hR, hE, hF] at hzz); (try (first | contradiction | (exfalso; omega))); (try (revert hzz; intro _)))
            all_goals try (rename Unit => hq; clear hq)
            all_goals try ((with_reducible refine Held.mk ?_); (with_reducible (first | refine Frz.mk ?_ | refine And.intro (Frz.mk ?_) ?_ | refine And.intro ?_ (Frz.mk ?_))); repeat' first | exact True.intro | (change _ = _; with_reducible rfl) | refine And.intro ?_ ?_ | (with_reducible refine Frz.mk ?_))
            all_goals try (refine Held.mk ?_; (try dsimp only at *); (try simp only [resTy, argTy, eqD, inR, big, wantOf, Bool.not_true, Bool.not_false, Bool.true_eq, decide_eq_true_eq, decide_eq_false_iff_not, Bool.not_eq_true', Bool.not_eq_false', Bool.and_eq_true, Prod.mk.injEq, and_true, true_and, Int.not_lt, Int.not_le, gt_iff_lt, ge_iff_le] at *); (try simp only [resTy, argTy, eqD, inR, big, wantOf, Bool.not_true, Bool.not_false, Bool.true_eq, decide_eq_true_eq, decide_eq_false_iff_not, Bool.not_eq_true', Bool.not_eq_false', Bool.and_eq_true, Prod.mk.injEq, and_true, true_and, Int.not_lt, Int.not_le, gt_iff_lt, ge_iff_le, fWithin, hc, hH, hB, hR, hE, hF] at *))
            all_goals try omega
            all_goals try first | exact hT | exact hGh | exact hGn | exact pLen2 (by omega) | exact hcut | (rw [echoL_len]; omega)
            ·
              refine GHeld.mk ?_
              refine Exists.intro (1 : Nat) ?_
              refine And.intro (Leaf.mk ?_) ?_
              · repeat' first | exact True.intro | refine And.intro ?_ ?_
                all_goals try ((change _ = _ <;> try dsimp only) <;> try with_reducible rfl)
                all_goals try omega
                all_goals (rfl)
              change 1 ≤ 1 ∧ 1 ≤ max 1 c.toNat
              omega
          · have hR : fBoundR T g h = (boundI T g h, 0) := by simp only [fBoundR]; rw [if_neg hs]
            have hs : sizeI T g < 1000 := by omega
            have hbd := boundI_bd hT hh.1 hh.2 hs
            have hin := echo_in hT hh hs c.toNat
            repeat' (intro hzz; (try (rename Two => hq; cases hq)); (try dsimp only at hzz); (try simp only [resTy, argTy, eqD, inR, big, wantOf, Bool.not_true, Bool.not_false, Bool.true_eq, decide_eq_true_eq, decide_eq_false_iff_not, Bool.not_eq_true', Bool.not_eq_false', Bool.and_eq_true, Prod.mk.injEq, and_true, true_and, Int.not_lt, Int.not_le, gt_iff_lt, ge_iff_le] at hzz); (try simp only [resTy, argTy, eqD, inR, big, wantOf, Bool.not_true, Bool.not_false, Bool.true_eq, decide_eq_true_eq, decide_eq_false_iff_not, Bool.not_eq_true', Bool.not_eq_false', Bool.and_eq_true, Prod.mk.injEq, and_true, true_and, Int.not_lt, Int.not_le, gt_iff_lt, ge_iff_le, fWithin, hc, hH, hB, hR, hE, hF] at hzz); (try (first | contradiction | (exfalso; omega))); (try (revert hzz; intro _)))
            all_goals try (rename Unit => hq; clear hq)
            all_goals try ((with_reducible refine Held.mk ?_); (with_reducible (first | refine Frz.mk ?_ | refine And.intro (Frz.mk ?_) ?_ | refine And.intro ?_ (Frz.mk ?_))); repeat' first | exact True.intro | (change _ = _; with_reducible rfl) | refine And.intro ?_ ?_ | (with_reducible refine Frz.mk ?_))
            all_goals try (refine Held.mk ?_; (try dsimp only at *); (try simp only [resTy, argTy, eqD, inR, big, wantOf, Bool.not_true, Bool.not_false, Bool.true_eq, decide_eq_true_eq, decide_eq_false_iff_not, Bool.not_eq_true', Bool.not_eq_false', Bool.and_eq_true, Prod.mk.injEq, and_true, true_and, Int.not_lt, Int.not_le, gt_iff_lt, ge_iff_le] at *); (try simp only [resTy, argTy, eqD, inR, big, wantOf, Bool.not_true, Bool.not_false, Bool.true_eq, decide_eq_true_eq, decide_eq_false_iff_not, Bool.not_eq_true', Bool.not_eq_false', Bool.and_eq_true, Prod.mk.injEq, and_true, true_and, Int.not_lt, Int.not_le, gt_iff_lt, ge_iff_le, fWithin, hc, hH, hB, hR, hE, hF] at *))
            all_goals try omega
            all_goals try first | exact hT | exact hGh | exact hGn | exact pLen2 (by omega) | exact hcut | (rw [echoL_len]; omega)
            ·
              refine GHeld.mk ?_
              refine Exists.intro (1 : Nat) ?_
              refine And.intro (Leaf.mk ?_) ?_
              · repeat' first | exact True.intro | refine And.intro ?_ ?_
                all_goals try ((change _ = _ <;> try dsimp only) <;> try with_reducible rfl)
                all_goals try omega
                all_goals (rfl)
              change 1 ≤ 1 ∧ 1 ≤ max 1 c.toNat
              omega
            · rename_i k h1 h2 h3 h4
              exact absurd (hin k h1.1) h4
            · rename_i k h1 h2 h3 h4
              refine GHeld.mk ?_
              refine Exists.intro (k + 1) ?_
              refine And.intro (Leaf.mk ?_) ?_
              · repeat' first | exact True.intro | refine And.intro ?_ ?_
                all_goals try ((change _ = _ <;> try dsimp only) <;> try with_reducible rfl)
                all_goals try omega
                all_goals (rfl)
              change (1 ≤ k + 1 ∧ k + 1 ≤ max 1 c.toNat) ∧ max 1 c.toNat - (k + 1) < max 1 c.toNat - k
              omega
        · have hE := ecBad2 (h := h) (c := c) hc (fun hx => hn hx.2)
          by_cases hs : 1000 ≤ sizeI T g
          · have hR : fBoundR T g h = (0, 12) := by simp only [fBoundR]; rw [if_pos hs]
            repeat' (intro hzz; (try (rename Two => hq; cases hq)); (try dsimp only at hzz); (try simp only [resTy, argTy, eqD, inR, big, wantOf, Bool.not_true, Bool.not_false, Bool.true_eq, decide_eq_true_eq, decide_eq_false_iff_not, Bool.not_eq_true', Bool.not_eq_false', Bool.and_eq_true, Prod.mk.injEq, and_true, true_and, Int.not_lt, Int.not_le, gt_iff_lt, ge_iff_le] at hzz); (try simp only [resTy, argTy, eqD, inR, big, wantOf, Bool.not_true, Bool.not_false, Bool.true_eq, decide_eq_true_eq, decide_eq_false_iff_not, Bool.not_eq_true', Bool.not_eq_false', Bool.and_eq_true, Prod.mk.injEq, and_true, true_and, Int.not_lt, Int.not_le, gt_iff_lt, ge_iff_le, fWithin, hc, hH, hB, hR, hE] at hzz); (try (first | contradiction | (exfalso; omega))); (try (revert hzz; intro _)))
            all_goals try (rename Unit => hq; clear hq)
            all_goals try ((with_reducible refine Held.mk ?_); (with_reducible (first | refine Frz.mk ?_ | refine And.intro (Frz.mk ?_) ?_ | refine And.intro ?_ (Frz.mk ?_))); repeat' first | exact True.intro | (change _ = _; with_reducible rfl) | refine And.intro ?_ ?_ | (with_reducible refine Frz.mk ?_))
            all_goals try (refine Held.mk ?_; (try dsimp only at *); (try simp only [resTy, argTy, eqD, inR, big, wantOf, Bool.not_true, Bool.not_false, Bool.true_eq, decide_eq_true_eq, decide_eq_false_iff_not, Bool.not_eq_true', Bool.not_eq_false', Bool.and_eq_true, Prod.mk.injEq, and_true, true_and, Int.not_lt, Int.not_le, gt_iff_lt, ge_iff_le] at *); (try simp only [resTy, argTy, eqD, inR, big, wantOf, Bool.not_true, Bool.not_false, Bool.true_eq, decide_eq_true_eq, decide_eq_false_iff_not, Bool.not_eq_true', Bool.not_eq_false', Bool.and_eq_true, Prod.mk.injEq, and_true, true_and, Int.not_lt, Int.not_le, gt_iff_lt, ge_iff_le, fWithin, hc, hH, hB, hR, hE] at *))
            all_goals try omega
            all_goals first | exact hT | exact hGh | rfl
          · have hR : fBoundR T g h = (boundI T g h, 0) := by simp only [fBoundR]; rw [if_neg hs]
            repeat' (intro hzz; (try (rename Two => hq; cases hq)); (try dsimp only at hzz); (try simp only [resTy, argTy, eqD, inR, big, wantOf, Bool.not_true, Bool.not_false, Bool.true_eq, decide_eq_true_eq, decide_eq_false_iff_not, Bool.not_eq_true', Bool.not_eq_false', Bool.and_eq_true, Prod.mk.injEq, and_true, true_and, Int.not_lt, Int.not_le, gt_iff_lt, ge_iff_le] at hzz); (try simp only [resTy, argTy, eqD, inR, big, wantOf, Bool.not_true, Bool.not_false, Bool.true_eq, decide_eq_true_eq, decide_eq_false_iff_not, Bool.not_eq_true', Bool.not_eq_false', Bool.and_eq_true, Prod.mk.injEq, and_true, true_and, Int.not_lt, Int.not_le, gt_iff_lt, ge_iff_le, fWithin, hc, hH, hB, hR, hE] at hzz); (try (first | contradiction | (exfalso; omega))); (try (revert hzz; intro _)))
            all_goals try (rename Unit => hq; clear hq)
            all_goals try ((with_reducible refine Held.mk ?_); (with_reducible (first | refine Frz.mk ?_ | refine And.intro (Frz.mk ?_) ?_ | refine And.intro ?_ (Frz.mk ?_))); repeat' first | exact True.intro | (change _ = _; with_reducible rfl) | refine And.intro ?_ ?_ | (with_reducible refine Frz.mk ?_))
            all_goals try (refine Held.mk ?_; (try dsimp only at *); (try simp only [resTy, argTy, eqD, inR, big, wantOf, Bool.not_true, Bool.not_false, Bool.true_eq, decide_eq_true_eq, decide_eq_false_iff_not, Bool.not_eq_true', Bool.not_eq_false', Bool.and_eq_true, Prod.mk.injEq, and_true, true_and, Int.not_lt, Int.not_le, gt_iff_lt, ge_iff_le] at *); (try simp only [resTy, argTy, eqD, inR, big, wantOf, Bool.not_true, Bool.not_false, Bool.true_eq, decide_eq_true_eq, decide_eq_false_iff_not, Bool.not_eq_true', Bool.not_eq_false', Bool.and_eq_true, Prod.mk.injEq, and_true, true_and, Int.not_lt, Int.not_le, gt_iff_lt, ge_iff_le, fWithin, hc, hH, hB, hR, hE] at *))
            all_goals try omega
            all_goals first | exact hT | exact hGh | rfl
      · have hH : (if -32767 ≤ h ∧ h ≤ 32767 then (0 : Int) else 2) = 2 := if_neg hh
        have hB := ebBad2 hc hh
        have hE := ecBad2 (c := c) hc (fun hx => hh hx.1)
        repeat' (intro hzz; (try (rename Two => hq; cases hq)); (try dsimp only at hzz); (try simp only [resTy, argTy, eqD, inR, big, wantOf, Bool.not_true, Bool.not_false, Bool.true_eq, decide_eq_true_eq, decide_eq_false_iff_not, Bool.not_eq_true', Bool.not_eq_false', Bool.and_eq_true, Prod.mk.injEq, and_true, true_and, Int.not_lt, Int.not_le, gt_iff_lt, ge_iff_le] at hzz); (try simp only [resTy, argTy, eqD, inR, big, wantOf, Bool.not_true, Bool.not_false, Bool.true_eq, decide_eq_true_eq, decide_eq_false_iff_not, Bool.not_eq_true', Bool.not_eq_false', Bool.and_eq_true, Prod.mk.injEq, and_true, true_and, Int.not_lt, Int.not_le, gt_iff_lt, ge_iff_le, fWithin, hc, hH, hB, hE] at hzz); (try (first | contradiction | (exfalso; omega))); (try (revert hzz; intro _)))
        all_goals try (rename Unit => hq; clear hq)
        all_goals try ((with_reducible refine Held.mk ?_); (with_reducible (first | refine Frz.mk ?_ | refine And.intro (Frz.mk ?_) ?_ | refine And.intro ?_ (Frz.mk ?_))); repeat' first | exact True.intro | (change _ = _; with_reducible rfl) | refine And.intro ?_ ?_ | (with_reducible refine Frz.mk ?_))
        all_goals try (refine Held.mk ?_; (try dsimp only at *); (try simp only [resTy, argTy, eqD, inR, big, wantOf, Bool.not_true, Bool.not_false, Bool.true_eq, decide_eq_true_eq, decide_eq_false_iff_not, Bool.not_eq_true', Bool.not_eq_false', Bool.and_eq_true, Prod.mk.injEq, and_true, true_and, Int.not_lt, Int.not_le, gt_iff_lt, ge_iff_le] at *); (try simp only [resTy, argTy, eqD, inR, big, wantOf, Bool.not_true, Bool.not_false, Bool.true_eq, decide_eq_true_eq, decide_eq_false_iff_not, Bool.not_eq_true', Bool.not_eq_false', Bool.and_eq_true, Prod.mk.injEq, and_true, true_and, Int.not_lt, Int.not_le, gt_iff_lt, ge_iff_le, fWithin, hc, hH, hB, hE] at *))
        all_goals try omega
        all_goals first | exact hT | rfl
    · have hB := ebBad (h := h) hc
      have hE := ecBad (h := h) (c := c) hc
      repeat' (intro hzz; (try (rename Two => hq; cases hq)); (try dsimp only at hzz); (try simp only [resTy, argTy, eqD, inR, big, wantOf, Bool.not_true, Bool.not_false, Bool.true_eq, decide_eq_true_eq, decide_eq_false_iff_not, Bool.not_eq_true', Bool.not_eq_false', Bool.and_eq_true, Prod.mk.injEq, and_true, true_and, Int.not_lt, Int.not_le, gt_iff_lt, ge_iff_le] at hzz); (try simp only [resTy, argTy, eqD, inR, big, wantOf, Bool.not_true, Bool.not_false, Bool.true_eq, decide_eq_true_eq, decide_eq_false_iff_not, Bool.not_eq_true', Bool.not_eq_false', Bool.and_eq_true, Prod.mk.injEq, and_true, true_and, Int.not_lt, Int.not_le, gt_iff_lt, ge_iff_le, fWithin, hc, hB, hE] at hzz); (try (first | contradiction | (exfalso; omega))); (try (revert hzz; intro _)))
      all_goals try (rename Unit => hq; clear hq)
      all_goals try ((with_reducible refine Held.mk ?_); (with_reducible (first | refine Frz.mk ?_ | refine And.intro (Frz.mk ?_) ?_ | refine And.intro ?_ (Frz.mk ?_))); repeat' first | exact True.intro | (change _ = _; with_reducible rfl) | refine And.intro ?_ ?_ | (with_reducible refine Frz.mk ?_))
      all_goals try (refine Held.mk ?_; (try dsimp only at *); (try simp only [resTy, argTy, eqD, inR, big, wantOf, Bool.not_true, Bool.not_false, Bool.true_eq, decide_eq_true_eq, decide_eq_false_iff_not, Bool.not_eq_true', Bool.not_eq_false', Bool.and_eq_true, Prod.mk.injEq, and_true, true_and, Int.not_lt, Int.not_le, gt_iff_lt, ge_iff_le] at *); (try simp only [resTy, argTy, eqD, inR, big, wantOf, Bool.not_true, Bool.not_false, Bool.true_eq, decide_eq_true_eq, decide_eq_false_iff_not, Bool.not_eq_true', Bool.not_eq_false', Bool.and_eq_true, Prod.mk.injEq, and_true, true_and, Int.not_lt, Int.not_le, gt_iff_lt, ge_iff_le, fWithin, hc, hB, hE] at *))
      all_goals try omega
      all_goals first | rfl
  ·
    repeat' (intro hzz; (try (rename Two => hq; cases hq)); (try dsimp only at hzz); (try simp only [resTy, argTy, eqD, inR, big, wantOf, Bool.not_true, Bool.not_false, Bool.true_eq, decide_eq_true_eq, decide_eq_false_iff_not, Bool.not_eq_true', Bool.not_eq_false', Bool.and_eq_true, Prod.mk.injEq, and_true, true_and, Int.not_lt, Int.not_le, gt_iff_lt, ge_iff_le] at hzz); (try (first | contradiction | (exfalso; omega))); (try (revert hzz; intro _)))
    all_goals try (rename Unit => hq; clear hq)
    all_goals try ((with_reducible refine Held.mk ?_); (with_reducible (first | refine Frz.mk ?_ | refine And.intro (Frz.mk ?_) ?_ | refine And.intro ?_ (Frz.mk ?_))); repeat' first | exact True.intro | (change _ = _; with_reducible rfl) | refine And.intro ?_ ?_ | (with_reducible refine Frz.mk ?_))
    all_goals try (refine Held.mk ?_; (try dsimp only at *); (try simp only [resTy, argTy, eqD, inR, big, wantOf, Bool.not_true, Bool.not_false, Bool.true_eq, decide_eq_true_eq, decide_eq_false_iff_not, Bool.not_eq_true', Bool.not_eq_false', Bool.and_eq_true, Prod.mk.injEq, and_true, true_and, Int.not_lt, Int.not_le, gt_iff_lt, ge_iff_le] at *))
    all_goals try omega

end Go.Eng.Lp
