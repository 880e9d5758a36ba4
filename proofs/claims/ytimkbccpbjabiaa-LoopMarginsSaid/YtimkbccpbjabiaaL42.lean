/- The law LoopMargins returns true. Conditions: none. -/
import Derived.Test.YtimkbccpbjabiaaL41
namespace Go.Eng.Lp
open Go.Eng Go.Proofs
set_option linter.all false
set_option maxRecDepth 100000
set_option maxHeartbeats 8000000

/-- The loops, scaled. -/
def scl (n : Int) (x : LD) : LD := (x.1, scGain x.2.1 n, ())

theorem mar_steps (l : List LD) : ∃ k : Nat, k ≤ 40 ∧ marI l = 100 * k ∧ (k = 0 ∨ safeB l (100 * k) = true) := by
  have key : ∀ (f : Nat) (k : Nat), k + f = 40 → (k = 0 ∨ safeB l (100 * k) = true) → ∃ k', k' ≤ 40 ∧ marK (safeB l) f (100 * k) = 100 * (k' : Nat) ∧ (k' = 0 ∨ safeB l (100 * k') = true) := by
    intro f
    induction f with
    | zero => intro k hk h; exact ⟨k, by omega, rfl, h⟩
    | succ f ih =>
      intro k hk h
      simp only [marK]
      split
      · rename_i hs
        have e : (100 * (k : Int) + 100) = 100 * ((k + 1 : Nat) : Int) := by omega
        rw [e] at hs ⊢
        exact ih (k + 1) (by omega) (.inr hs.2)
      · exact ⟨k, by omega, rfl, h⟩
  exact key 40 0 rfl (.inl rfl)

theorem gain0 (g : Int) : scGain g 0 = 0 := by simp [scGain, fCeil]

theorem zero_yes {T : List Int} {g : Int} (h : GoodLoop T g) : yesB T 0 = true := by
  have h0 : GoodLoop T 0 := ⟨h.pos, h.le, h.zero, h.val, by omega, by omega⟩
  have ho := small_yes h0 (by simp [sizeI, fCeil])
  unfold yesB; exact decide_eq_true (by simp only [decK]; rw [if_pos ho])

/-- All loops, scaled by the margin, are right and proved. -/
theorem mar_all {l : List LD} (hl : goodAll l) : (0 ≤ marI l ∧ marI l ≤ 4000) ∧ ∀ i, i < l.length → scGain (l.getD i ([], 0, ())).2.1 (marI l) ≤ 10000 ∧ yesB (l.getD i ([], 0, ())).1 (scGain (l.getD i ([], 0, ())).2.1 (marI l)) = true := by
  obtain ⟨k, h1, h2, h3⟩ := mar_steps l
  rw [h2]
  refine ⟨by omega, fun i hi => ?_⟩
  rcases h3 with rfl | h3
  · have e : (100 * ((0 : Nat) : Int)) = 0 := rfl
    rw [e, gain0]
    exact ⟨by omega, zero_yes (hl.2 i hi)⟩
  · have := of_decide_eq_true h3 i hi
    simpa only [nxB, Bool.and_eq_true, decide_eq_true_eq] using this

theorem gain_loop {T : List Int} {g g' : Int} (hc : fCheckLoop T g = 0) (h0 : 0 ≤ g') (h1 : g' ≤ 10000) : fCheckLoop T g' = 0 := by
  unfold fCheckLoop at hc ⊢
  split at hc
  · omega
  · split at hc
    · omega
    · split at hc
      · omega
      · split at hc
        · omega
        · rename_i a b c d
          rw [if_neg a, if_neg b, if_neg c, if_neg (by
            intro h; exact d (h.imp id (fun h => by omega)))]

theorem mapL_get {f : LD → LD} {l : List LD} {i : Nat} (hi : i < l.length) : (l.map f).getD i ([], 0, ()) = f (l.getD i ([], 0, ())) := by
  rw [List.getD_eq_getElem?_getD, List.getD_eq_getElem?_getD, List.getElem?_map, List.getElem?_eq_getElem hi]; rfl

theorem scaled_open {l : List LD} (he : lpErr l = 0) : foErr (l.map (scl (marI l))) = 12 := by
  obtain ⟨hpos, hg⟩ := lp_good he
  obtain ⟨hm, hall⟩ := mar_all hg
  have hz : ∀ j, j < l.length → fCheckLoop (l.getD j ([], 0, ())).1 (l.getD j ([], 0, ())).2.1 = 0 := by
    have h := he
    simp only [lpErr] at h
    rw [if_neg (by omega), if_neg (by have := hg.1; omega)] at h
    exact (lpErrK_zero _).1 h
  have h1 : lpErr (l.map (scl (marI l))) = 0 := by
    simp only [lpErr, List.length_map]
    rw [if_neg (by omega), if_neg (by have := hg.1; omega)]
    refine (lpErrK_zero _).2 fun j hj => ?_
    rw [mapL_get hj]
    have hgj := hg.2 j hj
    have h0 := Int.mul_nonneg hgj.gain0 hm.1
    exact gain_loop (hz j hj) (show 0 ≤ scGain (l.getD j ([], 0, ())).2.1 (marI l) by simp only [scGain, fCeil]; omega) (hall j hj).1
  have h2 : findNo (fun x => yesB x.1 x.2.1) (l.map (scl (marI l))) 0 = -1 := findNo_none _ 0 fun j hj => by
    have hj : j < l.length := by simpa using hj
    rw [mapL_get hj]
    exact (hall j hj).2
  simp only [foErr]
  rw [if_pos h1]
  simp only [frE]
  rw [h2]; rfl

theorem take_map {l : List LD} {f : LD → LD} {k : Nat} (hk : k < l.length) : (l.map f).take (k + 1) = (l.map f).take k ++ [f (l.getD k ([], 0, ()))] := by
  rw [List.take_succ_eq_append_getElem (by simpa using hk), List.getElem_map]
  rw [List.getD_eq_getElem?_getD, List.getElem?_eq_getElem hk]; rfl

def lmAll (l : List LD) : LoopAnn := { σ := Nat, pat := fun k => sI 11 k :: sOwnG LoopT 10 60010 33 ((l.map (scl (marI l))).take k), inv := fun k => k ≤ l.length, meas := fun k => l.length - k }

@[reducible] def sLoopMargins : Spec := { pats := [.dat (.sl LoopT)], res := [{ t := .bool }], pre := fun _ => True, f := fun _ => (true, ()) }

/-- LoopMargins -/
theorem h15 : Ok 15 sLoopMargins := by
  refine mk (ctr := [(16, sAwake), (70, sLoops), (51, sCopyAll), (71, sMargin), (72, sFirstO), (73, sLpErr), (74, sFirstR), (75, sMarR), (23, sCopy), (56, sScaled)]) ⟨h16, h70, h51, h71, h72, h73, h74, h75, h23, h56, trivial⟩ (nt := 105) Try.func15 rfl rfl rfl rfl (by kernel_rfl) (by kernel_rfl) (fun x => [fun _ => lmAll x.1]) ?_
  rintro ⟨(l : List LD), _⟩ _
  have hcp : ((l.length ≤ 3 ∨ (17 ≤ l.length ∧ l.length ≤ 18)) ∧ ∀ i, i < l.length → (l.getD i ([], 0, ())).1.length ≤ 12) → l.length ≤ 1000000 ∧ ∀ i, i < l.length → pCopy (l.getD i ([], 0, ())).1.length := fun h => ⟨by omega, fun i hi => by have := h.2 i hi; show _ ≤ 1000000; omega⟩
  by_cases hls : ((l.length ≤ 3 ∨ (17 ≤ l.length ∧ l.length ≤ 18)) ∧ ∀ i, i < l.length → (l.getD i ([], 0, ())).1.length ≤ 12)
  · by_cases he : lpErr l = 0
    · obtain ⟨hpos, hg⟩ := lp_good he
      have hcp := hcp hls
      have hv : maVal l = marI l := by simp only [maVal]; rw [if_pos he]
      have hE : maErr l = 0 := he
      have hf : foVal l = (frE l).1 := by simp only [foVal]; rw [if_pos he]
      have hfe : foErr l = (frE l).2 := by simp only [foErr]; rw [if_pos he]
      have hall := mar_all hg
      have hfin := scaled_open he
      have hS : ∀ k, k < l.length → fScaled (l.getD k ([], 0, ())).1 (l.getD k ([], 0, ())).2.1 (marI l) = (((l.getD k ([], 0, ())).1, scGain (l.getD k ([], 0, ())).2.1 (marI l)), 0) := fun k hk => by
        have hz : fCheckLoop (l.getD k ([], 0, ())).1 (l.getD k ([], 0, ())).2.1 = 0 := by
          have h := he
          simp only [lpErr] at h
          rw [if_neg (by omega), if_neg (by have := hg.1; omega)] at h
          exact (lpErrK_zero _).1 h k hk
        have e : scErrR (l.getD k ([], 0, ())).2.1 (marI l) = 0 := by simp only [scErrR]; rw [if_pos hall.1, if_pos (hall.2 k hk).1]
        rw [scOk hz]; simp only [fScaledR]; rw [if_pos e]
      have hcp2 := hcp
      have hS2 := hS
      have hfin2 := hfin
      clear hall hS hfin
      have hg2 : goodAll l ∧ True := ⟨hg, trivial⟩
      clear hg
      obtain ⟨A, hA⟩ : ∃ A : Prop, A = (∀ k, k < l.length → fScaled (l.getD k ([], 0, ())).1 (l.getD k ([], 0, ())).2.1 (marI l) = (((l.getD k ([], 0, ())).1, scGain (l.getD k ([], 0, ())).2.1 (marI l)), 0)) := ⟨_, rfl⟩
      rw [← hA] at hS2
      repeat' (intro hzz; (try (rename Two => hq; cases hq)); (try dsimp only at hzz); (try simp only [resTy, argTy, eqD, inR, big, wantOf, Bool.not_true, Bool.not_false, Bool.true_eq, decide_eq_true_eq, decide_eq_false_iff_not, Bool.not_eq_true', Bool.not_eq_false', Bool.and_eq_true, Prod.mk.injEq, and_true, true_and, Int.not_lt, Int.not_le, gt_iff_lt, ge_iff_le] at hzz); (try simp only [resTy, argTy, eqD, inR, big, wantOf, Bool.not_true, Bool.not_false, Bool.true_eq, decide_eq_true_eq, decide_eq_false_iff_not, Bool.not_eq_true', Bool.not_eq_false', Bool.and_eq_true, Prod.mk.injEq, and_true, true_and, Int.not_lt, Int.not_le, gt_iff_lt, ge_iff_le, hls, he, hv, hE, hf, hfe, getD_p] at hzz); (try (first | contradiction | (exfalso; omega))); (try (revert hzz; intro _)))
      all_goals try (rename Unit => hq; clear hq)
      all_goals try ((with_reducible refine Held.mk ?_); (with_reducible (first | refine Frz.mk ?_ | refine And.intro (Frz.mk ?_) ?_ | refine And.intro ?_ (Frz.mk ?_))); repeat' first | exact True.intro | (change _ = _; with_reducible rfl) | refine And.intro ?_ ?_ | (with_reducible refine Frz.mk ?_))
      all_goals try (refine Held.mk ?_; (try dsimp only at *); (try simp only [resTy, argTy, eqD, inR, big, wantOf, Bool.not_true, Bool.not_false, Bool.true_eq, decide_eq_true_eq, decide_eq_false_iff_not, Bool.not_eq_true', Bool.not_eq_false', Bool.and_eq_true, Prod.mk.injEq, and_true, true_and, Int.not_lt, Int.not_le, gt_iff_lt, ge_iff_le] at *); (try simp only [resTy, argTy, eqD, inR, big, wantOf, Bool.not_true, Bool.not_false, Bool.true_eq, decide_eq_true_eq, decide_eq_false_iff_not, Bool.not_eq_true', Bool.not_eq_false', Bool.and_eq_true, Prod.mk.injEq, and_true, true_and, Int.not_lt, Int.not_le, gt_iff_lt, ge_iff_le, hls, he, hv, hE, hf, hfe, getD_p] at *))
      all_goals try omega
      all_goals try exact hcp2
      all_goals try exact hg2.1
      ·
        refine GHeld.mk ?_
        refine Exists.intro (0 : Nat) ?_
        refine And.intro (Leaf.mk ?_) ?_
        · repeat' first | exact True.intro | refine And.intro ?_ ?_
          all_goals try ((change _ = _ <;> try dsimp only) <;> try with_reducible rfl)
          all_goals try omega
          all_goals (rfl)
        exact Nat.zero_le _
      · rename Nat => k
        rename (k : Int) < _ => h3
        exact hcp2.2 k (by omega)
      · rename Nat => k
        rename (k : Int) < _ => h3
        rename ¬ ((fScaled _ _ _).2 = 0) => h4
        have e2 := (hA ▸ hS2) k (by omega)
        exact absurd (show (fScaled (l.getD k ([], 0, ())).1 (l.getD k ([], 0, ())).2.1 (marI l)).2 = 0 by rw [e2]) h4
      · have := hcp2.1
        simp only [List.length_take, List.length_cons, List.length_nil, List.length_map]; omega
      · rename Nat => k
        rename (k : Int) < _ => h3
        have e := take_map (f := scl (marI l)) (show k < l.length by omega)
        have e2 := (hA ▸ hS2) k (by omega)
        have e3 : (((fScaled (l.getD k ([], 0, ())).1 (l.getD k ([], 0, ())).2.1 (marI l)).1.1, (fScaled (l.getD k ([], 0, ())).1 (l.getD k ([], 0, ())).2.1 (marI l)).1.2, ()) : LD) = scl (marI l) (l.getD k ([], 0, ())) := by rw [e2]; rfl
        refine GHeld.mk ?_
        refine Exists.intro (k + 1) ?_
        refine And.intro (Leaf.mk ?_) ?_
        · repeat' first | exact True.intro | refine And.intro ?_ ?_
          all_goals try ((change _ = _ <;> try dsimp only) <;> try with_reducible rfl)
          all_goals try omega
          all_goals (first | (rw [e, hv]; exact congrArg (fun z => List.take k (List.map (scl (marI l)) l) ++ [z]) e3) | (rw [e, List.length_append]; rfl) | (rw [e, List.length_append]; simp))
        exact ⟨(show k + 1 ≤ l.length by omega), (show l.length - (k + 1) < l.length - k by omega)⟩
      · rename Nat => k
        rename _ ≤ (k : Int) => h3
        rw [List.take_of_length_le (by simp only [List.length_map]; omega)]
        exact hfin2
    · have hcp := hcp hls
      have hv : maVal l = 0 := by simp only [maVal]; rw [if_neg he]
      have hE : maErr l = lpErr l := rfl
      have hf : foVal l = 0 := by simp only [foVal]; rw [if_neg he]
      have hfe : foErr l = lpErr l := by simp only [foErr]; rw [if_neg he]
      repeat' (intro hzz; (try (rename Two => hq; cases hq)); (try dsimp only at hzz); (try simp only [resTy, argTy, eqD, inR, big, wantOf, Bool.not_true, Bool.not_false, Bool.true_eq, decide_eq_true_eq, decide_eq_false_iff_not, Bool.not_eq_true', Bool.not_eq_false', Bool.and_eq_true, Prod.mk.injEq, and_true, true_and, Int.not_lt, Int.not_le, gt_iff_lt, ge_iff_le] at hzz); (try simp only [resTy, argTy, eqD, inR, big, wantOf, Bool.not_true, Bool.not_false, Bool.true_eq, decide_eq_true_eq, decide_eq_false_iff_not, Bool.not_eq_true', Bool.not_eq_false', Bool.and_eq_true, Prod.mk.injEq, and_true, true_and, Int.not_lt, Int.not_le, gt_iff_lt, ge_iff_le, hls, hv, hE, hf, hfe] at hzz); (try (first | contradiction | (exfalso; omega))); (try (revert hzz; intro _)))
      all_goals try (rename Unit => hq; clear hq)
      all_goals try ((with_reducible refine Held.mk ?_); (with_reducible (first | refine Frz.mk ?_ | refine And.intro (Frz.mk ?_) ?_ | refine And.intro ?_ (Frz.mk ?_))); repeat' first | exact True.intro | (change _ = _; with_reducible rfl) | refine And.intro ?_ ?_ | (with_reducible refine Frz.mk ?_))
      all_goals try (refine Held.mk ?_; (try dsimp only at *); (try simp only [resTy, argTy, eqD, inR, big, wantOf, Bool.not_true, Bool.not_false, Bool.true_eq, decide_eq_true_eq, decide_eq_false_iff_not, Bool.not_eq_true', Bool.not_eq_false', Bool.and_eq_true, Prod.mk.injEq, and_true, true_and, Int.not_lt, Int.not_le, gt_iff_lt, ge_iff_le] at *); (try simp only [resTy, argTy, eqD, inR, big, wantOf, Bool.not_true, Bool.not_false, Bool.true_eq, decide_eq_true_eq, decide_eq_false_iff_not, Bool.not_eq_true', Bool.not_eq_false', Bool.and_eq_true, Prod.mk.injEq, and_true, true_and, Int.not_lt, Int.not_le, gt_iff_lt, ge_iff_le, hls, hv, hE, hf, hfe] at *))
      all_goals try omega
      all_goals try exact hcp
  ·
    repeat' (intro hzz; (try (rename Two => hq; cases hq)); (try dsimp only at hzz); (try simp only [resTy, argTy, eqD, inR, big, wantOf, Bool.not_true, Bool.not_false, Bool.true_eq, decide_eq_true_eq, decide_eq_false_iff_not, Bool.not_eq_true', Bool.not_eq_false', Bool.and_eq_true, Prod.mk.injEq, and_true, true_and, Int.not_lt, Int.not_le, gt_iff_lt, ge_iff_le] at hzz); (try simp only [resTy, argTy, eqD, inR, big, wantOf, Bool.not_true, Bool.not_false, Bool.true_eq, decide_eq_true_eq, decide_eq_false_iff_not, Bool.not_eq_true', Bool.not_eq_false', Bool.and_eq_true, Prod.mk.injEq, and_true, true_and, Int.not_lt, Int.not_le, gt_iff_lt, ge_iff_le, hls] at hzz); (try (first | contradiction | (exfalso; omega))); (try (revert hzz; intro _)))
    all_goals try (rename Unit => hq; clear hq)
    all_goals try ((with_reducible refine Held.mk ?_); (with_reducible (first | refine Frz.mk ?_ | refine And.intro (Frz.mk ?_) ?_ | refine And.intro ?_ (Frz.mk ?_))); repeat' first | exact True.intro | (change _ = _; with_reducible rfl) | refine And.intro ?_ ?_ | (with_reducible refine Frz.mk ?_))
    all_goals try (refine Held.mk ?_; (try dsimp only at *); (try simp only [resTy, argTy, eqD, inR, big, wantOf, Bool.not_true, Bool.not_false, Bool.true_eq, decide_eq_true_eq, decide_eq_false_iff_not, Bool.not_eq_true', Bool.not_eq_false', Bool.and_eq_true, Prod.mk.injEq, and_true, true_and, Int.not_lt, Int.not_le, gt_iff_lt, ge_iff_le] at *); (try simp only [resTy, argTy, eqD, inR, big, wantOf, Bool.not_true, Bool.not_false, Bool.true_eq, decide_eq_true_eq, decide_eq_false_iff_not, Bool.not_eq_true', Bool.not_eq_false', Bool.and_eq_true, Prod.mk.injEq, and_true, true_and, Int.not_lt, Int.not_le, gt_iff_lt, ge_iff_le, hls] at *))
    all_goals try omega
    all_goals skip

end Go.Eng.Lp
