/- Weights that are accepted are of lines that fade; the law LoopMinors returns true. Conditions: none. -/
import Derived.Test.YtimkbccpbjabiaaL32
import Derived.Test.YtimkbccpbjabiaaP6
namespace Go.Eng.Lp
open Go.Eng Go.Proofs
set_option linter.all false
set_option maxRecDepth 100000
set_option maxHeartbeats 8000000

def entry (m : List (List Int)) : Mat := fun i j => (m.getD i []).getD j 0
def dtN : Nat → Mat → Int
  | 0, _ => 1
  | 1, M => d1 M
  | 2, M => d2 M
  | 3, M => d3 M
  | _, M => d4 M

theorem list1 {α : Type} {l : List α} (h : l.length = 1) : ∃ a, l = [a] := by
  match l, h with
  | [a], _ => exact ⟨a, rfl⟩
theorem list2 {α : Type} {l : List α} (h : l.length = 2) : ∃ a b, l = [a, b] := by
  match l, h with
  | [a, b], _ => exact ⟨a, b, rfl⟩
theorem list3 {α : Type} {l : List α} (h : l.length = 3) : ∃ a b c, l = [a, b, c] := by
  match l, h with
  | [a, b, c], _ => exact ⟨a, b, c, rfl⟩
theorem list4 {α : Type} {l : List α} (h : l.length = 4) : ∃ a b c d, l = [a, b, c, d] := by
  match l, h with
  | [a, b, c, d], _ => exact ⟨a, b, c, d, rfl⟩

theorem det1 (a : Int) : detN 1 [[a]] = d1 (entry [[a]]) := by simp [detN, sumD, d1, entry]
theorem det2 (a b c d : Int) : detN 2 [[a, b], [c, d]] = d2 (entry [[a, b], [c, d]]) := by
  simp [detN, sumD, dropRow, dropCol, d2, entry]; grind
theorem det3 (a b c d e f g h i : Int) : detN 3 [[a, b, c], [d, e, f], [g, h, i]] = d3 (entry [[a, b, c], [d, e, f], [g, h, i]]) := by
  simp [detN, sumD, dropRow, dropCol, d3, entry]; grind
theorem det4 (a b c d e f g h i j k l m n o p : Int) : detN 4 [[a, b, c, d], [e, f, g, h], [i, j, k, l], [m, n, o, p]] = d4 (entry [[a, b, c, d], [e, f, g, h], [i, j, k, l], [m, n, o, p]]) := by
  simp [detN, sumD, dropRow, dropCol, d4, m3, entry]; grind

theorem detN_dn {n : Nat} (hn : n ≤ 4) {c : List (List Int)} (h : sqMat n c) : detN n c = dtN n (entry c) := by
  have hr : ∀ r, r ∈ c → r.length = n := fun r hr => (h.2 r hr).1
  have hl := h.1
  clear h
  match n, hn with
  | 0, _ => rfl
  | 1, _ =>
    obtain ⟨r0, rfl⟩ := list1 hl
    obtain ⟨a, rfl⟩ := list1 (hr r0 (by simp))
    exact det1 a
  | 2, _ =>
    obtain ⟨r0, r1, rfl⟩ := list2 hl
    obtain ⟨a, b, rfl⟩ := list2 (hr r0 (by simp))
    obtain ⟨c, d, rfl⟩ := list2 (hr r1 (by simp))
    exact det2 a b c d
  | 3, _ =>
    obtain ⟨r0, r1, r2, rfl⟩ := list3 hl
    obtain ⟨a, b, c, rfl⟩ := list3 (hr r0 (by simp))
    obtain ⟨d, e, f, rfl⟩ := list3 (hr r1 (by simp))
    obtain ⟨g, h, i, rfl⟩ := list3 (hr r2 (by simp))
    exact det3 a b c d e f g h i
  | 4, _ =>
    obtain ⟨r0, r1, r2, r3, rfl⟩ := list4 hl
    obtain ⟨a, b, c, d, rfl⟩ := list4 (hr r0 (by simp))
    obtain ⟨e, f, g, h, rfl⟩ := list4 (hr r1 (by simp))
    obtain ⟨i, j, k, l, rfl⟩ := list4 (hr r2 (by simp))
    obtain ⟨m, n, o, p, rfl⟩ := list4 (hr r3 (by simp))
    exact det4 a b c d e f g h i j k l m n o p

theorem corner_entry (m : List (List Int)) {n i j : Nat} (hi : i ≤ n) (hj : j ≤ n) : entry (corner m n) i j = entry m i j := by
  simp only [entry, corner]
  rw [tab_get _ [] (n + 1) i (by omega), take_getD 0 (by omega)]

theorem dn_corner (m : List (List Int)) {n : Nat} (hn : n ≤ 3) : dtN (n + 1) (entry (corner m n)) = dtN (n + 1) (entry m) := by
  match n, hn with
  | 0, _ => simp only [dtN, d1]; rw [corner_entry m (by decide) (by decide)]
  | 1, _ => simp only [dtN, d2]; simp only [corner_entry m (n := 1), Nat.le_refl, Nat.zero_le]
  | 2, _ => simp only [dtN, d3]; simp only [corner_entry m (n := 2), Nat.le_refl, Nat.zero_le, show (1 : Nat) ≤ 2 by decide]
  | 3, _ => simp only [dtN, d4]; simp only [corner_entry m (n := 3), Nat.le_refl, Nat.zero_le, show (1 : Nat) ≤ 3 by decide, show (2 : Nat) ≤ 3 by decide]

theorem minor_dn {N : Nat} {m : List (List Int)} (h : sqMat N m) (hN : N ≤ 4) {n : Nat} (hn : n < N) : minorN m n = dtN (n + 1) (entry m) := by
  simp only [minorN]
  rw [detN_dn (by omega) (sq_corner h hn), dn_corner m (by omega)]

theorem pos_dets {N : Nat} {m : List (List Int)} (h : sqMat N m) (hN : N ≤ 4) : allPos (minorsN m) = true ↔ dets N (entry m) := by
  have hl : (minorsN m).length = N := by rw [minorsN, tab_len]; exact h.1
  have hg : ∀ i, i < N → (minorsN m).getD i 0 = dtN (i + 1) (entry m) := fun i hi => by
    rw [minorsN, tab_get _ 0 _ i (by rw [h.1]; exact hi)]
    exact minor_dn h hN hi
  simp only [allPos, decide_eq_true_eq, hl]
  have e : (∀ i, i < N → 0 < (minorsN m).getD i 0) ↔ ∀ i, i < N → 0 < dtN (i + 1) (entry m) := ⟨fun a i hi => by rw [← hg i hi]; exact a i hi, fun a i hi => by rw [hg i hi]; exact a i hi⟩
  rw [e]
  match N, hN with
  | 0, _ => simp [dets]
  | 1, _ => exact ⟨fun a => a 0 (by decide), fun a i hi => by
      obtain rfl : i = 0 := by omega
      exact a⟩
  | 2, _ => exact ⟨fun a => ⟨a 0 (by decide), a 1 (by decide)⟩, fun a i hi => by
      rcases (show i = 0 ∨ i = 1 by omega) with rfl | rfl
      · exact a.1
      · exact a.2⟩
  | 3, _ => exact ⟨fun a => ⟨a 0 (by decide), a 1 (by decide), a 2 (by decide)⟩, fun a i hi => by
      rcases (show i = 0 ∨ i = 1 ∨ i = 2 by omega) with rfl | rfl | rfl
      · exact a.1
      · exact a.2.1
      · exact a.2.2⟩
  | 4, _ => exact ⟨fun a => ⟨a 0 (by decide), a 1 (by decide), a 2 (by decide), a 3 (by decide)⟩, fun a i hi => by
      rcases (show i = 0 ∨ i = 1 ∨ i = 2 ∨ i = 3 by omega) with rfl | rfl | rfl | rfl
      · exact a.1
      · exact a.2.1
      · exact a.2.2.1
      · exact a.2.2.2⟩

/-- The matrix of lines. -/
def sizeM (rows : List (List Int)) : Mat := fun i j => cellI i j ((rows.getD i []).getD j 0)

theorem row_sum (i : Nat) (s w : Nat → Int) : ∀ n, sm (fun j => cellI i j (s j) * w j) n = (if i < n then 1000 * w i else 0) - sm (fun j => s j * w j) n
  | 0 => by simp [sm]
  | n + 1 => by
    have ih := row_sum i s w n
    simp only [sm]
    rw [ih]
    simp only [cellI]
    by_cases h : i = n
    · subst h
      rw [if_neg (by omega), if_pos rfl, if_pos (by omega), Int.neg_mul, Int.sub_mul]; omega
    · rw [if_neg (show ¬ (i : Int) = n by omega), Int.neg_mul]
      by_cases h2 : i < n
      · rw [if_pos h2, if_pos (by omega)]; omega
      · rw [if_neg h2, if_neg (by omega)]; omega

theorem Lines.entry {rows : List (List Int)} (h : Lines rows) {i j : Nat} (hi : i < rows.length) (hj : j < rows.length) : entry (matI 0 rows) i j = sizeM rows i j := h.cell hi hj

theorem good_congr : ∀ (n : Nat) {M M' : Mat}, (∀ i j, i < n → j < n → M i j = M' i j) → good n M → good n M'
  | 0, _, _, _, _ => trivial
  | n + 1, M, M', h, hg => by
    refine ⟨by rw [← h 0 0 (by omega) (by omega)]; exact hg.1, good_congr n (fun i j hi hj => ?_) hg.2⟩
    simp only [cond]
    rw [h 0 0 (by omega) (by omega), h (i + 1) (j + 1) (by omega) (by omega), h (i + 1) 0 (by omega) (by omega), h 0 (j + 1) (by omega) (by omega)]

theorem pr_ok (w : List Int) : ∀ (rows : List (List Int)) (o : Nat), prRows w o rows = 0 → ∀ i, i < rows.length → sm (dotF (rows.getD i []) w) w.length < 1000 * w.getD (o + i) 0
  | [], _, _, i, hi => by simp at hi
  | r :: t, o, h, i, hi => by
    simp only [prRows] at h
    split at h
    · omega
    · rename_i h1
      cases i with
      | zero => simpa using h1
      | succ i =>
        have := pr_ok w t (o + 1) h i (by simpa using hi)
        rw [show o + (i + 1) = o + 1 + i by omega]
        exact this

theorem Lines.isZ {rows : List (List Int)} (h : Lines rows) : Lp.isZ (sizeM rows) rows.length := by
  intro i j hi hj hij
  have := h.get hi hj
  simp only [sizeM, cellI]
  rw [if_neg (by omega)]; omega

theorem fades_iff {rows : List (List Int)} (h : Lines rows) : allPos (minorsN (matI 0 rows)) = true ↔ good rows.length (sizeM rows) := by
  rw [pos_dets h.sq h.le, ← good_dets _ h.le]
  exact ⟨good_congr _ fun i j hi hj => h.entry hi hj, good_congr _ fun i j hi hj => (h.entry hi hj).symm⟩

theorem weights_row {rows : List (List Int)} {w : List Int} (h : Lines rows) (hl : w.length = rows.length) {i : Nat} (hi : i < rows.length) : rowS (sizeM rows) (fun j => w.getD j 0) rows.length i = 1000 * w.getD i 0 - sm (dotF (rows.getD i []) w) w.length := by
  simp only [rowS, sizeM]
  rw [row_sum i (fun j => (rows.getD i []).getD j 0) (fun j => w.getD j 0), if_pos hi, hl]
  rfl

theorem fades_of_weights {rows : List (List Int)} {w : List Int} (h : Lines rows) (hw : cwErrR rows w = 0) : allPos (minorsN (matI 0 rows)) = true := by
  simp only [cwErrR] at hw
  split at hw
  · rename_i hl
    split at hw
    · rename_i h1
      rw [fades_iff h]
      refine good_of_weights _ _ (fun j => w.getD j 0) h.isZ (fun i hi => by have := wRow_ok h1 i (by omega); omega) (fun i hi => ?_)
      rw [weights_row h hl hi]
      have := pr_ok w rows 0 hw i hi
      rw [Nat.zero_add] at this
      omega
    · rename_i h1; exact absurd hw h1
  · omega

@[reducible] def sLoopMinors : Spec := { pats := [.dat LinesT, .dat (.sl I64)], res := [{ t := .bool }], pre := fun _ => True, f := fun _ => (true, ()) }

theorem small_lists {rows : List (List Int)} (h : fSmallL rows = true) : pLists rows := by
  have h := of_decide_eq_true h
  exact ⟨by omega, fun i hi => by have := h.2 i hi; omega⟩

/-- LoopMinors -/
theorem h8 : Ok 8 sLoopMinors := by
  refine mk (ctr := [(16, sAwake), (40, sSmallL), (42, sCopyLines), (41, sMinors), (43, sFades), (45, sCopyInts), (44, sCheckWeights), (46, sCheckLines), (47, sCheckLines), (48, sCheckWeightsR), (49, sMinorsR), (37, sInts), (50, sFadesR)]) ⟨h16, h40, h42, h41, h43, h45, h44, h46, h47, h48, h49, h37, h50, trivial⟩ (nt := 103) Try.func8 rfl rfl rfl rfl (by kernel_rfl) (by kernel_rfl) (fun _ => []) ?_
  rintro ⟨⟨(rows : List (List Int)), _⟩, (w : List Int), _⟩ _
  by_cases hw8 : (w.length : Int) ≤ 8
  · cases hs : fSmallL rows with
    | true =>
      have hpl := small_lists hs
      by_cases hc : fCheckLines rows = 0
      · have hL := lines_of hc
        have hM : fMinors rows = (minorsN (matI 0 rows), 0) := by simp only [fMinors]; rw [if_pos hc]
        have hF : fFades rows = (allPos (minorsN (matI 0 rows)), 0) := by simp only [fFades]; rw [if_pos hc]
        have hW : cwErr rows w = cwErrR rows w := by simp only [cwErr]; rw [if_pos hc]
        have hln : (minorsN (matI 0 rows)).length ≤ 4 := by rw [minorsN, tab_len, matI_len]; exact hL.le
        by_cases hz : cwErrR rows w = 0
        · have hfade := fades_of_weights hL hz
          rw [hfade] at hF
          repeat' (intro hzz; (try (rename Two => hq; cases hq)); (try dsimp only at hzz); (try simp only [resTy, argTy, eqD, inR, big, wantOf, Bool.not_true, Bool.not_false, Bool.true_eq, decide_eq_true_eq, decide_eq_false_iff_not, Bool.not_eq_true', Bool.not_eq_false', Bool.and_eq_true, Prod.mk.injEq, and_true, true_and, Int.not_lt, Int.not_le, gt_iff_lt, ge_iff_le] at hzz); (try simp only [resTy, argTy, eqD, inR, big, wantOf, Bool.not_true, Bool.not_false, Bool.true_eq, decide_eq_true_eq, decide_eq_false_iff_not, Bool.not_eq_true', Bool.not_eq_false', Bool.and_eq_true, Prod.mk.injEq, and_true, true_and, Int.not_lt, Int.not_le, gt_iff_lt, ge_iff_le, hs, hc, hM, hF, hW, hz, hfade] at hzz); (try (first | contradiction | (exfalso; omega))); (try (revert hzz; intro _)))
          all_goals try (rename Unit => hq; clear hq)
          all_goals try ((with_reducible refine Held.mk ?_); (with_reducible (first | refine Frz.mk ?_ | refine And.intro (Frz.mk ?_) ?_ | refine And.intro ?_ (Frz.mk ?_))); repeat' first | exact True.intro | (change _ = _; with_reducible rfl) | refine And.intro ?_ ?_ | (with_reducible refine Frz.mk ?_))
          all_goals try (refine Held.mk ?_; (try dsimp only at *); (try simp only [resTy, argTy, eqD, inR, big, wantOf, Bool.not_true, Bool.not_false, Bool.true_eq, decide_eq_true_eq, decide_eq_false_iff_not, Bool.not_eq_true', Bool.not_eq_false', Bool.and_eq_true, Prod.mk.injEq, and_true, true_and, Int.not_lt, Int.not_le, gt_iff_lt, ge_iff_le] at *); (try simp only [resTy, argTy, eqD, inR, big, wantOf, Bool.not_true, Bool.not_false, Bool.true_eq, decide_eq_true_eq, decide_eq_false_iff_not, Bool.not_eq_true', Bool.not_eq_false', Bool.and_eq_true, Prod.mk.injEq, and_true, true_and, Int.not_lt, Int.not_le, gt_iff_lt, ge_iff_le, hs, hc, hM, hF, hW, hz, hfade] at *))
          all_goals try omega
          all_goals first | exact hpl | exact hL | exact pLen2 (by omega) | (rename_i h; simp at h; done)
        ·
          repeat' (intro hzz; (try (rename Two => hq; cases hq)); (try dsimp only at hzz); (try simp only [resTy, argTy, eqD, inR, big, wantOf, Bool.not_true, Bool.not_false, Bool.true_eq, decide_eq_true_eq, decide_eq_false_iff_not, Bool.not_eq_true', Bool.not_eq_false', Bool.and_eq_true, Prod.mk.injEq, and_true, true_and, Int.not_lt, Int.not_le, gt_iff_lt, ge_iff_le] at hzz); (try simp only [resTy, argTy, eqD, inR, big, wantOf, Bool.not_true, Bool.not_false, Bool.true_eq, decide_eq_true_eq, decide_eq_false_iff_not, Bool.not_eq_true', Bool.not_eq_false', Bool.and_eq_true, Prod.mk.injEq, and_true, true_and, Int.not_lt, Int.not_le, gt_iff_lt, ge_iff_le, hs, hc, hM, hF, hW] at hzz); (try (first | contradiction | (exfalso; omega))); (try (revert hzz; intro _)))
          all_goals try (rename Unit => hq; clear hq)
          all_goals try ((with_reducible refine Held.mk ?_); (with_reducible (first | refine Frz.mk ?_ | refine And.intro (Frz.mk ?_) ?_ | refine And.intro ?_ (Frz.mk ?_))); repeat' first | exact True.intro | (change _ = _; with_reducible rfl) | refine And.intro ?_ ?_ | (with_reducible refine Frz.mk ?_))
          all_goals try (refine Held.mk ?_; (try dsimp only at *); (try simp only [resTy, argTy, eqD, inR, big, wantOf, Bool.not_true, Bool.not_false, Bool.true_eq, decide_eq_true_eq, decide_eq_false_iff_not, Bool.not_eq_true', Bool.not_eq_false', Bool.and_eq_true, Prod.mk.injEq, and_true, true_and, Int.not_lt, Int.not_le, gt_iff_lt, ge_iff_le] at *); (try simp only [resTy, argTy, eqD, inR, big, wantOf, Bool.not_true, Bool.not_false, Bool.true_eq, decide_eq_true_eq, decide_eq_false_iff_not, Bool.not_eq_true', Bool.not_eq_false', Bool.and_eq_true, Prod.mk.injEq, and_true, true_and, Int.not_lt, Int.not_le, gt_iff_lt, ge_iff_le, hs, hc, hM, hF, hW] at *))
          all_goals try omega
          all_goals first | exact hpl | exact hL | exact pLen2 (by omega) | (rename_i h; simp at h; done)
      · have hM : fMinors rows = ([], fCheckLines rows) := by simp only [fMinors]; rw [if_neg hc]
        have hF : fFades rows = (false, fCheckLines rows) := by simp only [fFades]; rw [if_neg hc]
        have hW : cwErr rows w = fCheckLines rows := by simp only [cwErr]; rw [if_neg hc]
        repeat' (intro hzz; (try (rename Two => hq; cases hq)); (try dsimp only at hzz); (try simp only [resTy, argTy, eqD, inR, big, wantOf, Bool.not_true, Bool.not_false, Bool.true_eq, decide_eq_true_eq, decide_eq_false_iff_not, Bool.not_eq_true', Bool.not_eq_false', Bool.and_eq_true, Prod.mk.injEq, and_true, true_and, Int.not_lt, Int.not_le, gt_iff_lt, ge_iff_le] at hzz); (try simp only [resTy, argTy, eqD, inR, big, wantOf, Bool.not_true, Bool.not_false, Bool.true_eq, decide_eq_true_eq, decide_eq_false_iff_not, Bool.not_eq_true', Bool.not_eq_false', Bool.and_eq_true, Prod.mk.injEq, and_true, true_and, Int.not_lt, Int.not_le, gt_iff_lt, ge_iff_le, hs, hM, hF, hW] at hzz); (try (first | contradiction | (exfalso; omega))); (try (revert hzz; intro _)))
        all_goals try (rename Unit => hq; clear hq)
        all_goals try ((with_reducible refine Held.mk ?_); (with_reducible (first | refine Frz.mk ?_ | refine And.intro (Frz.mk ?_) ?_ | refine And.intro ?_ (Frz.mk ?_))); repeat' first | exact True.intro | (change _ = _; with_reducible rfl) | refine And.intro ?_ ?_ | (with_reducible refine Frz.mk ?_))
        all_goals try (refine Held.mk ?_; (try dsimp only at *); (try simp only [resTy, argTy, eqD, inR, big, wantOf, Bool.not_true, Bool.not_false, Bool.true_eq, decide_eq_true_eq, decide_eq_false_iff_not, Bool.not_eq_true', Bool.not_eq_false', Bool.and_eq_true, Prod.mk.injEq, and_true, true_and, Int.not_lt, Int.not_le, gt_iff_lt, ge_iff_le] at *); (try simp only [resTy, argTy, eqD, inR, big, wantOf, Bool.not_true, Bool.not_false, Bool.true_eq, decide_eq_true_eq, decide_eq_false_iff_not, Bool.not_eq_true', Bool.not_eq_false', Bool.and_eq_true, Prod.mk.injEq, and_true, true_and, Int.not_lt, Int.not_le, gt_iff_lt, ge_iff_le, hs, hM, hF, hW] at *))
        all_goals try omega
        all_goals first | exact hpl | exact pLen2 (by omega) | rfl | (rename_i h; simp at h; done)
    | false =>
      repeat' (intro hzz; (try (rename Two => hq; cases hq)); (try dsimp only at hzz); (try simp only [resTy, argTy, eqD, inR, big, wantOf, Bool.not_true, Bool.not_false, Bool.true_eq, decide_eq_true_eq, decide_eq_false_iff_not, Bool.not_eq_true', Bool.not_eq_false', Bool.and_eq_true, Prod.mk.injEq, and_true, true_and, Int.not_lt, Int.not_le, gt_iff_lt, ge_iff_le] at hzz); (try simp only [resTy, argTy, eqD, inR, big, wantOf, Bool.not_true, Bool.not_false, Bool.true_eq, decide_eq_true_eq, decide_eq_false_iff_not, Bool.not_eq_true', Bool.not_eq_false', Bool.and_eq_true, Prod.mk.injEq, and_true, true_and, Int.not_lt, Int.not_le, gt_iff_lt, ge_iff_le, hs] at hzz); (try (first | contradiction | (exfalso; omega))); (try (revert hzz; intro _)))
      all_goals try (rename Unit => hq; clear hq)
      all_goals try ((with_reducible refine Held.mk ?_); (with_reducible (first | refine Frz.mk ?_ | refine And.intro (Frz.mk ?_) ?_ | refine And.intro ?_ (Frz.mk ?_))); repeat' first | exact True.intro | (change _ = _; with_reducible rfl) | refine And.intro ?_ ?_ | (with_reducible refine Frz.mk ?_))
      all_goals try (refine Held.mk ?_; (try dsimp only at *); (try simp only [resTy, argTy, eqD, inR, big, wantOf, Bool.not_true, Bool.not_false, Bool.true_eq, decide_eq_true_eq, decide_eq_false_iff_not, Bool.not_eq_true', Bool.not_eq_false', Bool.and_eq_true, Prod.mk.injEq, and_true, true_and, Int.not_lt, Int.not_le, gt_iff_lt, ge_iff_le] at *); (try simp only [resTy, argTy, eqD, inR, big, wantOf, Bool.not_true, Bool.not_false, Bool.true_eq, decide_eq_true_eq, decide_eq_false_iff_not, Bool.not_eq_true', Bool.not_eq_false', Bool.and_eq_true, Prod.mk.injEq, and_true, true_and, Int.not_lt, Int.not_le, gt_iff_lt, ge_iff_le, hs] at *))
      all_goals try omega
      all_goals first | rfl | (rename_i h; simp at h; done)
  ·
    repeat' (intro hzz; (try (rename Two => hq; cases hq)); (try dsimp only at hzz); (try simp only [resTy, argTy, eqD, inR, big, wantOf, Bool.not_true, Bool.not_false, Bool.true_eq, decide_eq_true_eq, decide_eq_false_iff_not, Bool.not_eq_true', Bool.not_eq_false', Bool.and_eq_true, Prod.mk.injEq, and_true, true_and, Int.not_lt, Int.not_le, gt_iff_lt, ge_iff_le] at hzz); (try (first | contradiction | (exfalso; omega))); (try (revert hzz; intro _)))
    all_goals try (rename Unit => hq; clear hq)
    all_goals try ((with_reducible refine Held.mk ?_); (with_reducible (first | refine Frz.mk ?_ | refine And.intro (Frz.mk ?_) ?_ | refine And.intro ?_ (Frz.mk ?_))); repeat' first | exact True.intro | (change _ = _; with_reducible rfl) | refine And.intro ?_ ?_ | (with_reducible refine Frz.mk ?_))
    all_goals try (refine Held.mk ?_; (try dsimp only at *); (try simp only [resTy, argTy, eqD, inR, big, wantOf, Bool.not_true, Bool.not_false, Bool.true_eq, decide_eq_true_eq, decide_eq_false_iff_not, Bool.not_eq_true', Bool.not_eq_false', Bool.and_eq_true, Prod.mk.injEq, and_true, true_and, Int.not_lt, Int.not_le, gt_iff_lt, ge_iff_le] at *))
    all_goals try omega
    all_goals first | rfl | (rename_i h; simp at h; done)

end Go.Eng.Lp
