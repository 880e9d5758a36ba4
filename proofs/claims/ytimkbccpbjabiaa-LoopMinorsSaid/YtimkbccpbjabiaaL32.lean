/- Contracts of the reference's det, Minors and Fades. Conditions: each contract's own. -/
import Derived.Test.YtimkbccpbjabiaaL31
namespace Go.Eng.Lp
open Go.Eng Go.Proofs
set_option linter.all false
set_option maxRecDepth 100000
set_option maxHeartbeats 8000000

theorem toNat_succ (n : Nat) : ((n : Int) + 1).toNat = n + 1 := rfl

@[reducible] def sCopyIntsO : Spec := { pats := [.dat (.sl I64)], res := [{ own := some 3, t := .sl I64 }], pre := fun x => pCopy (List.length (α := Int) x.1), f := fun x => (x.1, ()) }
/-- CopyInts, as a list of the caller's own -/
theorem h45o : Ok 45 sCopyIntsO := by
  refine mk (ctr := []) trivial (nt := 6) Try.func45 rfl rfl rfl rfl (by kernel_rfl) (by kernel_rfl) (fun _ => []) ?_
  rintro ⟨(xs : List Int), _⟩ (hp : xs.length ≤ 1000000)
  repeat' (intro hzz; (try (rename Two => hq; cases hq)); (try dsimp only at hzz); (try simp only [resTy, argTy, eqD, inR, big, wantOf, Bool.not_true, Bool.not_false, Bool.true_eq, decide_eq_true_eq, decide_eq_false_iff_not, Bool.not_eq_true', Bool.not_eq_false', Bool.and_eq_true, Prod.mk.injEq, and_true, true_and, Int.not_lt, Int.not_le, gt_iff_lt, ge_iff_le] at hzz); (try simp only [resTy, argTy, eqD, inR, big, wantOf, Bool.not_true, Bool.not_false, Bool.true_eq, decide_eq_true_eq, decide_eq_false_iff_not, Bool.not_eq_true', Bool.not_eq_false', Bool.and_eq_true, Prod.mk.injEq, and_true, true_and, Int.not_lt, Int.not_le, gt_iff_lt, ge_iff_le, List.nil_append, List.length_nil] at hzz); (try (revert hzz; intro _)))
  all_goals try (rename Unit => hq; clear hq)
  all_goals try ((with_reducible refine Held.mk ?_); (with_reducible (first | refine Frz.mk ?_ | refine And.intro (Frz.mk ?_) ?_ | refine And.intro ?_ (Frz.mk ?_))); repeat' first | exact True.intro | (change _ = _; with_reducible rfl) | refine And.intro ?_ ?_ | (with_reducible refine Frz.mk ?_))
  all_goals try (refine Held.mk ?_; (try dsimp only at *); (try simp only [resTy, argTy, eqD, inR, big, wantOf, Bool.not_true, Bool.not_false, Bool.true_eq, decide_eq_true_eq, decide_eq_false_iff_not, Bool.not_eq_true', Bool.not_eq_false', Bool.and_eq_true, Prod.mk.injEq, and_true, true_and, Int.not_lt, Int.not_le, gt_iff_lt, ge_iff_le] at *); (try simp only [resTy, argTy, eqD, inR, big, wantOf, Bool.not_true, Bool.not_false, Bool.true_eq, decide_eq_true_eq, decide_eq_false_iff_not, Bool.not_eq_true', Bool.not_eq_false', Bool.and_eq_true, Prod.mk.injEq, and_true, true_and, Int.not_lt, Int.not_le, gt_iff_lt, ge_iff_le, List.nil_append, List.length_nil] at *))
  all_goals try omega

theorem dropCol_cut (c : Int) : ∀ (row : List Int) (j m : Nat), c = j + m → dropCol c j row = row.take m ++ row.drop (m + 1)
  | [], j, m, _ => by simp [dropCol]
  | n :: r, j, 0, h => by
    simp only [dropCol]
    rw [if_pos (by omega)]
    have none : ∀ (l : List Int) (i : Nat), c < i → dropCol c i l = l := by
      intro l
      induction l with
      | nil => intro i _; rfl
      | cons x l ih => intro i hi; simp only [dropCol]; rw [if_neg (by omega), ih (i + 1) (by omega)]
    rw [none r (j + 1) (by omega)]
    simp
  | n :: r, j, m + 1, h => by
    simp only [dropCol]
    rw [if_neg (by omega), dropCol_cut c r (j + 1) m (by omega)]
    simp

theorem dropRow_map {c : Int} {rows : List (List Int)} (h : 0 < rows.length) : dropRow 0 c 0 rows = (rows.drop 1).map (dropCol c 0) := by
  cases rows with
  | nil => simp at h
  | cons r t =>
    simp only [dropRow, Int.natCast_zero, if_true]
    exact dropRow_succ c t 0

theorem rest_all {N i k : Nat} {rows : List (List Int)} (hp : sqMat (N + 1) rows) (hi : N ≤ i) : ((rows.drop 1).map (dropCol (k : Int) 0)).take i = dropRow 0 k 0 rows := by
  rw [dropRow_map (by rw [hp.1]; omega), List.take_of_length_le]
  rw [List.length_map, List.length_drop, hp.1]; omega

theorem enters99 : Enters Try.prog 99 := ⟨Try.f99, Try.func99, by kernel_rfl, by kernel_rfl⟩
theorem never99 : Ok 99 sNever := ⟨fun w M x vs bs _ _ h => h.elim, enters99⟩
def detAnnR (N : Nat) (rows : List (List Int)) : LoopAnn :=
  { σ := Nat × Int × Int, pat := fun s => [sI 5 s.1, sI 3 s.2.1, sI 4 s.2.2], inv := fun s => detInv N rows s.1 s.2.1 s.2.2, meas := fun s => (rows.getD 0 []).length - s.1 }
def detInnR (rows : List (List Int)) (st : St) : LoopAnn := withI 5 st fun k => { σ := Nat, pat := fun i => sI 7 (i + 1) :: sOwn2 6 60006 31 (((rows.drop 1).map (dropCol k 0)).take i), inv := fun i => i + 1 ≤ rows.length, meas := fun i => rows.length - i }

theorem detR_zero : Ok 99 (sDet 0) := by
  refine mk (ctr := [(45, sCopyIntsO), (99, sNever)]) ⟨h45o, never99, trivial⟩ (nt := 57) Try.func99 rfl rfl rfl rfl (by kernel_rfl) (by kernel_rfl) (fun x => [fun _ => detAnnR 0 x.1, detInnR x.1]) ?_
  rintro ⟨(rows : List (List Int)), _⟩ (hp : sqMat 0 rows)
  have hl : rows.length = 0 := hp.1
  repeat' (intro hzz; (try (rename Two => hq; cases hq)); (try dsimp only at hzz); (try simp only [resTy, argTy, eqD, inR, big, wantOf, Bool.not_true, Bool.not_false, Bool.true_eq, decide_eq_true_eq, decide_eq_false_iff_not, Bool.not_eq_true', Bool.not_eq_false', Bool.and_eq_true, Prod.mk.injEq, and_true, true_and, Int.not_lt, Int.not_le, gt_iff_lt, ge_iff_le] at hzz); (try simp only [resTy, argTy, eqD, inR, big, wantOf, Bool.not_true, Bool.not_false, Bool.true_eq, decide_eq_true_eq, decide_eq_false_iff_not, Bool.not_eq_true', Bool.not_eq_false', Bool.and_eq_true, Prod.mk.injEq, and_true, true_and, Int.not_lt, Int.not_le, gt_iff_lt, ge_iff_le, getD_l, getD_i, getD_0, Int.toNat_natCast, getD_l2, getD_i2, toNat_succ] at hzz); (try (first | contradiction | (exfalso; omega))); (try (revert hzz; intro _)))
  all_goals try (rename Unit => hq; clear hq)
  all_goals try ((with_reducible refine Held.mk ?_); (with_reducible (first | refine Frz.mk ?_ | refine And.intro (Frz.mk ?_) ?_ | refine And.intro ?_ (Frz.mk ?_))); repeat' first | exact True.intro | (change _ = _; with_reducible rfl) | refine And.intro ?_ ?_ | (with_reducible refine Frz.mk ?_))
  all_goals try (refine Held.mk ?_; (try dsimp only at *); (try simp only [resTy, argTy, eqD, inR, big, wantOf, Bool.not_true, Bool.not_false, Bool.true_eq, decide_eq_true_eq, decide_eq_false_iff_not, Bool.not_eq_true', Bool.not_eq_false', Bool.and_eq_true, Prod.mk.injEq, and_true, true_and, Int.not_lt, Int.not_le, gt_iff_lt, ge_iff_le] at *); (try simp only [resTy, argTy, eqD, inR, big, wantOf, Bool.not_true, Bool.not_false, Bool.true_eq, decide_eq_true_eq, decide_eq_false_iff_not, Bool.not_eq_true', Bool.not_eq_false', Bool.and_eq_true, Prod.mk.injEq, and_true, true_and, Int.not_lt, Int.not_le, gt_iff_lt, ge_iff_le, getD_l, getD_i, getD_0, Int.toNat_natCast, getD_l2, getD_i2, toNat_succ] at *))
  all_goals try omega
  · rfl

theorem detR_succ {N : Nat} (hN : N < 4) (ih : Ok 99 (sDet N)) : Ok 99 (sDet (N + 1)) := by
  refine mk (ctr := [(45, sCopyIntsO), (99, sDet N)]) ⟨h45o, ih, trivial⟩ (nt := 57) Try.func99 rfl rfl rfl rfl (by kernel_rfl) (by kernel_rfl) (fun x => [fun _ => detAnnR N x.1, detInnR x.1]) ?_
  rintro ⟨(rows : List (List Int)), _⟩ (hp : sqMat (N + 1) rows)
  have hl : rows.length = N + 1 := hp.1
  repeat' (intro hzz; (try (rename Two => hq; cases hq)); (try dsimp only at hzz); (try simp only [resTy, argTy, eqD, inR, big, wantOf, Bool.not_true, Bool.not_false, Bool.true_eq, decide_eq_true_eq, decide_eq_false_iff_not, Bool.not_eq_true', Bool.not_eq_false', Bool.and_eq_true, Prod.mk.injEq, and_true, true_and, Int.not_lt, Int.not_le, gt_iff_lt, ge_iff_le] at hzz); (try simp only [resTy, argTy, eqD, inR, big, wantOf, Bool.not_true, Bool.not_false, Bool.true_eq, decide_eq_true_eq, decide_eq_false_iff_not, Bool.not_eq_true', Bool.not_eq_false', Bool.and_eq_true, Prod.mk.injEq, and_true, true_and, Int.not_lt, Int.not_le, gt_iff_lt, ge_iff_le, getD_l, getD_i, getD_0, Int.toNat_natCast, getD_l2, getD_i2, toNat_succ, List.length_cons, List.length_nil] at hzz); (try (revert hzz; intro _)))
  all_goals try (rename Unit => hq; clear hq)
  all_goals try ((with_reducible refine Held.mk ?_); (with_reducible (first | refine Frz.mk ?_ | refine And.intro (Frz.mk ?_) ?_ | refine And.intro ?_ (Frz.mk ?_))); repeat' first | exact True.intro | (change _ = _; with_reducible rfl) | refine And.intro ?_ ?_ | (with_reducible refine Frz.mk ?_))
  all_goals try (refine Held.mk ?_; (try dsimp only at *); (try simp only [resTy, argTy, eqD, inR, big, wantOf, Bool.not_true, Bool.not_false, Bool.true_eq, decide_eq_true_eq, decide_eq_false_iff_not, Bool.not_eq_true', Bool.not_eq_false', Bool.and_eq_true, Prod.mk.injEq, and_true, true_and, Int.not_lt, Int.not_le, gt_iff_lt, ge_iff_le] at *); (try simp only [resTy, argTy, eqD, inR, big, wantOf, Bool.not_true, Bool.not_false, Bool.true_eq, decide_eq_true_eq, decide_eq_false_iff_not, Bool.not_eq_true', Bool.not_eq_false', Bool.and_eq_true, Prod.mk.injEq, and_true, true_and, Int.not_lt, Int.not_le, gt_iff_lt, ge_iff_le, getD_l, getD_i, getD_0, Int.toNat_natCast, getD_l2, getD_i2, toNat_succ, List.length_cons, List.length_nil] at *))
  all_goals try omega
  ·
    refine GHeld.mk ?_
    refine Exists.intro (0, 0, 1) ?_
    refine And.intro (Leaf.mk ?_) ?_
    · repeat' first | exact True.intro | refine And.intro ?_ ?_
      all_goals try ((change _ = _ <;> try dsimp only) <;> try with_reducible rfl)
      all_goals try omega
    refine ⟨Nat.zero_le _, .inl rfl, ?_, by simp, by simp⟩
    simp [detN]
  · rename_i h0 s hi hg
    refine GHeld.mk ?_
    refine Exists.intro (0 : Nat) ?_
    refine And.intro (Leaf.mk ?_) ?_
    · repeat' first | exact True.intro | refine And.intro ?_ ?_
      all_goals try ((change _ = _ <;> try dsimp only) <;> try with_reducible rfl)
      all_goals try omega
      all_goals (rfl)
    change 0 + 1 ≤ rows.length
    omega
  all_goals (have hr := row0 hp)
  · rename_i h0 s hi hg i hI hi2
    have := row_len hp (i := i + 1) (by omega)
    omega
  · rename_i h0 s hi hg i hI hi2
    have := row_len hp (i := i + 1) (by omega)
    rw [List.length_take]; omega
  · rename_i h0 s hi hg i hI hi2
    have := row_len hp (i := i + 1) (by omega)
    omega
  · rename_i h0 s hi hg i hI hi2
    have := row_len hp (i := i + 1) (by omega)
    change (List.take s.1 (rows.getD (i + 1) [])).length + (List.drop (s.1 + 1) (rows.getD (i + 1) [])).length ≤ 2147483648
    rw [List.length_take, List.length_drop]; omega
  · rename_i h0 s hi hg i hI hi2
    rw [List.length_take]; omega
  · rename_i h0 s hi hg i hI hi2
    have hl1 : (rows.drop 1).length = N := by rw [List.length_drop]; omega
    have e := take_snoc [] (show i < ((rows.drop 1).map (dropCol (s.1 : Int) 0)).length by rw [List.length_map]; omega)
    rw [map_get _ [] [] (by omega)] at e
    have e1 : (rows.drop 1).getD i [] = rows.getD (i + 1) [] := by simp [List.getD, List.getElem?_drop, Nat.add_comm]
    rw [e1, dropCol_cut (s.1 : Int) _ 0 s.1 (by omega)] at e
    refine GHeld.mk ?_
    refine Exists.intro (i + 1) ?_
    refine And.intro (Leaf.mk ?_) ?_
    · repeat' first | exact True.intro | refine And.intro ?_ ?_
      all_goals try ((change _ = _ <;> try dsimp only) <;> try with_reducible rfl)
      all_goals try omega
      all_goals (first | exact e | exact congrArg List.length e)
    change i + 1 + 1 ≤ rows.length ∧ rows.length - (i + 1) < rows.length - i
    omega
  · rename_i h0 s hi hg i hI hi2
    have := hr.1
    change 0 ≤ (s.1 : Int) ∧ (s.1 : Int) < (rows.getD 0 []).length
    omega
  · rename_i h0 s hi hg i hI hi2
    have hx := hr.2 s.1 (by omega)
    have hs : s.2.2 = 1 ∨ s.2.2 = -1 := hi.2.1
    change -9223372036854775808 ≤ s.2.2 * (rows.getD 0 []).getD s.1 0 ∧ s.2.2 * (rows.getD 0 []).getD s.1 0 ≤ 9223372036854775807
    rcases hs with hs | hs <;> rw [hs] <;> omega
  · rename_i h0 s hi hg i hI hi2
    rw [rest_all hp (by omega)]
    exact sq_drop hp (by omega)
  · rename_i h0 s hi hg i hI hi2
    rw [rest_all hp (by omega)]
    exact (detRound hN hp hi (by have := hr.1; omega)).1
  · rename_i h0 s hi hg i hI hi2
    rw [rest_all hp (by omega)]
    exact (detRound hN hp hi (by have := hr.1; omega)).2.1
  · rename_i h0 s hi hg i hI hi2
    have hd := detRound hN hp hi (by have := hr.1; omega)
    rw [← rest_all (k := s.1) hp (show N ≤ i by omega)] at hd
    refine GHeld.mk ?_
    refine Exists.intro ((s.1 + 1, s.2.1 + s.2.2 * (rows.getD 0 []).getD s.1 0 * detN N (((rows.drop 1).map (dropCol (s.1 : Int) 0)).take i), -s.2.2) : Nat × Int × Int) ?_
    refine And.intro (Leaf.mk ?_) ?_
    · repeat' first | exact True.intro | refine And.intro ?_ ?_
      all_goals try ((change _ = _ <;> try dsimp only) <;> try with_reducible rfl)
      all_goals try omega
      all_goals (rfl)
    refine ⟨hd.2.2, ?_⟩
    change (rows.getD 0 []).length - (s.1 + 1) < (rows.getD 0 []).length - s.1
    have := hr.1
    omega
  · rename_i h0 s hi hg
    obtain ⟨i1, i2, i3, i4⟩ := hi
    rw [List.drop_eq_nil_of_le (by have := hr.1; omega)] at i3
    simpa [sumD] using i3

theorem h99 : ∀ N, N ≤ 4 → Ok 99 (sDet N)
  | 0, _ => detR_zero
  | N + 1, h => detR_succ (by omega) (h99 N (by omega))
theorem hDetR : Ok 99 sDetAll := ⟨fun w M x vs bs hM hA ⟨N, hN, hs⟩ => by
  have h := (h99 N hN).1 w M x vs bs hM hA hs
  have e : (sDet N).f x = sDetAll.f x := by
    simp only [sDet, sDetAll]
    rw [← hs.1]
  rw [e] at h
  exact h, enters99⟩

theorem matI_get : ∀ (rows : List (List Int)) (o i : Nat), i < rows.length → (matI o rows).getD i [] = rowI ((o + i : Nat) : Int) 0 (rows.getD i [])
  | [], o, i, h => by simp at h
  | r :: t, o, 0, _ => by simp [matI]
  | r :: t, o, i + 1, h => by
    have := matI_get t (o + 1) i (by simpa using h)
    simp only [matI, List.getD_cons_succ]
    rw [this, show o + 1 + i = o + (i + 1) by omega]
theorem rowI_get (i : Int) : ∀ (row : List Int) (o k : Nat), k < row.length → (rowI i o row).getD k 0 = cellI i ((o + k : Nat) : Int) (row.getD k 0)
  | [], o, k, h => by simp at h
  | n :: r, o, 0, _ => by simp [rowI]
  | n :: r, o, k + 1, h => by
    have := rowI_get i r (o + 1) k (by simpa using h)
    simp only [rowI, List.getD_cons_succ]
    rw [this, show o + 1 + k = o + (k + 1) by omega]
theorem Lines.cell {rows : List (List Int)} (h : Lines rows) {i k : Nat} (hi : i < rows.length) (hk : k < rows.length) : ((matI 0 rows).getD i []).getD k 0 = cellI i k ((rows.getD i []).getD k 0) := by
  rw [matI_get rows 0 i hi, rowI_get _ _ 0 k (by rw [h.row hi]; exact hk)]
  simp

@[reducible] def sMinorsR : Spec := { pats := [.dat LinesT], res := [{ t := .sl I64 }], pre := fun x => Lines x.1.1, f := fun x => (minorsN (matI 0 x.1.1), ()) }
def mrA (m : List (List Int)) : LoopAnn := { σ := Nat, pat := fun k => sI 4 (k + 1) :: sOwn 3 60003 3 (tab (minorN m) k), inv := fun k => k ≤ m.length, meas := fun k => m.length - k }
def mrB (m : List (List Int)) (st : St) : LoopAnn := withI 4 st fun n => { σ := Nat, pat := fun i => sI 6 i :: sOwn2 5 60005 31 (tab (fun r => (m.getD r []).take n.toNat) i), inv := fun i => i ≤ n.toNat, meas := fun i => n.toNat - i }
def mrC (m : List (List Int)) (st : St) : LoopAnn := withI 4 st fun n => withI 6 st fun i => { σ := Nat, pat := fun j => sI 8 j :: sOwn 7 60007 3 ((m.getD i.toNat []).take j), inv := fun j => j ≤ n.toNat, meas := fun j => n.toNat - j }

/-- ref.Minors -/
theorem h49 : Ok 49 sMinorsR := by
  refine mk (ctr := [(99, sDetAll)]) ⟨hDetR, trivial⟩ (nt := 55) Try.func49 rfl rfl rfl rfl (by kernel_rfl) (by kernel_rfl) (fun x => [fun _ => mrA (matI 0 x.1.1), mrB (matI 0 x.1.1), mrC (matI 0 x.1.1)]) ?_
  rintro ⟨⟨(rows : List (List Int)), _⟩, _⟩ (hL : Lines rows)
  have hm : (matI 0 rows).length = rows.length := matI_len 0 rows
  repeat' (intro hzz; (try (rename Two => hq; cases hq)); (try dsimp only at hzz); (try simp only [resTy, argTy, eqD, inR, big, wantOf, Bool.not_true, Bool.not_false, Bool.true_eq, decide_eq_true_eq, decide_eq_false_iff_not, Bool.not_eq_true', Bool.not_eq_false', Bool.and_eq_true, Prod.mk.injEq, and_true, true_and, Int.not_lt, Int.not_le, gt_iff_lt, ge_iff_le] at hzz); (try simp only [resTy, argTy, eqD, inR, big, wantOf, Bool.not_true, Bool.not_false, Bool.true_eq, decide_eq_true_eq, decide_eq_false_iff_not, Bool.not_eq_true', Bool.not_eq_false', Bool.and_eq_true, Prod.mk.injEq, and_true, true_and, Int.not_lt, Int.not_le, gt_iff_lt, ge_iff_le, getD_l, getD_i, tab_len, List.length_take, List.length_cons, List.length_nil, Int.toNat_natCast, getD_l2, getD_i2, toNat_succ] at hzz); (try (revert hzz; intro _)))
  all_goals try (rename Unit => hq; clear hq)
  all_goals try ((with_reducible refine Held.mk ?_); (with_reducible (first | refine Frz.mk ?_ | refine And.intro (Frz.mk ?_) ?_ | refine And.intro ?_ (Frz.mk ?_))); repeat' first | exact True.intro | (change _ = _; with_reducible rfl) | refine And.intro ?_ ?_ | (with_reducible refine Frz.mk ?_))
  all_goals try (refine Held.mk ?_; (try dsimp only at *); (try simp only [resTy, argTy, eqD, inR, big, wantOf, Bool.not_true, Bool.not_false, Bool.true_eq, decide_eq_true_eq, decide_eq_false_iff_not, Bool.not_eq_true', Bool.not_eq_false', Bool.and_eq_true, Prod.mk.injEq, and_true, true_and, Int.not_lt, Int.not_le, gt_iff_lt, ge_iff_le] at *); (try simp only [resTy, argTy, eqD, inR, big, wantOf, Bool.not_true, Bool.not_false, Bool.true_eq, decide_eq_true_eq, decide_eq_false_iff_not, Bool.not_eq_true', Bool.not_eq_false', Bool.and_eq_true, Prod.mk.injEq, and_true, true_and, Int.not_lt, Int.not_le, gt_iff_lt, ge_iff_le, getD_l, getD_i, tab_len, List.length_take, List.length_cons, List.length_nil, Int.toNat_natCast, getD_l2, getD_i2, toNat_succ] at *))
  all_goals try omega
  ·
    refine GHeld.mk ?_
    refine Exists.intro (0 : Nat) ?_
    refine And.intro (Leaf.mk ?_) ?_
    · repeat' first | exact True.intro | refine And.intro ?_ ?_
      all_goals try ((change _ = _ <;> try dsimp only) <;> try with_reducible rfl)
      all_goals try omega
      all_goals (rfl)
    exact Nat.zero_le _
  ·
    refine GHeld.mk ?_
    refine Exists.intro (0 : Nat) ?_
    refine And.intro (Leaf.mk ?_) ?_
    · repeat' first | exact True.intro | refine And.intro ?_ ?_
      all_goals try ((change _ = _ <;> try dsimp only) <;> try with_reducible rfl)
      all_goals try omega
      all_goals (rfl)
    exact Nat.zero_le _
  ·
    refine GHeld.mk ?_
    refine Exists.intro (0 : Nat) ?_
    refine And.intro (Leaf.mk ?_) ?_
    · repeat' first | exact True.intro | refine And.intro ?_ ?_
      all_goals try ((change _ = _ <;> try dsimp only) <;> try with_reducible rfl)
      all_goals try omega
      all_goals (rfl)
    exact Nat.zero_le _
  all_goals have h4 := hL.le
  · rename_i k hk hk2 i hi hi2 j hj hj2
    have := hL.row (i := i) (by omega)
    omega
  · rename_i k hk hk2 i hi hi2 j hj hj2
    have := hL.get (i := i) (k := j) (by omega) (by omega)
    omega
  · rename_i k hk hk2 i hi hi2 j hj hj2 hij
    have := hL.get (i := i) (k := j) (by omega) (by omega)
    omega
  · rename_i k hk hk2 i hi hi2 j hj hj2 hij
    omega
  · rename_i k hk hk2 i hi hi2 j hj hj2 hij
    omega
  · rename_i k hk hk2 i hi hi2 j hj hj2 hij
    have hlen : ((matI 0 rows).getD i []).length = rows.length := by have := row_len hL.sq (i := i) (by omega); exact this
    have e := take_snoc 0 (show j < ((matI 0 rows).getD i []).length by omega)
    rw [hL.cell (by omega) (by omega)] at e
    have e2 : cellI i j ((rows.getD i []).getD j 0) = -((rows.getD i []).getD j 0) + 1000 := by simp only [cellI]; rw [if_pos hij]; omega
    rw [e2] at e
    refine GHeld.mk ?_
    refine Exists.intro (j + 1) ?_
    refine And.intro (Leaf.mk ?_) ?_
    · repeat' first | exact True.intro | refine And.intro ?_ ?_
      all_goals try ((change _ = _ <;> try dsimp only) <;> try with_reducible rfl)
      all_goals try omega
      all_goals (first | exact e | exact congrArg List.length e)
    change j + 1 ≤ k + 1 ∧ k + 1 - (j + 1) < k + 1 - j
    omega
  · rename_i k hk hk2 i hi hi2 j hj hj2 hij
    omega
  · rename_i k hk hk2 i hi hi2 j hj hj2 hij
    omega
  · rename_i k hk hk2 i hi hi2 j hj hj2 hij
    have hlen : ((matI 0 rows).getD i []).length = rows.length := by have := row_len hL.sq (i := i) (by omega); exact this
    have e := take_snoc 0 (show j < ((matI 0 rows).getD i []).length by omega)
    rw [hL.cell (by omega) (by omega)] at e
    have e2 : cellI i j ((rows.getD i []).getD j 0) = -((rows.getD i []).getD j 0) := by simp only [cellI]; rw [if_neg hij]
    rw [e2] at e
    refine GHeld.mk ?_
    refine Exists.intro (j + 1) ?_
    refine And.intro (Leaf.mk ?_) ?_
    · repeat' first | exact True.intro | refine And.intro ?_ ?_
      all_goals try ((change _ = _ <;> try dsimp only) <;> try with_reducible rfl)
      all_goals try omega
      all_goals (first | exact e | exact congrArg List.length e)
    change j + 1 ≤ k + 1 ∧ k + 1 - (j + 1) < k + 1 - j
    omega
  · rename_i k hk hk2 i hi hi2 j hj hj2
    omega
  · rename_i k hk hk2 i hi hi2 j hj hj2
    omega
  · rename_i k hk hk2 i hi hi2 j hj hj2
    obtain rfl : j = k + 1 := by omega
    refine GHeld.mk ?_
    refine Exists.intro (i + 1) ?_
    refine And.intro (Leaf.mk ?_) ?_
    · repeat' first | exact True.intro | refine And.intro ?_ ?_
      all_goals try ((change _ = _ <;> try dsimp only) <;> try with_reducible rfl)
      all_goals try omega
      all_goals (rfl)
    change i + 1 ≤ k + 1 ∧ k + 1 - (i + 1) < k + 1 - i
    omega
  · rename_i k hk hk2 i hi hi2
    obtain rfl : i = k + 1 := by omega
    exact ⟨k + 1, by omega, sq_corner hL.sq (n := k) (by omega)⟩
  · rename_i k hk hk2 i hi hi2
    omega
  · rename_i k hk hk2 i hi hi2
    omega
  · rename_i k hk hk2 i hi hi2
    obtain rfl : i = k + 1 := by omega
    have e : tab (minorN (matI 0 rows)) k ++ [detN (tab (fun r => ((matI 0 rows).getD r []).take (k + 1)) (k + 1)).length (tab (fun r => ((matI 0 rows).getD r []).take (k + 1)) (k + 1))] = tab (minorN (matI 0 rows)) (k + 1) := by rw [tab_len]; rfl
    refine GHeld.mk ?_
    refine Exists.intro (k + 1) ?_
    refine And.intro (Leaf.mk ?_) ?_
    · repeat' first | exact True.intro | refine And.intro ?_ ?_
      all_goals try ((change _ = _ <;> try dsimp only) <;> try with_reducible rfl)
      all_goals try omega
      all_goals (first | exact e | exact congrArg List.length e)
    change k + 1 ≤ (matI 0 rows).length ∧ (matI 0 rows).length - (k + 1) < (matI 0 rows).length - k
    omega
  · rename_i k hk hk2
    obtain rfl : k = (matI 0 rows).length := by omega
    rfl

@[reducible] def sFadesR : Spec := { pats := [.dat LinesT], res := [{ t := .bool }], pre := fun x => Lines x.1.1, f := fun x => (allPos (minorsN (matI 0 x.1.1)), ()) }
/-- ref.Fades -/
theorem h50 : Ok 50 sFadesR := by
  refine mk (ctr := [(49, sMinorsR)]) ⟨h49, trivial⟩ (nt := 18) Try.func50 rfl rfl rfl rfl (by kernel_rfl) (by kernel_rfl) (fun x => [fun _ => apAnn 4 (minorsN (matI 0 x.1.1))]) ?_
  rintro ⟨⟨(rows : List (List Int)), _⟩, _⟩ (hL : Lines rows)
  repeat' (intro hzz; (try (rename Two => hq; cases hq)); (try dsimp only at hzz); (try simp only [resTy, argTy, eqD, inR, big, wantOf, Bool.not_true, Bool.not_false, Bool.true_eq, decide_eq_true_eq, decide_eq_false_iff_not, Bool.not_eq_true', Bool.not_eq_false', Bool.and_eq_true, Prod.mk.injEq, and_true, true_and, Int.not_lt, Int.not_le, gt_iff_lt, ge_iff_le] at hzz); (try simp only [resTy, argTy, eqD, inR, big, wantOf, Bool.not_true, Bool.not_false, Bool.true_eq, decide_eq_true_eq, decide_eq_false_iff_not, Bool.not_eq_true', Bool.not_eq_false', Bool.and_eq_true, Prod.mk.injEq, and_true, true_and, Int.not_lt, Int.not_le, gt_iff_lt, ge_iff_le, getD_i] at hzz); (try (revert hzz; intro _)))
  all_goals try (rename Unit => hq; clear hq)
  all_goals try ((with_reducible refine Held.mk ?_); (with_reducible (first | refine Frz.mk ?_ | refine And.intro (Frz.mk ?_) ?_ | refine And.intro ?_ (Frz.mk ?_))); repeat' first | exact True.intro | (change _ = _; with_reducible rfl) | refine And.intro ?_ ?_ | (with_reducible refine Frz.mk ?_))
  all_goals try (refine Held.mk ?_; (try dsimp only at *); (try simp only [resTy, argTy, eqD, inR, big, wantOf, Bool.not_true, Bool.not_false, Bool.true_eq, decide_eq_true_eq, decide_eq_false_iff_not, Bool.not_eq_true', Bool.not_eq_false', Bool.and_eq_true, Prod.mk.injEq, and_true, true_and, Int.not_lt, Int.not_le, gt_iff_lt, ge_iff_le] at *); (try simp only [resTy, argTy, eqD, inR, big, wantOf, Bool.not_true, Bool.not_false, Bool.true_eq, decide_eq_true_eq, decide_eq_false_iff_not, Bool.not_eq_true', Bool.not_eq_false', Bool.and_eq_true, Prod.mk.injEq, and_true, true_and, Int.not_lt, Int.not_le, gt_iff_lt, ge_iff_le, getD_i] at *))
  all_goals try omega
  ·
    refine GHeld.mk ?_
    refine Exists.intro (0 : Nat) ?_
    refine And.intro (Leaf.mk ?_) ?_
    · repeat' first | exact True.intro | refine And.intro ?_ ?_
      all_goals try ((change _ = _ <;> try dsimp only) <;> try with_reducible rfl)
      all_goals try omega
      all_goals (rfl)
    exact ⟨Nat.zero_le _, fun i hi => by omega⟩
  · rename_i k hI hk h0
    symm; simp only [allPos, decide_eq_false_iff_not]
    intro hc
    have := hc k (by omega)
    omega
  · rename_i k hI hk h0
    have : (minorsN (matI 0 rows)).length = rows.length := by rw [minorsN, tab_len]; exact matI_len 0 rows
    have := hL.le
    omega
  · rename_i k hI hk h0
    refine GHeld.mk ?_
    refine Exists.intro (k + 1) ?_
    refine And.intro (Leaf.mk ?_) ?_
    · repeat' first | exact True.intro | refine And.intro ?_ ?_
      all_goals try ((change _ = _ <;> try dsimp only) <;> try with_reducible rfl)
      all_goals try omega
      all_goals (rfl)
    refine ⟨⟨by change k + 1 ≤ (minorsN (matI 0 rows)).length; omega, fun i hi => ?_⟩, ?_⟩
    · by_cases hik : i < k
      · exact hI.2 i hik
      · obtain rfl : i = k := by omega
        exact h0
    · change (minorsN (matI 0 rows)).length - (k + 1) < (minorsN (matI 0 rows)).length - k
      omega
  · rename_i k hI hk
    simp only [allPos, decide_eq_true_eq]
    exact fun i hi => hI.2 i (by omega)


end Go.Eng.Lp
