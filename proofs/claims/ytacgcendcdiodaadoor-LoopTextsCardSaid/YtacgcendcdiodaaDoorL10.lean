/- Contract of without. Conditions: at most 4 rows of at most 4 numbers. -/
import Derived.Test.YtacgcendcdiodaaDoorL9
namespace Go.Eng.Lp
open Go.Eng Go.Proofs
set_option linter.all false
set_option maxRecDepth 100000
set_option maxHeartbeats 8000000

def dropCol (c : Int) : Nat → List Int → List Int
  | _, [] => []
  | k, n :: r => if (k : Int) = c then dropCol c (k + 1) r else n :: dropCol c (k + 1) r
def dropRow (rw' c : Int) : Nat → List (List Int) → List (List Int)
  | _, [] => []
  | i, r :: t => if (i : Int) = rw' then dropRow rw' c (i + 1) t else dropCol c 0 r :: dropRow rw' c (i + 1) t

theorem dropCol_step (c : Int) {row : List Int} {k : Nat} (h : k < row.length) : dropCol c k (row.drop k) = if (k : Int) = c then dropCol c (k + 1) (row.drop (k + 1)) else row.getD k 0 :: dropCol c (k + 1) (row.drop (k + 1)) := by
  rw [drop_get h]; rfl
theorem dropRow_step (rw' c : Int) {rows : List (List Int)} {i : Nat} (h : i < rows.length) : dropRow rw' c i (rows.drop i) = if (i : Int) = rw' then dropRow rw' c (i + 1) (rows.drop (i + 1)) else dropCol c 0 (rows.getD i []) :: dropRow rw' c (i + 1) (rows.drop (i + 1)) := by
  rw [drop_getL h]; rfl

def dimMat (rows : List (List Int)) : Prop := rows.length ≤ 4 ∧ ∀ r ∈ rows, r.length ≤ 4
theorem dim_row {rows : List (List Int)} (h : dimMat rows) {i : Nat} (hi : i < rows.length) : (rows.getD i []).length ≤ 4 := by
  have : rows.getD i [] = rows[i] := by simp [List.getD, List.getElem?_eq_getElem hi]
  rw [this]
  exact h.2 _ (List.getElem_mem hi)

abbrev wInv (c : Int) (row : List Int) (k : Nat) (r : List Int) : Prop := k ≤ row.length ∧ r.length ≤ k ∧ r ++ dropCol c k (row.drop k) = dropCol c 0 row
abbrev oInv (rw' c : Int) (rows : List (List Int)) (i : Nat) (m : List (List Int)) : Prop := i ≤ rows.length ∧ m.length ≤ i ∧ m ++ dropRow rw' c i (rows.drop i) = dropRow rw' c 0 rows

def wInner (st : St) : LoopAnn := { σ := Nat × List Int, pat := fun s => sI 25 s.1 :: sOwn 10 60010 3 s.2, inv := fun s => wInv (getI 2 st) (getL 23 st) s.1 s.2, meas := fun s => (getL 23 st).length - s.1 }
def wOuter (rw' c : Int) (rows : List (List Int)) : LoopAnn := { σ := Nat × List (List Int), pat := fun s => sI 15 s.1 :: sOwn2 7 60007 38 s.2, inv := fun s => oInv rw' c rows s.1 s.2, meas := fun s => rows.length - s.1 }

@[reducible] def sWithout : Spec := { pats := [.dat MatT, .dat I64, .dat I64], res := [{ t := MatT }], pre := fun x => dimMat x.1, f := fun x => (dropRow x.2.1 x.2.2.1 0 x.1, ()) }

/-- matrix.without -/
theorem h104 : Ok 64 sWithout := by
  refine mk (ctr := []) trivial (nt := 44) Tryd.func64 rfl rfl rfl rfl (by kernel_rfl) (by kernel_rfl) (fun x => [fun _ => wOuter x.2.1 x.2.2.1 x.1, wInner]) ?_
  rintro ⟨(rows : List (List Int)), (rw' : Int), (c : Int), _⟩ (hp : dimMat rows)
  repeat' (intro hzz; (try (rename Two => hq; cases hq)); (try dsimp only at hzz); (try simp only [resTy, argTy, eqD, inR, big, wantOf, Bool.not_true, Bool.not_false, Bool.true_eq, decide_eq_true_eq, decide_eq_false_iff_not, Bool.not_eq_true', Bool.not_eq_false', Bool.and_eq_true, Prod.mk.injEq, and_true, true_and, Int.not_lt, Int.not_le, gt_iff_lt, ge_iff_le] at hzz); (try simp only [resTy, argTy, eqD, inR, big, wantOf, Bool.not_true, Bool.not_false, Bool.true_eq, decide_eq_true_eq, decide_eq_false_iff_not, Bool.not_eq_true', Bool.not_eq_false', Bool.and_eq_true, Prod.mk.injEq, and_true, true_and, Int.not_lt, Int.not_le, gt_iff_lt, ge_iff_le, getD_l, getD_i] at hzz); (try (revert hzz; intro _)))
  all_goals try (rename Unit => hq; clear hq)
  all_goals try ((with_reducible refine Held.mk ?_); (with_reducible (first | refine Frz.mk ?_ | refine And.intro (Frz.mk ?_) ?_ | refine And.intro ?_ (Frz.mk ?_))); repeat' first | exact True.intro | (change _ = _; with_reducible rfl) | refine And.intro ?_ ?_ | (with_reducible refine Frz.mk ?_))
  all_goals try (refine Held.mk ?_; (try dsimp only at *); (try simp only [resTy, argTy, eqD, inR, big, wantOf, Bool.not_true, Bool.not_false, Bool.true_eq, decide_eq_true_eq, decide_eq_false_iff_not, Bool.not_eq_true', Bool.not_eq_false', Bool.and_eq_true, Prod.mk.injEq, and_true, true_and, Int.not_lt, Int.not_le, gt_iff_lt, ge_iff_le] at *); (try simp only [resTy, argTy, eqD, inR, big, wantOf, Bool.not_true, Bool.not_false, Bool.true_eq, decide_eq_true_eq, decide_eq_false_iff_not, Bool.not_eq_true', Bool.not_eq_false', Bool.and_eq_true, Prod.mk.injEq, and_true, true_and, Int.not_lt, Int.not_le, gt_iff_lt, ge_iff_le, getD_l, getD_i] at *))
  ·
    refine GHeld.mk ?_
    refine Exists.intro (0, []) ?_
    refine And.intro (Leaf.mk ?_) ?_
    · repeat' first | exact True.intro | refine And.intro ?_ ?_
      all_goals try ((change _ = _ <;> try dsimp only) <;> try with_reducible rfl)
      all_goals try omega
      all_goals (rfl)
    exact ⟨Nat.zero_le _, Nat.le_refl _, rfl⟩
  · rename_i s hi hg
    exact ⟨Int.natCast_nonneg _, hg⟩
  · rename_i s hi hg he
    obtain ⟨i, m⟩ := s
    have := hp.1
    dsimp only at *
    omega
  · rename_i s hi hg he
    obtain ⟨i, m⟩ := s
    all_goals try dsimp only at hg he
    all_goals try simp only [resTy, argTy, eqD, inR, big, wantOf, Bool.not_true, Bool.not_false, Bool.true_eq, decide_eq_true_eq, decide_eq_false_iff_not, Bool.not_eq_true', Bool.not_eq_false', Bool.and_eq_true, Prod.mk.injEq, and_true, true_and, Int.not_lt, Int.not_le, gt_iff_lt, ge_iff_le] at hg he
    have hi' : i < rows.length := by omega
    have hm : oInv rw' c rows i m := hi
    have h := hm.2.2
    rw [dropRow_step rw' c hi', if_pos he] at h
    refine GHeld.mk ?_
    refine Exists.intro (i + 1, m) ?_
    refine And.intro (Leaf.mk ?_) ?_
    · repeat' first | exact True.intro | refine And.intro ?_ ?_
      all_goals try ((change _ = _ <;> try dsimp only) <;> try with_reducible rfl)
      all_goals try omega
      all_goals (rfl)
    refine ⟨⟨hi', by have := hm.2.1; dsimp only; omega, h⟩, ?_⟩
    change rows.length - (i + 1) < rows.length - i
    omega
  · rename_i s hi hg he
    refine GHeld.mk ?_
    refine Exists.intro (0, []) ?_
    refine And.intro (Leaf.mk ?_) ?_
    · repeat' first | exact True.intro | refine And.intro ?_ ?_
      all_goals try ((change _ = _ <;> try dsimp only) <;> try with_reducible rfl)
      all_goals try omega
      all_goals (rfl)
    exact ⟨Nat.zero_le _, Nat.le_refl _, rfl⟩
  · rename_i s hi hg he t ht hk
    obtain ⟨k, r⟩ := t
    dsimp only at *
    omega
  · rename_i s hi hg he t ht hk hc
    obtain ⟨i, m⟩ := s
    obtain ⟨k, r⟩ := t
    dsimp only at *
    have hi' : i < rows.length := by omega
    have := dim_row hp hi'
    have ht' : wInv c (rows.getD i []) k r := ht
    have := ht'.2.1
    simp only [List.length_cons, List.length_nil]
    omega
  · rename_i s hi hg he t ht hk hc
    obtain ⟨i, m⟩ := s
    obtain ⟨k, r⟩ := t
    dsimp only at *
    have hi' : i < rows.length := by omega
    have := dim_row hp hi'
    omega
  · rename_i s hi hg he t ht hk hc
    obtain ⟨i, m⟩ := s
    obtain ⟨k, r⟩ := t
    all_goals try dsimp only at hg he hk hc
    all_goals try simp only [resTy, argTy, eqD, inR, big, wantOf, Bool.not_true, Bool.not_false, Bool.true_eq, decide_eq_true_eq, decide_eq_false_iff_not, Bool.not_eq_true', Bool.not_eq_false', Bool.and_eq_true, Prod.mk.injEq, and_true, true_and, Int.not_lt, Int.not_le, gt_iff_lt, ge_iff_le] at hg he hk hc
    all_goals try simp only [resTy, argTy, eqD, inR, big, wantOf, Bool.not_true, Bool.not_false, Bool.true_eq, decide_eq_true_eq, decide_eq_false_iff_not, Bool.not_eq_true', Bool.not_eq_false', Bool.and_eq_true, Prod.mk.injEq, and_true, true_and, Int.not_lt, Int.not_le, gt_iff_lt, ge_iff_le, getD_l, getD_i] at hg he hk hc
    have ht' : wInv c (rows.getD i []) k r := ht
    have hk' : k < (rows.getD i []).length := by omega
    have h := ht'.2.2
    rw [dropCol_step c hk', if_neg hc] at h
    have hn : wInv c (rows.getD i []) (k + 1) (r ++ [(rows.getD i []).getD k 0]) := ⟨hk', by have := ht'.2.1; simp only [List.length_append, List.length_cons, List.length_nil]; omega, by simpa using h⟩
    refine GHeld.mk ?_
    refine Exists.intro (k + 1, r ++ [(rows.getD i []).getD k 0]) ?_
    refine And.intro (Leaf.mk ?_) ?_
    · repeat' first | exact True.intro | refine And.intro ?_ ?_
      all_goals try ((change _ = _ <;> try dsimp only) <;> try with_reducible rfl)
      all_goals try omega
      all_goals (rfl)
    refine ⟨hn, ?_⟩
    change (rows.getD i []).length - (k + 1) < (rows.getD i []).length - k
    omega
  · rename_i s hi hg he t ht hk hc
    obtain ⟨i, m⟩ := s
    obtain ⟨k, r⟩ := t
    dsimp only at *
    have hi' : i < rows.length := by omega
    have := dim_row hp hi'
    omega
  · rename_i s hi hg he t ht hk hc
    obtain ⟨i, m⟩ := s
    obtain ⟨k, r⟩ := t
    all_goals try dsimp only at hg he hk hc
    all_goals try simp only [resTy, argTy, eqD, inR, big, wantOf, Bool.not_true, Bool.not_false, Bool.true_eq, decide_eq_true_eq, decide_eq_false_iff_not, Bool.not_eq_true', Bool.not_eq_false', Bool.and_eq_true, Prod.mk.injEq, and_true, true_and, Int.not_lt, Int.not_le, gt_iff_lt, ge_iff_le] at hg he hk hc
    all_goals try simp only [resTy, argTy, eqD, inR, big, wantOf, Bool.not_true, Bool.not_false, Bool.true_eq, decide_eq_true_eq, decide_eq_false_iff_not, Bool.not_eq_true', Bool.not_eq_false', Bool.and_eq_true, Prod.mk.injEq, and_true, true_and, Int.not_lt, Int.not_le, gt_iff_lt, ge_iff_le, getD_l, getD_i] at hg he hk hc
    have ht' : wInv c (rows.getD i []) k r := ht
    have hk' : k < (rows.getD i []).length := by omega
    have h := ht'.2.2
    rw [dropCol_step c hk', if_pos hc] at h
    refine GHeld.mk ?_
    refine Exists.intro (k + 1, r) ?_
    refine And.intro (Leaf.mk ?_) ?_
    · repeat' first | exact True.intro | refine And.intro ?_ ?_
      all_goals try ((change _ = _ <;> try dsimp only) <;> try with_reducible rfl)
      all_goals try omega
      all_goals (rfl)
    refine ⟨⟨hk', by have := ht'.2.1; dsimp only; omega, h⟩, ?_⟩
    change (rows.getD i []).length - (k + 1) < (rows.getD i []).length - k
    omega
  · rename_i s hi hg he t ht hk
    obtain ⟨i, m⟩ := s
    dsimp only at *
    have hm : oInv rw' c rows i m := hi
    have := hm.2.1
    have := hp.1
    simp only [List.length_cons, List.length_nil]
    omega
  · rename_i s hi hg he t ht hk
    obtain ⟨i, m⟩ := s
    dsimp only at *
    have := hp.1
    omega
  · rename_i s hi hg he t ht hk
    obtain ⟨i, m⟩ := s
    obtain ⟨k, r⟩ := t
    all_goals try dsimp only at hg he hk
    all_goals try simp only [resTy, argTy, eqD, inR, big, wantOf, Bool.not_true, Bool.not_false, Bool.true_eq, decide_eq_true_eq, decide_eq_false_iff_not, Bool.not_eq_true', Bool.not_eq_false', Bool.and_eq_true, Prod.mk.injEq, and_true, true_and, Int.not_lt, Int.not_le, gt_iff_lt, ge_iff_le] at hg he hk
    all_goals try simp only [resTy, argTy, eqD, inR, big, wantOf, Bool.not_true, Bool.not_false, Bool.true_eq, decide_eq_true_eq, decide_eq_false_iff_not, Bool.not_eq_true', Bool.not_eq_false', Bool.and_eq_true, Prod.mk.injEq, and_true, true_and, Int.not_lt, Int.not_le, gt_iff_lt, ge_iff_le, getD_l, getD_i] at hg he hk
    have hi' : i < rows.length := by omega
    have hm : oInv rw' c rows i m := hi
    have ht' : wInv c (rows.getD i []) k r := ht
    have hr : r = dropCol c 0 (rows.getD i []) := by
      have h := ht'.2.2
      rw [List.drop_eq_nil_of_le (by omega)] at h
      simpa [dropCol] using h
    have h := hm.2.2
    rw [dropRow_step rw' c hi', if_neg he, ← hr] at h
    refine GHeld.mk ?_
    refine Exists.intro (i + 1, m ++ [r]) ?_
    refine And.intro (Leaf.mk ?_) ?_
    · repeat' first | exact True.intro | refine And.intro ?_ ?_
      all_goals try ((change _ = _ <;> try dsimp only) <;> try with_reducible rfl)
      all_goals try omega
      all_goals (rfl)
    refine ⟨⟨hi', by have := hm.2.1; simp only [List.length_append, List.length_cons, List.length_nil]; omega, by simpa using h⟩, ?_⟩
    change rows.length - (i + 1) < rows.length - i
    omega
  · rename_i s hi hg
    obtain ⟨i, m⟩ := s
    have hm : oInv rw' c rows i m := hi
    have h := hm.2.2
    dsimp only at hg
    rw [List.drop_eq_nil_of_le (by omega)] at h
    simpa [dropRow] using h

end Go.Eng.Lp
