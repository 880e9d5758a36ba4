/- Contracts of matrices: matrixOf, without, det, minors. Conditions: each contract's own. -/
import Derived.Test.YtacgcendcdiodaaDoorL7
namespace Go.Eng.Lp
open Go.Eng Go.Proofs
set_option linter.all false
set_option maxRecDepth 100000
set_option maxHeartbeats 8000000

def getI (t : Nat) (st : St) : Int := match findSlot t st with
  | some (.one (.d (.int .i64) x)) => x
  | _ => 0
def getL (t : Nat) (st : St) : List Int := match findSlot t st with
  | some (.one (.d (.sl (.int .i64)) x)) => x
  | _ => []

abbrev sOwn (t k el : Nat) (xs : List Int) : St := [.slot t (.one (.o k xs.length)), .row k el I64 xs]
abbrev sOwn2 (t k el : Nat) (xs : List (List Int)) : St := [.slot t (.one (.o k xs.length)), .row k el (.sl I64) xs]
abbrev MatT : Ty := .sl (.sl I64)
abbrev LinesT : Ty := .cons MatT .nil

def cellI (i k : Int) (n : Int) : Int := -(if i = k then n - 1000 else n)
def rowI (i : Int) : Nat → List Int → List Int
  | _, [] => []
  | k, n :: r => cellI i k n :: rowI i (k + 1) r
def matI : Nat → List (List Int) → List (List Int)
  | _, [] => []
  | i, r :: t => rowI i 0 r :: matI (i + 1) t

def smallRow (row : List Int) : Prop := row.length ≤ 4 ∧ ∀ n ∈ row, 0 ≤ n ∧ n ≤ 2000
def smallMat (rows : List (List Int)) : Prop := rows.length ≤ 4 ∧ ∀ r ∈ rows, smallRow r

def mInner (st : St) : LoopAnn :=
  { σ := Nat × List Int, pat := fun s => sI 19 s.1 :: sOwn 6 60006 3 s.2, inv := fun s => s.1 ≤ (getL 17 st).length ∧ s.2.length = s.1 ∧ s.2 ++ rowI (getI 4 st) s.1 ((getL 17 st).drop s.1) = rowI (getI 4 st) 0 (getL 17 st), meas := fun s => (getL 17 st).length - s.1 }
def mOuter (rows : List (List Int)) : LoopAnn :=
  { σ := Nat × List (List Int), pat := fun s => sI 12 s.1 :: sOwn2 3 60003 38 s.2, inv := fun s => s.1 ≤ rows.length ∧ s.2.length = s.1 ∧ s.2 ++ matI s.1 (rows.drop s.1) = matI 0 rows, meas := fun s => rows.length - s.1 }

@[reducible] def sMatrixOf : Spec := { pats := [.dat LinesT], res := [{ t := MatT }], pre := fun x => smallMat x.1.1, f := fun x => (matI 0 x.1.1, ()) }

theorem getD_l (xs : List (List Int)) (i : Nat) : List.getD xs ((i : Int)).toNat (Ty.dflt (.sl I64)) = xs.getD i [] := rfl

theorem rowI_step (i : Int) {row : List Int} {k : Nat} (h : k < row.length) : rowI i k (row.drop k) = cellI i k (row.getD k 0) :: rowI i (k + 1) (row.drop (k + 1)) := by
  rw [drop_get h]; rfl

theorem drop_getL {xs : List (List Int)} {i : Nat} (h : i < xs.length) : xs.drop i = xs.getD i [] :: xs.drop (i + 1) := by
  rw [List.drop_eq_getElem_cons h]
  simp [List.getD, List.getElem?_eq_getElem h]

theorem matI_step {rows : List (List Int)} {i : Nat} (h : i < rows.length) : matI i (rows.drop i) = rowI i 0 (rows.getD i []) :: matI (i + 1) (rows.drop (i + 1)) := by
  rw [drop_getL h]; rfl

theorem small_row {rows : List (List Int)} (h : smallMat rows) {i : Nat} (hi : i < rows.length) : smallRow (rows.getD i []) := by
  have : rows.getD i [] = rows[i] := by simp [List.getD, List.getElem?_eq_getElem hi]
  rw [this]
  exact h.2 _ (List.getElem_mem hi)

theorem small_cell {row : List Int} (h : smallRow row) {k : Nat} (hk : k < row.length) : 0 ≤ row.getD k 0 ∧ row.getD k 0 ≤ 2000 := by
  have : row.getD k 0 = row[k] := by simp [List.getD, List.getElem?_eq_getElem hk]
  rw [this]
  exact h.2 _ (List.getElem_mem hk)

abbrev mInv (i : Nat) (row : List Int) (k : Nat) (r : List Int) : Prop := k ≤ row.length ∧ r.length = k ∧ r ++ rowI i k (row.drop k) = rowI i 0 row

theorem mInv_step {i : Nat} {row : List Int} {k : Nat} {r : List Int} (h : mInv i row k r) (hk : k < row.length) : mInv i row (k + 1) (r ++ [cellI i k (row.getD k 0)]) := by
  obtain ⟨h1, h2, h3⟩ := h
  refine ⟨hk, by simp [h2], ?_⟩
  rw [rowI_step _ hk] at h3
  simpa using h3

/-- matrixOf -/
theorem h93 : Ok 35 sMatrixOf := by
  refine mk (ctr := []) trivial (nt := 41) Tryd.func35 rfl rfl rfl rfl (by kernel_rfl) (by kernel_rfl) (fun x => [fun _ => mOuter x.1.1, mInner]) ?_
  rintro ⟨⟨(rows : List (List Int)), _⟩, _⟩ (hp : smallMat rows)
  repeat' (intro hzz; (try (rename Two => hq; cases hq)); (try dsimp only at hzz); (try simp only [resTy, argTy, eqD, inR, big, wantOf, Bool.not_true, Bool.not_false, Bool.true_eq, decide_eq_true_eq, decide_eq_false_iff_not, Bool.not_eq_true', Bool.not_eq_false', Bool.and_eq_true, Prod.mk.injEq, and_true, true_and, Int.not_lt, Int.not_le, gt_iff_lt, ge_iff_le] at hzz); (try simp only [resTy, argTy, eqD, inR, big, wantOf, Bool.not_true, Bool.not_false, Bool.true_eq, decide_eq_true_eq, decide_eq_false_iff_not, Bool.not_eq_true', Bool.not_eq_false', Bool.and_eq_true, Prod.mk.injEq, and_true, true_and, Int.not_lt, Int.not_le, gt_iff_lt, ge_iff_le, getD_l, getD_i] at hzz); (try (revert hzz; intro _)))
  all_goals try (rename Unit => hq; clear hq)
  all_goals try ((with_reducible refine Held.mk ?_); (with_reducible (first | refine Frz.mk ?_ | refine And.intro (Frz.mk ?_) ?_ | refine And.intro ?_ (Frz.mk ?_))); repeat' first | exact True.intro | (change _ = _; with_reducible rfl) | refine And.intro ?_ ?_ | (with_reducible refine Frz.mk ?_))
  all_goals try (refine Held.mk ?_; (try dsimp only at *); (try simp only [resTy, argTy, eqD, inR, big, wantOf, Bool.not_true, Bool.not_false, Bool.true_eq, decide_eq_true_eq, decide_eq_false_iff_not, Bool.not_eq_true', Bool.not_eq_false', Bool.and_eq_true, Prod.mk.injEq, and_true, true_and, Int.not_lt, Int.not_le, gt_iff_lt, ge_iff_le] at *); (try simp only [resTy, argTy, eqD, inR, big, wantOf, Bool.not_true, Bool.not_false, Bool.true_eq, decide_eq_true_eq, decide_eq_false_iff_not, Bool.not_eq_true', Bool.not_eq_false', Bool.and_eq_true, Prod.mk.injEq, and_true, true_and, Int.not_lt, Int.not_le, gt_iff_lt, ge_iff_le, getD_l, getD_i] at *))
  ·
    refine GHeld.mk ?_
    refine Exists.intro (0, []) ?_
    refine And.intro (Leaf.mk ?_) ?_
    · repeat' first | exact True.intro | refine And.intro ?_ ?_
      all_goals try ((change _ = _ <;> try dsimp only) <;> try with_reducible rfl)
      all_goals try omega
      all_goals (rfl)
    exact ⟨Nat.zero_le _, rfl, rfl⟩
  · rename_i s hi hg
    exact ⟨Int.natCast_nonneg _, hg⟩
  · rename_i s hi hg
    obtain ⟨i, m⟩ := s
    refine GHeld.mk ?_
    refine Exists.intro (0, []) ?_
    refine And.intro (Leaf.mk ?_) ?_
    · repeat' first | exact True.intro | refine And.intro ?_ ?_
      all_goals try ((change _ = _ <;> try dsimp only) <;> try with_reducible rfl)
      all_goals try omega
      all_goals (rfl)
    exact ⟨Nat.zero_le _, rfl, rfl⟩
  · rename_i s hi hg t ht hk
    obtain ⟨k, r⟩ := t
    dsimp only at *
    omega
  · rename_i s hi hg t ht hk he
    obtain ⟨i, m⟩ := s
    obtain ⟨k, r⟩ := t
    dsimp only at *
    have hi' : i < rows.length := by omega
    have hk' : k < (rows.getD i []).length := by omega
    have := small_cell (small_row hp hi') hk'
    omega
  · rename_i s hi hg t ht hk he
    obtain ⟨i, m⟩ := s
    obtain ⟨k, r⟩ := t
    dsimp only at *
    have hi' : i < rows.length := by omega
    have hk' : k < (rows.getD i []).length := by omega
    have := small_cell (small_row hp hi') hk'
    omega
  · rename_i s hi hg t ht hk he
    obtain ⟨i, m⟩ := s
    obtain ⟨k, r⟩ := t
    dsimp only at *
    have hi' : i < rows.length := by omega
    have hs := small_row hp hi'
    have ht' : mInv i (rows.getD i []) k r := ht
    have := ht'.2.1
    have := hs.1
    simp only [List.length_cons, List.length_nil]
    omega
  · rename_i s hi hg t ht hk he
    obtain ⟨i, m⟩ := s
    obtain ⟨k, r⟩ := t
    dsimp only at *
    have hi' : i < rows.length := by omega
    have hs := small_row hp hi'
    have := hs.1
    omega
  · rename_i s hi h1 t ht h2 h3
    obtain ⟨i, m⟩ := s
    obtain ⟨k, r⟩ := t
    all_goals try dsimp only at h1 h2 h3
    all_goals try simp only [resTy, argTy, eqD, inR, big, wantOf, Bool.not_true, Bool.not_false, Bool.true_eq, decide_eq_true_eq, decide_eq_false_iff_not, Bool.not_eq_true', Bool.not_eq_false', Bool.and_eq_true, Prod.mk.injEq, and_true, true_and, Int.not_lt, Int.not_le, gt_iff_lt, ge_iff_le] at h1 h2 h3
    all_goals try simp only [resTy, argTy, eqD, inR, big, wantOf, Bool.not_true, Bool.not_false, Bool.true_eq, decide_eq_true_eq, decide_eq_false_iff_not, Bool.not_eq_true', Bool.not_eq_false', Bool.and_eq_true, Prod.mk.injEq, and_true, true_and, Int.not_lt, Int.not_le, gt_iff_lt, ge_iff_le, getD_l, getD_i] at h1 h2 h3
    have ht' : mInv i (rows.getD i []) k r := ht
    have hk' : k < (rows.getD i []).length := by omega
    have he : cellI i k ((rows.getD i []).getD k 0) = -((rows.getD i []).getD k 0 - 1000) := by simp only [cellI]; rw [if_pos h3]
    refine GHeld.mk ?_
    refine Exists.intro (k + 1, r ++ [cellI i k ((rows.getD i []).getD k 0)]) ?_
    refine And.intro (Leaf.mk ?_) ?_
    · repeat' first | exact True.intro | refine And.intro ?_ ?_
      all_goals try ((change _ = _ <;> try dsimp only) <;> try with_reducible rfl)
      all_goals try omega
      all_goals (rw [he]; rfl)
    refine ⟨mInv_step ht' hk', ?_⟩
    change (rows.getD i []).length - (k + 1) < (rows.getD i []).length - k
    omega
  · rename_i s hi hg t ht hk he
    obtain ⟨i, m⟩ := s
    obtain ⟨k, r⟩ := t
    dsimp only at *
    have hi' : i < rows.length := by omega
    have hk' : k < (rows.getD i []).length := by omega
    have := small_cell (small_row hp hi') hk'
    omega
  · rename_i s hi hg t ht hk he
    obtain ⟨i, m⟩ := s
    obtain ⟨k, r⟩ := t
    dsimp only at *
    have hi' : i < rows.length := by omega
    have hs := small_row hp hi'
    have ht' : mInv i (rows.getD i []) k r := ht
    have := ht'.2.1
    have := hs.1
    simp only [List.length_cons, List.length_nil]
    omega
  · rename_i s hi hg t ht hk he
    obtain ⟨i, m⟩ := s
    obtain ⟨k, r⟩ := t
    dsimp only at *
    have hi' : i < rows.length := by omega
    have hs := small_row hp hi'
    have := hs.1
    omega
  · rename_i s hi h1 t ht h2 h3
    obtain ⟨i, m⟩ := s
    obtain ⟨k, r⟩ := t
    all_goals try dsimp only at h1 h2 h3
    all_goals try simp only [resTy, argTy, eqD, inR, big, wantOf, Bool.not_true, Bool.not_false, Bool.true_eq, decide_eq_true_eq, decide_eq_false_iff_not, Bool.not_eq_true', Bool.not_eq_false', Bool.and_eq_true, Prod.mk.injEq, and_true, true_and, Int.not_lt, Int.not_le, gt_iff_lt, ge_iff_le] at h1 h2 h3
    all_goals try simp only [resTy, argTy, eqD, inR, big, wantOf, Bool.not_true, Bool.not_false, Bool.true_eq, decide_eq_true_eq, decide_eq_false_iff_not, Bool.not_eq_true', Bool.not_eq_false', Bool.and_eq_true, Prod.mk.injEq, and_true, true_and, Int.not_lt, Int.not_le, gt_iff_lt, ge_iff_le, getD_l, getD_i] at h1 h2 h3
    have ht' : mInv i (rows.getD i []) k r := ht
    have hk' : k < (rows.getD i []).length := by omega
    have he : cellI i k ((rows.getD i []).getD k 0) = -((rows.getD i []).getD k 0) := by simp only [cellI]; rw [if_neg h3]
    refine GHeld.mk ?_
    refine Exists.intro (k + 1, r ++ [cellI i k ((rows.getD i []).getD k 0)]) ?_
    refine And.intro (Leaf.mk ?_) ?_
    · repeat' first | exact True.intro | refine And.intro ?_ ?_
      all_goals try ((change _ = _ <;> try dsimp only) <;> try with_reducible rfl)
      all_goals try omega
      all_goals (rw [he]; rfl)
    refine ⟨mInv_step ht' hk', ?_⟩
    change (rows.getD i []).length - (k + 1) < (rows.getD i []).length - k
    omega
  · rename_i s hi hg t ht hk
    obtain ⟨i, m⟩ := s
    dsimp only at *
    have h1 : i ≤ rows.length ∧ m.length = i ∧ m ++ matI i (rows.drop i) = matI 0 rows := hi
    have := hp.1
    simp only [List.length_cons, List.length_nil]
    omega
  · rename_i s hi hg t ht hk
    obtain ⟨i, m⟩ := s
    dsimp only at *
    have := hp.1
    omega
  · rename_i s hi h1 t ht h2
    obtain ⟨i, m⟩ := s
    obtain ⟨k, r⟩ := t
    all_goals try dsimp only at h1 h2
    all_goals try simp only [resTy, argTy, eqD, inR, big, wantOf, Bool.not_true, Bool.not_false, Bool.true_eq, decide_eq_true_eq, decide_eq_false_iff_not, Bool.not_eq_true', Bool.not_eq_false', Bool.and_eq_true, Prod.mk.injEq, and_true, true_and, Int.not_lt, Int.not_le, gt_iff_lt, ge_iff_le] at h1 h2
    all_goals try simp only [resTy, argTy, eqD, inR, big, wantOf, Bool.not_true, Bool.not_false, Bool.true_eq, decide_eq_true_eq, decide_eq_false_iff_not, Bool.not_eq_true', Bool.not_eq_false', Bool.and_eq_true, Prod.mk.injEq, and_true, true_and, Int.not_lt, Int.not_le, gt_iff_lt, ge_iff_le, getD_l, getD_i] at h1 h2
    have ht' : mInv i (rows.getD i []) k r := ht
    have hi' : i < rows.length := by omega
    have hm : i ≤ rows.length ∧ m.length = i ∧ m ++ matI i (rows.drop i) = matI 0 rows := hi
    have hr : r = rowI i 0 (rows.getD i []) := by
      have h := ht'.2.2
      rw [List.drop_eq_nil_of_le (by omega)] at h
      simpa [rowI] using h
    refine GHeld.mk ?_
    refine Exists.intro (i + 1, m ++ [r]) ?_
    refine And.intro (Leaf.mk ?_) ?_
    · repeat' first | exact True.intro | refine And.intro ?_ ?_
      all_goals try ((change _ = _ <;> try dsimp only) <;> try with_reducible rfl)
      all_goals try omega
      all_goals (rfl)
    refine ⟨⟨hi', by simp [hm.2.1], ?_⟩, ?_⟩
    · have h := hm.2.2
      rw [matI_step hi', ← hr] at h
      simpa using h
    · change rows.length - (i + 1) < rows.length - i
      omega
  · rename_i s hi hg
    obtain ⟨i, m⟩ := s
    have hm : i ≤ rows.length ∧ m.length = i ∧ m ++ matI i (rows.drop i) = matI 0 rows := hi
    have h := hm.2.2
    dsimp only at hg
    rw [List.drop_eq_nil_of_le (by omega)] at h
    simpa [matI] using h

end Go.Eng.Lp
