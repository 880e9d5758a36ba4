/- Contracts of matrices: matrixOf, without, det, minors. Conditions: each contract's own. -/
import Derived.Test.YtdphhjibkjlmcaaL7
namespace Go.Eng.Lp
open Go.Eng Go.Proofs
set_option linter.all false
set_option maxRecDepth 100000
set_option maxHeartbeats 8000000

def getI (t : Nat) (st : St) : Int := match findSlot t st with
  | some (.one (.d (.int .i64) x)) => x
  | _ => 0
def getL (t : Nat) (st : St) : List Int := match findSlot t st with
  | some (.one (.d (.sl (.int .i64)) x)) => x
  | _ => []

abbrev sOwn (t k el : Nat) (xs : List Int) : St := [.slot t (.one (.o k xs.length)), .row k el I64 xs]
abbrev sOwn2 (t k el : Nat) (xs : List (List Int)) : St := [.slot t (.one (.o k xs.length)), .row k el (.sl I64) xs]
abbrev MatT : Ty := .sl (.sl I64)
abbrev LinesT : Ty := .cons MatT .nil

def cellI (i k : Int) (n : Int) : Int := -(if i = k then n - 1000 else n)
def rowI (i : Int) : Nat → List Int → List Int
  | _, [] => []
  | k, n :: r => cellI i k n :: rowI i (k + 1) r
def matI : Nat → List (List Int) → List (List Int)
  | _, [] => []
  | i, r :: t => rowI i 0 r :: matI (i + 1) t

def smallRow (row : List Int) : Prop := row.length ≤ 4 ∧ ∀ n ∈ row, 0 ≤ n ∧ n ≤ 2000
def smallMat (rows : List (List Int)) : Prop := rows.length ≤ 4 ∧ ∀ r ∈ rows, smallRow r

def mInner (st : St) : LoopAnn :=
  { σ := Nat × List Int, pat := fun s => sI 19 s.1 :: sOwn 6 60006 3 s.2, inv := fun s => s.1 ≤ (getL 17 st).length ∧ s.2.length = s.1 ∧ s.2 ++ rowI (getI 4 st) s.1 ((getL 17 st).drop s.1) = rowI (getI 4 st) 0 (getL 17 st), meas := fun s => (getL 17 st).length - s.1 }
def mOuter (rows : List (List Int)) : LoopAnn :=
  { σ := Nat × List (List Int), pat := fun s => sI 12 s.1 :: sOwn2 3 60003 25 s.2, inv := fun s => s.1 ≤ rows.length ∧ s.2.length = s.1 ∧ s.2 ++ matI s.1 (rows.drop s.1) = matI 0 rows, meas := fun s => rows.length - s.1 }

@[reducible] def sMatrixOf : Spec := { pats := [.dat LinesT], res := [{ t := MatT }], pre := fun x => smallMat x.1.1, f := fun x => (matI 0 x.1.1, ()) }

theorem getD_l (xs : List (List Int)) (i : Nat) : List.getD xs ((i : Int)).toNat (Ty.dflt (.sl I64)) = xs.getD i [] := rfl

theorem rowI_step (i : Int) {row : List Int} {k : Nat} (h : k < row.length) : rowI i k (row.drop k) = cellI i k (row.getD k 0) :: rowI i (k + 1) (row.drop (k + 1)) := by
  rw [drop_get h]; rfl

theorem drop_getL {xs : List (List Int)} {i : Nat} (h : i < xs.length) : xs.drop i = xs.getD i [] :: xs.drop (i + 1) := by
  rw [List.drop_eq_getElem_cons h]
  simp [List.getD, List.getElem?_eq_getElem h]

theorem matI_step {rows : List (List Int)} {i : Nat} (h : i < rows.length) : matI i (rows.drop i) = rowI i 0 (rows.getD i []) :: matI (i + 1) (rows.drop (i + 1)) := by
  rw [drop_getL h]; rfl

theorem small_row {rows : List (List Int)} (h : smallMat rows) {i : Nat} (hi : i < rows.length) : smallRow (rows.getD i []) := by
  have : rows.getD i [] = rows[i] := by simp [List.getD, List.getElem?_eq_getElem hi]
  rw [this]
  exact h.2 _ (List.getElem_mem hi)

theorem small_cell {row : List Int} (h : smallRow row) {k : Nat} (hk : k < row.length) : 0 ≤ row.getD k 0 ∧ row.getD k 0 ≤ 2000 := by
  have : row.getD k 0 = row[k] := by simp [List.getD, List.getElem?_eq_getElem hk]
  rw [this]
  exact h.2 _ (List.getElem_mem hk)

abbrev mInv (i : Nat) (row : List Int) (k : Nat) (r : List Int) : Prop := k ≤ row.length ∧ r.length = k ∧ r ++ rowI i k (row.drop k) = rowI i 0 row

theorem mInv_step {i : Nat} {row : List Int} {k : Nat} {r : List Int} (h : mInv i row k r) (hk : k < row.length) : mInv i row (k + 1) (r ++ [cellI i k (row.getD k 0)]) := by
  obtain ⟨h1, h2, h3⟩ := h
  refine ⟨hk, by simp [h2], ?_⟩
  rw [rowI_step _ hk] at h3
  simpa using h3

end Go.Eng.Lp
