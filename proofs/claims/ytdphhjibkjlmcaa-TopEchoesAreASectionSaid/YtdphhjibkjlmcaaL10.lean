/- Contract of without. Conditions: at most 4 rows of at most 4 numbers. -/
import Derived.Test.YtdphhjibkjlmcaaL9
namespace Go.Eng.Lp
open Go.Eng Go.Proofs
set_option linter.all false
set_option maxRecDepth 100000
set_option maxHeartbeats 8000000

def dropCol (c : Int) : Nat → List Int → List Int
  | _, [] => []
  | k, n :: r => if (k : Int) = c then dropCol c (k + 1) r else n :: dropCol c (k + 1) r
def dropRow (rw' c : Int) : Nat → List (List Int) → List (List Int)
  | _, [] => []
  | i, r :: t => if (i : Int) = rw' then dropRow rw' c (i + 1) t else dropCol c 0 r :: dropRow rw' c (i + 1) t

theorem dropCol_step (c : Int) {row : List Int} {k : Nat} (h : k < row.length) : dropCol c k (row.drop k) = if (k : Int) = c then dropCol c (k + 1) (row.drop (k + 1)) else row.getD k 0 :: dropCol c (k + 1) (row.drop (k + 1)) := by
  rw [drop_get h]; rfl
theorem dropRow_step (rw' c : Int) {rows : List (List Int)} {i : Nat} (h : i < rows.length) : dropRow rw' c i (rows.drop i) = if (i : Int) = rw' then dropRow rw' c (i + 1) (rows.drop (i + 1)) else dropCol c 0 (rows.getD i []) :: dropRow rw' c (i + 1) (rows.drop (i + 1)) := by
  rw [drop_getL h]; rfl

def dimMat (rows : List (List Int)) : Prop := rows.length ≤ 4 ∧ ∀ r ∈ rows, r.length ≤ 4
theorem dim_row {rows : List (List Int)} (h : dimMat rows) {i : Nat} (hi : i < rows.length) : (rows.getD i []).length ≤ 4 := by
  have : rows.getD i [] = rows[i] := by simp [List.getD, List.getElem?_eq_getElem hi]
  rw [this]
  exact h.2 _ (List.getElem_mem hi)

abbrev wInv (c : Int) (row : List Int) (k : Nat) (r : List Int) : Prop := k ≤ row.length ∧ r.length ≤ k ∧ r ++ dropCol c k (row.drop k) = dropCol c 0 row
abbrev oInv (rw' c : Int) (rows : List (List Int)) (i : Nat) (m : List (List Int)) : Prop := i ≤ rows.length ∧ m.length ≤ i ∧ m ++ dropRow rw' c i (rows.drop i) = dropRow rw' c 0 rows

def wInner (st : St) : LoopAnn := { σ := Nat × List Int, pat := fun s => sI 25 s.1 :: sOwn 10 60010 3 s.2, inv := fun s => wInv (getI 2 st) (getL 23 st) s.1 s.2, meas := fun s => (getL 23 st).length - s.1 }
def wOuter (rw' c : Int) (rows : List (List Int)) : LoopAnn := { σ := Nat × List (List Int), pat := fun s => sI 15 s.1 :: sOwn2 7 60007 25 s.2, inv := fun s => oInv rw' c rows s.1 s.2, meas := fun s => rows.length - s.1 }

@[reducible] def sWithout : Spec := { pats := [.dat MatT, .dat I64, .dat I64], res := [{ t := MatT }], pre := fun x => dimMat x.1, f := fun x => (dropRow x.2.1 x.2.2.1 0 x.1, ()) }

end Go.Eng.Lp
