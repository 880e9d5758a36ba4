/- Contract of CheckLines. Conditions: none. -/
import Derived.Test.YtdphhjibkjlmcaaL8
namespace Go.Eng.Lp
open Go.Eng Go.Proofs
set_option linter.all false
set_option maxRecDepth 100000
set_option maxHeartbeats 8000000

def clRow : List Int → Int
  | [] => 0
  | n :: r => if 0 ≤ n ∧ n ≤ 2000 then clRow r else 2
def clRows (N : Nat) : List (List Int) → Int
  | [] => 0
  | r :: t => if r.length = N then (if clRow r = 0 then clRows N t else 2) else 10
def fCheckLines (rows : List (List Int)) : Int := if fCountErr rows.length = 0 then clRows rows.length rows else fCountErr rows.length

theorem clRow_two : ∀ row : List Int, clRow row = 0 ∨ clRow row = 2
  | [] => .inl rfl
  | n :: r => by
    simp only [clRow]
    split
    · exact clRow_two r
    · exact .inr rfl

theorem clRow_step {row : List Int} {k : Nat} (h : k < row.length) : clRow (row.drop k) = if 0 ≤ row.getD k 0 ∧ row.getD k 0 ≤ 2000 then clRow (row.drop (k + 1)) else 2 := by
  rw [drop_get h]; rfl
theorem clRows_step {N : Nat} {rows : List (List Int)} {i : Nat} (h : i < rows.length) :
    clRows N (rows.drop i) = if (rows.getD i []).length = N then (if clRow (rows.getD i []) = 0 then clRows N (rows.drop (i + 1)) else 2) else 10 := by
  rw [drop_getL h]; rfl

theorem count_le {n : Nat} (h : fCountErr n = 0) : n ≤ 4 := by
  simp only [fCountErr] at h
  split at h
  · split at h
    · omega
    · omega
  · omega

def clInner (st : St) : LoopAnn := { σ := Nat × Unit, pat := fun s => [sI 30 s.1], inv := fun s => s.1 ≤ (getL 28 st).length ∧ clRow ((getL 28 st).drop s.1) = clRow (getL 28 st), meas := fun s => (getL 28 st).length - s.1 }
def clOuter (rows : List (List Int)) : LoopAnn := { σ := Nat × Unit, pat := fun s => [sI 18 s.1], inv := fun s => s.1 ≤ rows.length ∧ clRows rows.length (rows.drop s.1) = clRows rows.length rows, meas := fun s => rows.length - s.1 }

@[reducible] def sCheckLines : Spec := { pats := [.dat LinesT], res := [{ t := I64 }], pre := fun x => True, f := fun x => (fCheckLines x.1.1, ()) }

end Go.Eng.Lp
