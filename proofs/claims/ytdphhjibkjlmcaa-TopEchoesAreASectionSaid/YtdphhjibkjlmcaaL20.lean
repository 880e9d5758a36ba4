/- Contract of ref.Unit; the law LoopUnits returns true. Conditions: Unit: the table is the right one. -/
import Derived.Test.YtdphhjibkjlmcaaL19
namespace Go.Eng.Lp
open Go.Eng Go.Proofs
set_option linter.all false
set_option maxRecDepth 100000
set_option maxHeartbeats 8000000

theorem turn_rot : ∀ (n : Nat) (x y : Int), turn (n + 1) x y = (-(turn n x y).2, (turn n x y).1)
  | 0, x, y => rfl
  | n + 1, x, y => by
    have := turn_rot n (-y) x
    simp only [turn] at this ⊢
    exact this

@[irreducible] def theTable : List IIU := tableI
theorem theTable_eq : theTable = tableI := by unfold theTable; rfl
theorem theTable_len : theTable.length = 1025 := by rw [theTable_eq]; exact tab_len _ _
theorem theTable_get {i : Nat} (h : i < 1025) (d : IIU) : theTable.getD i d = wI i := by rw [theTable_eq]; exact tab_get wI d 1025 i h

@[reducible] def sTable' : Spec := { pats := [], res := [{ t := .sl DirT }], pre := fun _ => True, f := fun _ => (theTable, ()) }
@[reducible] def sRefUnit : Spec := { pats := [.dat (.sl DirT), .dat I64], res := [{ t := Ball }], pre := fun x => x.1 = theTable, f := fun x => (unitI x.2.1, ()) }

def ruAnn (m : Int) : LoopAnn := { σ := Nat, pat := fun i => [sI 6 i, cI 5 0 (turn i (wI (m % 1024).toNat).1 (wI (m % 1024).toNat).2.1).1, cI 5 1 (turn i (wI (m % 1024).toNat).1 (wI (m % 1024).toNat).2.1).2], inv := fun i => (i : Int) ≤ m % 4096 / 1024, meas := fun i => 4 - i }

@[reducible] def sLoopUnits : Spec := { pats := [.dat I64], res := [{ t := .bool }], pre := fun _ => True, f := fun _ => (true, ()) }

end Go.Eng.Lp
