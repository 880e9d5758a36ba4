/- Contract of awake: the closed examples hold. Conditions: none. -/
import Derived.Test.YtdphhjibkjlmcaaL16
namespace Go.Eng.Lp
open Go.Eng Go.Proofs
set_option linter.all false
set_option maxRecDepth 100000
set_option maxHeartbeats 8000000

theorem aw1 : fValueAt [0, 8192] 1000 1024 = ((0, -524288, 0, ()), 0) := by kernel_rfl
theorem aw2 : (fArcBall [0, 8192] 1000 0 2048).1.2.2.1 = 823657 := by kernel_rfl
theorem aw2e : (fArcBall [0, 8192] 1000 0 2048).2 = 0 := by kernel_rfl
theorem aw3 : fEchoes [0, 8192] 1000 100 5 = ([100, 50, 25, 13, 7], 0) := by kernel_rfl
theorem aw4 : fMinors [[500, 400], [300, 200]] = ([500, 280000], 0) := by kernel_rfl

@[reducible] def sAwake : Spec := { pats := [], res := [{ t := .bool }], pre := fun _ => True, f := fun _ => (true, ()) }

end Go.Eng.Lp
