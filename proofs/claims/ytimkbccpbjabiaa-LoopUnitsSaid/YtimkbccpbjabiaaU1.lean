/- The law LoopUnits: for every input the law returns true, and its argument reads behind the call as before. Conditions: none. -/
import Derived.Test.YtimkbccpbjabiaaB2
import Derived.Test.YtimkbccpbjabiaaL20
namespace Go.Proofs.Ytimkbccpbjabiaa
open Go.Eng Go.Eng.Lp Go.ChangeShapes Go.WideShapes Go.ChangeAt Go.RowKit
set_option linter.all false
set_option maxRecDepth 100000

theorem h3L : Ok 3 (lawSpec [I64]) := ⟨fun w M x vs bs hM hA _ => h3.1 w M x vs bs hM hA trivial, h3.2⟩

theorem loopUnits_lifted (os : Os) (started : os.Started) (H : Type) (enc : TypeId × Value → H) :
    ReturnsInHanded {} Try.checked os 3 .any (Rows.loopUnitsSpec.pre6 enc Try.prog Try.f3 Rows.loopUnitsRow.domain false) (Rows.loopUnitsSpec.post enc Try.prog Try.f3 false true false false) :=
  law_lifted h3L Try.func3 (by kernel_rfl) ⟨by kernel_rfl, trivial⟩ rfl (by kernel_rfl) (by kernel_rfl) (by kernel_rfl)
    (fun H ds hl => by
      have hn : Try.f3.params.size = 1 := by kernel_rfl
      rw [hn] at hl
      match ds, hl with
      | [d], _ => rfl) os started H enc
    (ChangeSpec.witness6 (enc := enc) (C := Try.checked) false ⟨#[], #[.int .i64 0], []⟩ 8 (by kernel_rfl) (by kernel_rfl) (by kernel_rfl) (by kernel_rfl))

theorem loopUnits_holds : Rows.LoopUnitsSaid :=
  OpenClaim.holds_of_wide 3 Try.f3 rfl rfl rfl rfl rfl rfl rfl ⟨rfl, rfl, rfl, rfl, rfl⟩ rfl rfl rfl rfl rfl (by kernel_rfl) Try.func3 (by kernel_rfl)
    (of_decide_eq_true (by kernel_rfl)) (by unfold Func.isWrapper; first | (rw [if_pos (by decide +kernel)]; kernel_rfl) | (rw [if_neg (by decide +kernel)]; exact ⟨rfl, rfl⟩))
    (fun os started H enc _ => loopUnits_lifted os started H enc)
#print axioms loopUnits_holds
end Go.Proofs.Ytimkbccpbjabiaa
