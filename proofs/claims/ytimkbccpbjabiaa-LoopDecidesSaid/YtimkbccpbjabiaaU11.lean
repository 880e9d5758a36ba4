/- The law LoopDecides: for every input the law returns true, and each argument reads behind the call as before. Conditions: none. -/
import Derived.Test.YtimkbccpbjabiaaB2
import Derived.Test.YtimkbccpbjabiaaL38
namespace Go.Proofs.Ytimkbccpbjabiaa
open Go.Eng Go.Eng.Lp Go.ChangeShapes Go.WideShapes Go.ChangeAt Go.RowKit
set_option linter.all false
set_option maxRecDepth 100000

theorem loopDecides_ok : Ok 14 (lawSpec [LoopT]) := ⟨fun w M x vs bs hM hA _ => h14.1 w M x vs bs hM hA trivial, h14.2⟩

theorem loopDecides_lifted (os : Os) (started : os.Started) (H : Type) (enc : TypeId × Value → H) :
    ReturnsInHanded {} Try.checked os 14 .any (Rows.loopDecidesSpec.pre6 enc Try.prog Try.f14 Rows.loopDecidesRow.domain false) (Rows.loopDecidesSpec.post enc Try.prog Try.f14 false true false false) :=
  law_lifted loopDecides_ok Try.func14 (by kernel_rfl) ⟨by kernel_rfl, trivial⟩ rfl (by kernel_rfl) (by kernel_rfl) (by kernel_rfl)
    (fun H ds hl => by
      have hn : Try.f14.params.size = 1 := by kernel_rfl
      rw [hn] at hl
      match ds, hl with
      | [d0], _ => rfl) os started H enc
    (ChangeSpec.witness6 (enc := enc) (C := Try.checked) false ⟨#[], #[.agg #[.slice none 0 0, .int .i64 0]], []⟩ 8 (by kernel_rfl) (by kernel_rfl) (by kernel_rfl) (by kernel_rfl))

theorem loopDecides_holds : Rows.LoopDecidesSaid :=
  OpenClaim.holds_of_wide 14 Try.f14 rfl rfl rfl rfl rfl rfl rfl ⟨rfl, rfl, rfl, rfl, rfl⟩ rfl rfl rfl rfl rfl (by kernel_rfl) Try.func14 (by kernel_rfl)
    (of_decide_eq_true (by kernel_rfl)) (by unfold Func.isWrapper; first | (rw [if_pos (by decide +kernel)]; kernel_rfl) | (rw [if_neg (by decide +kernel)]; exact ⟨rfl, rfl⟩))
    (fun os started H enc _ => loopDecides_lifted os started H enc)
#print axioms loopDecides_holds
end Go.Proofs.Ytimkbccpbjabiaa
