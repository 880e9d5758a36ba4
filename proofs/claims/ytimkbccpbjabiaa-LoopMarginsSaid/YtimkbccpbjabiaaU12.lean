/- The law LoopMargins: for every input the law returns true, and each argument reads behind the call as before. Conditions: none. -/
import Derived.Test.YtimkbccpbjabiaaB2
import Derived.Test.YtimkbccpbjabiaaL42
namespace Go.Proofs.Ytimkbccpbjabiaa
open Go.Eng Go.Eng.Lp Go.ChangeShapes Go.WideShapes Go.ChangeAt Go.RowKit
set_option linter.all false
set_option maxRecDepth 100000

theorem loopMargins_ok : Ok 15 (lawSpec [(.sl LoopT)]) := ⟨fun w M x vs bs hM hA _ => h15.1 w M x vs bs hM hA trivial, h15.2⟩

theorem loopMargins_lifted (os : Os) (started : os.Started) (H : Type) (enc : TypeId × Value → H) :
    ReturnsInHanded {} Try.checked os 15 .any (Rows.loopMarginsSpec.pre6 enc Try.prog Try.f15 Rows.loopMarginsRow.domain false) (Rows.loopMarginsSpec.post enc Try.prog Try.f15 false true false false) :=
  law_lifted loopMargins_ok Try.func15 (by kernel_rfl) ⟨by kernel_rfl, trivial⟩ rfl (by kernel_rfl) (by kernel_rfl) (by kernel_rfl)
    (fun H ds hl => by
      have hn : Try.f15.params.size = 1 := by kernel_rfl
      rw [hn] at hl
      match ds, hl with
      | [d0], _ => rfl) os started H enc
    (ChangeSpec.witness6 (enc := enc) (C := Try.checked) false ⟨#[], #[.slice none 0 0], []⟩ 8 (by kernel_rfl) (by kernel_rfl) (by kernel_rfl) (by kernel_rfl))

theorem loopMargins_holds : Rows.LoopMarginsSaid :=
  OpenClaim.holds_of_wide 15 Try.f15 rfl rfl rfl rfl rfl rfl rfl ⟨rfl, rfl, rfl, rfl, rfl⟩ rfl rfl rfl rfl rfl (by kernel_rfl) Try.func15 (by kernel_rfl)
    (of_decide_eq_true (by kernel_rfl)) (by unfold Func.isWrapper; first | (rw [if_pos (by decide +kernel)]; kernel_rfl) | (rw [if_neg (by decide +kernel)]; exact ⟨rfl, rfl⟩))
    (fun os started H enc _ => loopMargins_lifted os started H enc)
#print axioms loopMargins_holds
end Go.Proofs.Ytimkbccpbjabiaa
