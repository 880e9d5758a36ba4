/- The law LoopLinesOf: for every input the law returns true, and each argument reads behind the call as before. Conditions: none. -/
import Derived.Test.YtimkbccpbjabiaaB2
import Derived.Test.YtimkbccpbjabiaaL29
namespace Go.Proofs.Ytimkbccpbjabiaa
open Go.Eng Go.Eng.Lp Go.ChangeShapes Go.WideShapes Go.ChangeAt Go.RowKit
set_option linter.all false
set_option maxRecDepth 100000

theorem loopLinesOf_ok : Ok 9 (lawSpec [(.sl (.sl LoopT))]) := ⟨fun w M x vs bs hM hA _ => h9.1 w M x vs bs hM hA trivial, h9.2⟩

theorem loopLinesOf_lifted (os : Os) (started : os.Started) (H : Type) (enc : TypeId × Value → H) :
    ReturnsInHanded {} Try.checked os 9 .any (Rows.loopLinesOfSpec.pre6 enc Try.prog Try.f9 Rows.loopLinesOfRow.domain false) (Rows.loopLinesOfSpec.post enc Try.prog Try.f9 false true false false) :=
  law_lifted loopLinesOf_ok Try.func9 (by kernel_rfl) ⟨by kernel_rfl, trivial⟩ rfl (by kernel_rfl) (by kernel_rfl) (by kernel_rfl)
    (fun H ds hl => by
      have hn : Try.f9.params.size = 1 := by kernel_rfl
      rw [hn] at hl
      match ds, hl with
      | [d0], _ => rfl) os started H enc
    (ChangeSpec.witness6 (enc := enc) (C := Try.checked) false ⟨#[], #[.slice none 0 0], []⟩ 8 (by kernel_rfl) (by kernel_rfl) (by kernel_rfl) (by kernel_rfl))

theorem loopLinesOf_holds : Rows.LoopLinesOfSaid :=
  OpenClaim.holds_of_wide 9 Try.f9 rfl rfl rfl rfl rfl rfl rfl ⟨rfl, rfl, rfl, rfl, rfl⟩ rfl rfl rfl rfl rfl (by kernel_rfl) Try.func9 (by kernel_rfl)
    (of_decide_eq_true (by kernel_rfl)) (by unfold Func.isWrapper; first | (rw [if_pos (by decide +kernel)]; kernel_rfl) | (rw [if_neg (by decide +kernel)]; exact ⟨rfl, rfl⟩))
    (fun os started H enc _ => loopLinesOf_lifted os started H enc)
#print axioms loopLinesOf_holds
end Go.Proofs.Ytimkbccpbjabiaa
