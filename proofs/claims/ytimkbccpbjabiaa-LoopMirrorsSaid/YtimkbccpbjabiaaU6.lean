/- The law LoopMirrors: for every input the law returns true, and each argument reads behind the call as before. Conditions: none. -/
import Derived.Test.YtimkbccpbjabiaaB2
import Derived.Test.YtimkbccpbjabiaaL26
namespace Go.Proofs.Ytimkbccpbjabiaa
open Go.Eng Go.Eng.Lp Go.ChangeShapes Go.WideShapes Go.ChangeAt Go.RowKit
set_option linter.all false
set_option maxRecDepth 100000

theorem loopMirrors_ok : Ok 5 (lawSpec [LoopT, I64, ArcT]) := ⟨fun w M x vs bs hM hA _ => h5.1 w M x vs bs hM hA trivial, h5.2⟩

theorem loopMirrors_lifted (os : Os) (started : os.Started) (H : Type) (enc : TypeId × Value → H) :
    ReturnsInHanded {} Try.checked os 5 .any (Rows.loopMirrorsSpec.pre6 enc Try.prog Try.f5 Rows.loopMirrorsRow.domain false) (Rows.loopMirrorsSpec.post enc Try.prog Try.f5 false true false false) :=
  law_lifted loopMirrors_ok Try.func5 (by kernel_rfl) ⟨by kernel_rfl, by kernel_rfl, by kernel_rfl, trivial⟩ rfl (by kernel_rfl) (by kernel_rfl) (by kernel_rfl)
    (fun H ds hl => by
      have hn : Try.f5.params.size = 3 := by kernel_rfl
      rw [hn] at hl
      match ds, hl with
      | [d0, d1, d2], _ => rfl) os started H enc
    (ChangeSpec.witness6 (enc := enc) (C := Try.checked) false ⟨#[], #[.agg #[.slice none 0 0, .int .i64 0], .int .i64 0, .agg #[.int .i64 0, .int .i64 0]], []⟩ 8 (by kernel_rfl) (by kernel_rfl) (by kernel_rfl) (by kernel_rfl))

theorem loopMirrors_holds : Rows.LoopMirrorsSaid :=
  OpenClaim.holds_of_wide 5 Try.f5 rfl rfl rfl rfl rfl rfl rfl ⟨rfl, rfl, rfl, rfl, rfl⟩ rfl rfl rfl rfl rfl (by kernel_rfl) Try.func5 (by kernel_rfl)
    (of_decide_eq_true (by kernel_rfl)) (by unfold Func.isWrapper; first | (rw [if_pos (by decide +kernel)]; kernel_rfl) | (rw [if_neg (by decide +kernel)]; exact ⟨rfl, rfl⟩))
    (fun os started H enc _ => loopMirrors_lifted os started H enc)
#print axioms loopMirrors_holds
end Go.Proofs.Ytimkbccpbjabiaa
