/- The law PulseTransforms: for every input the law returns true, and each argument reads behind the call as before. Conditions: none. -/
import Derived.Test.YtcoimlnplaidiaaB2
import Derived.Test.YtcoimlnplaidiaaQ36
namespace Go.Proofs.Ytcoimlnplaidiaa
open Go.Eng Go.Eng.Pu Go.ChangeShapes Go.WideShapes Go.ChangeAt Go.RowKit
set_option linter.all false
set_option maxRecDepth 100000

theorem pulseTransforms_ok : Ok 5 (lawSpec [(.sl I64), Fld0]) := ⟨fun w M x vs bs hM hA _ => h5.1 w M x vs bs hM hA trivial, h5.2⟩

theorem pulseTransforms_lifted (os : Os) (started : os.Started) (H : Type) (enc : TypeId × Value → H) :
    ReturnsInHanded {} Try.checked os 5 .any (Rows.pulseTransformsSpec.pre6 enc Try.prog Try.f5 Rows.pulseTransformsRow.domain false) (Rows.pulseTransformsSpec.post enc Try.prog Try.f5 false true false false) :=
  law_lifted pulseTransforms_ok Try.func5 (by kernel_rfl) ⟨by kernel_rfl, by kernel_rfl, trivial⟩ rfl (by kernel_rfl) (by kernel_rfl) (by kernel_rfl)
    (fun H ds hl => by
      have hn : Try.f5.params.size = 2 := by kernel_rfl
      rw [hn] at hl
      match ds, hl with
      | [d0, d1], _ => rfl) os started H enc
    (ChangeSpec.witness6 (enc := enc) (C := Try.checked) false ⟨#[], #[.slice none 0 0, .agg #[.int .i64 0, .int .i64 0, .int .i64 0]], []⟩ 8 (by kernel_rfl) (by kernel_rfl) (by kernel_rfl) (by kernel_rfl))

theorem pulseTransforms_holds : Rows.PulseTransformsSaid :=
  OpenClaim.holds_of_wide 5 Try.f5 rfl rfl rfl rfl rfl rfl rfl ⟨rfl, rfl, rfl, rfl, rfl⟩ rfl rfl rfl rfl rfl (by kernel_rfl) Try.func5 (by kernel_rfl)
    (of_decide_eq_true (by kernel_rfl)) (by unfold Func.isWrapper; first | (rw [if_pos (by decide +kernel)]; kernel_rfl) | (rw [if_neg (by decide +kernel)]; exact ⟨rfl, rfl⟩))
    (fun os started H enc _ => pulseTransforms_lifted os started H enc)
#print axioms pulseTransforms_holds
end Go.Proofs.Ytcoimlnplaidiaa
