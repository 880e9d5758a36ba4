/- The law LoopLesser: for every input the law returns true, and each argument reads behind the call as before. Conditions: none. -/
import Derived.Test.YtimkbccpbjabiaaB2
import Derived.Test.YtimkbccpbjabiaaL39
namespace Go.Proofs.Ytimkbccpbjabiaa
open Go.Eng Go.Eng.Lp Go.ChangeShapes Go.WideShapes Go.ChangeAt Go.RowKit
set_option linter.all false
set_option maxRecDepth 100000

theorem loopLesser_ok : Ok 13 (lawSpec [LoopT, I64, ArcT]) := ⟨fun w M x vs bs hM hA _ => h13.1 w M x vs bs hM hA trivial, h13.2⟩

theorem loopLesser_lifted (os : Os) (started : os.Started) (H : Type) (enc : TypeId × Value → H) :
    ReturnsInHanded {} Try.checked os 13 .any (Rows.loopLesserSpec.pre6 enc Try.prog Try.f13 Rows.loopLesserRow.domain false) (Rows.loopLesserSpec.post enc Try.prog Try.f13 false true false false) :=
  law_lifted loopLesser_ok Try.func13 (by kernel_rfl) ⟨by kernel_rfl, by kernel_rfl, by kernel_rfl, trivial⟩ rfl (by kernel_rfl) (by kernel_rfl) (by kernel_rfl)
    (fun H ds hl => by
      have hn : Try.f13.params.size = 3 := by kernel_rfl
      rw [hn] at hl
      match ds, hl with
      | [d0, d1, d2], _ => rfl) os started H enc
    (ChangeSpec.witness6 (enc := enc) (C := Try.checked) false ⟨#[], #[.agg #[.slice none 0 0, .int .i64 0], .int .i64 0, .agg #[.int .i64 0, .int .i64 0]], []⟩ 8 (by kernel_rfl) (by kernel_rfl) (by kernel_rfl) (by kernel_rfl))

theorem loopLesser_holds : Rows.LoopLesserSaid :=
  OpenClaim.holds_of_wide 13 Try.f13 rfl rfl rfl rfl rfl rfl rfl ⟨rfl, rfl, rfl, rfl, rfl⟩ rfl rfl rfl rfl rfl (by kernel_rfl) Try.func13 (by kernel_rfl)
    (of_decide_eq_true (by kernel_rfl)) (by unfold Func.isWrapper; first | (rw [if_pos (by decide +kernel)]; kernel_rfl) | (rw [if_neg (by decide +kernel)]; exact ⟨rfl, rfl⟩))
    (fun os started H enc _ => loopLesser_lifted os started H enc)
#print axioms loopLesser_holds
end Go.Proofs.Ytimkbccpbjabiaa
