/- The law TopNothingRings: for every input the law returns true, and each argument reads behind the call as before. Conditions: none. -/
import Derived.Test.YtdphhjibkjlmcaaB2
import Derived.Test.YtdphhjibkjlmcaaT2
namespace Go.Proofs.Ytdphhjibkjlmcaa
open Go.Eng Go.Eng.Lp Go.ChangeShapes Go.WideShapes Go.ChangeAt Go.RowKit
set_option linter.all false
set_option maxRecDepth 100000

theorem topNothingRings_ok : Ok 4 (lawSpec [(.sl LoopT), RingT]) := ⟨fun w M x vs bs hM hA _ => hNothing.1 w M x vs bs hM hA trivial, hNothing.2⟩

theorem topNothingRings_lifted (os : Os) (started : os.Started) (H : Type) (enc : TypeId × Value → H) :
    ReturnsInHanded {} Try.checked os 4 .any (Rows.topNothingRingsSpec.pre6 enc Try.prog Try.f4 Rows.topNothingRingsRow.domain false) (Rows.topNothingRingsSpec.post enc Try.prog Try.f4 false true false false) :=
  law_lifted topNothingRings_ok Try.func4 (by kernel_rfl) ⟨by kernel_rfl, by kernel_rfl, trivial⟩ rfl (by kernel_rfl) (by kernel_rfl) (by kernel_rfl)
    (fun H ds hl => by
      have hn : Try.f4.params.size = 2 := by kernel_rfl
      rw [hn] at hl
      match ds, hl with
      | [d0, d1], _ => rfl) os started H enc
    (ChangeSpec.witness6 (enc := enc) (C := Try.checked) false ⟨#[], #[.slice none 0 0, .agg #[.int .i64 0, .int .i64 0, .int .i64 0, .int .i64 0]], []⟩ 8 (by kernel_rfl) (by kernel_rfl) (by kernel_rfl) (by kernel_rfl))

theorem topNothingRings_holds : Rows.TopNothingRingsSaid :=
  OpenClaim.holds_of_wide 4 Try.f4 rfl rfl rfl rfl rfl rfl rfl ⟨rfl, rfl, rfl, rfl, rfl⟩ rfl rfl rfl rfl rfl (by kernel_rfl) Try.func4 (by kernel_rfl)
    (of_decide_eq_true (by kernel_rfl)) (by unfold Func.isWrapper; first | (rw [if_pos (by decide +kernel)]; kernel_rfl) | (rw [if_neg (by decide +kernel)]; exact ⟨rfl, rfl⟩))
    (fun os started H enc _ => topNothingRings_lifted os started H enc)
#print axioms topNothingRings_holds
end Go.Proofs.Ytdphhjibkjlmcaa
