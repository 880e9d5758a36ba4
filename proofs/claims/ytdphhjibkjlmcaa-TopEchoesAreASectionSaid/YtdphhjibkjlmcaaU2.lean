/- The law TopEchoesAreASection: for every input the law returns true, and each argument reads behind the call as before. Conditions: none. -/
import Derived.Test.YtdphhjibkjlmcaaB2
import Derived.Test.YtdphhjibkjlmcaaT3
namespace Go.Proofs.Ytdphhjibkjlmcaa
open Go.Eng Go.Eng.Lp Go.ChangeShapes Go.WideShapes Go.ChangeAt Go.RowKit
set_option linter.all false
set_option maxRecDepth 100000

theorem topEchoesAreASection_ok : Ok 3 (lawSpec [A2, I64, I64]) := ⟨fun w M x vs bs hM hA _ => hSection.1 w M x vs bs hM hA trivial, hSection.2⟩

theorem topEchoesAreASection_lifted (os : Os) (started : os.Started) (H : Type) (enc : TypeId × Value → H) :
    ReturnsInHanded {} Try.checked os 3 .any (Rows.topEchoesAreASectionSpec.pre6 enc Try.prog Try.f3 Rows.topEchoesAreASectionRow.domain false) (Rows.topEchoesAreASectionSpec.post enc Try.prog Try.f3 false true false false) :=
  law_lifted topEchoesAreASection_ok Try.func3 (by kernel_rfl) ⟨by kernel_rfl, by kernel_rfl, by kernel_rfl, trivial⟩ rfl (by kernel_rfl) (by kernel_rfl) (by kernel_rfl)
    (fun H ds hl => by
      have hn : Try.f3.params.size = 3 := by kernel_rfl
      rw [hn] at hl
      match ds, hl with
      | [d0, d1, d2], _ => rfl) os started H enc
    (ChangeSpec.witness6 (enc := enc) (C := Try.checked) false ⟨#[], #[.agg #[.int .i64 0, .int .i64 0], .int .i64 0, .int .i64 0], []⟩ 8 (by kernel_rfl) (by kernel_rfl) (by kernel_rfl) (by kernel_rfl))

theorem topEchoesAreASection_holds : Rows.TopEchoesAreASectionSaid :=
  OpenClaim.holds_of_wide 3 Try.f3 rfl rfl rfl rfl rfl rfl rfl ⟨rfl, rfl, rfl, rfl, rfl⟩ rfl rfl rfl rfl rfl (by kernel_rfl) Try.func3 (by kernel_rfl)
    (of_decide_eq_true (by kernel_rfl)) (by unfold Func.isWrapper; first | (rw [if_pos (by decide +kernel)]; kernel_rfl) | (rw [if_neg (by decide +kernel)]; exact ⟨rfl, rfl⟩))
    (fun os started H enc _ => topEchoesAreASection_lifted os started H enc)
#print axioms topEchoesAreASection_holds
end Go.Proofs.Ytdphhjibkjlmcaa
