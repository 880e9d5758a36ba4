/- The law PulseExcites: for every input the law returns true, and each argument reads behind the call as before. Conditions: none. -/
import Derived.Test.YtcoimlnplaidiaaB2
import Derived.Test.YtcoimlnplaidiaaQ50
namespace Go.Proofs.Ytcoimlnplaidiaa
open Go.Eng Go.Eng.Pu Go.ChangeShapes Go.WideShapes Go.ChangeAt Go.RowKit
set_option linter.all false
set_option maxRecDepth 100000

theorem pulseExcites_ok : Ok 4 (lawSpec [(.sl RawT), StartT, I64]) := ⟨fun w M x vs bs hM hA _ => h4.1 w M x vs bs hM hA trivial, h4.2⟩

theorem pulseExcites_lifted (os : Os) (started : os.Started) (H : Type) (enc : TypeId × Value → H) :
    ReturnsInHanded {} Try.checked os 4 .any (Rows.pulseExcitesSpec.pre6 enc Try.prog Try.f4 Rows.pulseExcitesRow.domain false) (Rows.pulseExcitesSpec.post enc Try.prog Try.f4 false true false false) :=
  law_lifted pulseExcites_ok Try.func4 (by kernel_rfl) ⟨by kernel_rfl, by kernel_rfl, by kernel_rfl, trivial⟩ rfl (by kernel_rfl) (by kernel_rfl) (by kernel_rfl)
    (fun H ds hl => by
      have hn : Try.f4.params.size = 3 := by kernel_rfl
      rw [hn] at hl
      match ds, hl with
      | [d0, d1, d2], _ => rfl) os started H enc
    (ChangeSpec.witness6 (enc := enc) (C := Try.checked) false ⟨#[], #[.slice none 0 0, .agg #[.int .i64 0, .slice none 0 0, .int .i64 0], .int .i64 0], []⟩ 8 (by kernel_rfl) (by kernel_rfl) (by kernel_rfl) (by kernel_rfl))

theorem pulseExcites_holds : Rows.PulseExcitesSaid :=
  OpenClaim.holds_of_wide 4 Try.f4 rfl rfl rfl rfl rfl rfl rfl ⟨rfl, rfl, rfl, rfl, rfl⟩ rfl rfl rfl rfl rfl (by kernel_rfl) Try.func4 (by kernel_rfl)
    (of_decide_eq_true (by kernel_rfl)) (by unfold Func.isWrapper; first | (rw [if_pos (by decide +kernel)]; kernel_rfl) | (rw [if_neg (by decide +kernel)]; exact ⟨rfl, rfl⟩))
    (fun os started H enc _ => pulseExcites_lifted os started H enc)
#print axioms pulseExcites_holds
end Go.Proofs.Ytcoimlnplaidiaa
