/- The law PulseTakes: for every input the law returns true, and each argument reads behind the call as before. Conditions: none. -/
import Derived.Test.YtcoimlnplaidiaaB2
import Derived.Test.YtcoimlnplaidiaaQ61
namespace Go.Proofs.Ytcoimlnplaidiaa
open Go.Eng Go.Eng.Pu Go.ChangeShapes Go.WideShapes Go.ChangeAt Go.RowKit
set_option linter.all false
set_option maxRecDepth 100000

theorem pulseTakes_ok : Ok 10 (lawSpec [(.sl (.sl RawT)), I64]) := ⟨fun w M x vs bs hM hA _ => h10.1 w M x vs bs hM hA trivial, h10.2⟩

theorem pulseTakes_lifted (os : Os) (started : os.Started) (H : Type) (enc : TypeId × Value → H) :
    ReturnsInHanded {} Try.checked os 10 .any (Rows.pulseTakesSpec.pre6 enc Try.prog Try.f10 Rows.pulseTakesRow.domain false) (Rows.pulseTakesSpec.post enc Try.prog Try.f10 false true false false) :=
  law_lifted pulseTakes_ok Try.func10 (by kernel_rfl) ⟨by kernel_rfl, by kernel_rfl, trivial⟩ rfl (by kernel_rfl) (by kernel_rfl) (by kernel_rfl)
    (fun H ds hl => by
      have hn : Try.f10.params.size = 2 := by kernel_rfl
      rw [hn] at hl
      match ds, hl with
      | [d0, d1], _ => rfl) os started H enc
    (ChangeSpec.witness6 (enc := enc) (C := Try.checked) false ⟨#[], #[.slice none 0 0, .int .i64 0], []⟩ 8 (by kernel_rfl) (by kernel_rfl) (by kernel_rfl) (by kernel_rfl))

theorem pulseTakes_holds : Rows.PulseTakesSaid :=
  OpenClaim.holds_of_wide 10 Try.f10 rfl rfl rfl rfl rfl rfl rfl ⟨rfl, rfl, rfl, rfl, rfl⟩ rfl rfl rfl rfl rfl (by kernel_rfl) Try.func10 (by kernel_rfl)
    (of_decide_eq_true (by kernel_rfl)) (by unfold Func.isWrapper; first | (rw [if_pos (by decide +kernel)]; kernel_rfl) | (rw [if_neg (by decide +kernel)]; exact ⟨rfl, rfl⟩))
    (fun os started H enc _ => pulseTakes_lifted os started H enc)
#print axioms pulseTakes_holds
end Go.Proofs.Ytcoimlnplaidiaa
