/- The law PulseSweeps: for every input the law returns true, and each argument reads behind the call as before. Conditions: none. -/
import Derived.Test.YtcoimlnplaidiaaB2
import Derived.Test.YtcoimlnplaidiaaQ54
namespace Go.Proofs.Ytcoimlnplaidiaa
open Go.Eng Go.Eng.Pu Go.ChangeShapes Go.WideShapes Go.ChangeAt Go.RowKit
set_option linter.all false
set_option maxRecDepth 100000

theorem pulseSweeps_ok : Ok 13 (lawSpec [(.sl RawT), (.sl RawT)]) := ⟨fun w M x vs bs hM hA _ => h13.1 w M x vs bs hM hA trivial, h13.2⟩

theorem pulseSweeps_lifted (os : Os) (started : os.Started) (H : Type) (enc : TypeId × Value → H) :
    ReturnsInHanded {} Try.checked os 13 .any (Rows.pulseSweepsSpec.pre6 enc Try.prog Try.f13 Rows.pulseSweepsRow.domain false) (Rows.pulseSweepsSpec.post enc Try.prog Try.f13 false true false false) :=
  law_lifted pulseSweeps_ok Try.func13 (by kernel_rfl) ⟨by kernel_rfl, by kernel_rfl, trivial⟩ rfl (by kernel_rfl) (by kernel_rfl) (by kernel_rfl)
    (fun H ds hl => by
      have hn : Try.f13.params.size = 2 := by kernel_rfl
      rw [hn] at hl
      match ds, hl with
      | [d0, d1], _ => rfl) os started H enc
    (ChangeSpec.witness6 (enc := enc) (C := Try.checked) false ⟨#[], #[.slice none 0 0, .slice none 0 0], []⟩ 8 (by kernel_rfl) (by kernel_rfl) (by kernel_rfl) (by kernel_rfl))

theorem pulseSweeps_holds : Rows.PulseSweepsSaid :=
  OpenClaim.holds_of_wide 13 Try.f13 rfl rfl rfl rfl rfl rfl rfl ⟨rfl, rfl, rfl, rfl, rfl⟩ rfl rfl rfl rfl rfl (by kernel_rfl) Try.func13 (by kernel_rfl)
    (of_decide_eq_true (by kernel_rfl)) (by unfold Func.isWrapper; first | (rw [if_pos (by decide +kernel)]; kernel_rfl) | (rw [if_neg (by decide +kernel)]; exact ⟨rfl, rfl⟩))
    (fun os started H enc _ => pulseSweeps_lifted os started H enc)
#print axioms pulseSweeps_holds
end Go.Proofs.Ytcoimlnplaidiaa
