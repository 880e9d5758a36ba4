/- The law TopSweepAndSequence: for every input the law returns true, and each argument reads behind the call as before. Conditions: none. -/
import Derived.Test.YtcoimlnplaidiaaDoorWC3
import Derived.Test.YtcoimlnplaidiaaDoorTie
import Derived.Test.YtcoimlnplaidiaaDoorCards
import Derived.SevenTiedAt
import Derived.Test.YtcoimlnplaidiaaDoorWC16
namespace Go.Proofs.YtcoimlnplaidiaaDoor
open Go.Eng Go.Eng.Pu Go.ChangeShapes Go.WideShapes Go.ChangeAt Go.RowKit
set_option linter.all false
set_option maxRecDepth 100000

theorem topSweepAndSequence_ok : Ok 4 (lawSpecG [(.sl PairT), StartT', PairT]) := ⟨fun w M x vs bs hM hA hp => h4d.1 w M x vs bs hM hA hp.1, h4d.2⟩

theorem topSweepAndSequence_lifted (os : Os) (started : os.Started) (H : Type) (enc : TypeId × Value → H) :
    ReturnsInHanded {} Tryd.checked os 4 .any (fun w args => (Rows.topSweepAndSequenceSpec.pre enc Tryd.prog Tryd.f4 [] false w args ∧ laidMetH Tryd.prog laidG w) ∧ sizedMet enc Tryd.prog Tryd.f4 (OpenSpec.ofChange Rows.topSweepAndSequenceSpec) false w args) (Rows.topSweepAndSequenceSpec.post enc Tryd.prog Tryd.f4 false true false false) :=
  law_lifted topSweepAndSequence_ok Tryd.func4 (by kernel_rfl) ⟨by kernel_rfl, by kernel_rfl, by kernel_rfl, trivial⟩ rfl (by kernel_rfl) (by kernel_rfl) (by kernel_rfl)
    (fun H ds hl => by
      have hn : Tryd.f4.params.size = 3 := by kernel_rfl
      rw [hn] at hl
      match ds, hl with
      | [d0, d1, d2], _ => rfl) os started H enc
    (ChangeSpec.witness_shaped (enc := enc) (C := Tryd.checked) (os := os) (X := fun w _ => laidMetH Tryd.prog laidG w) false (World.doorLaid Tryd.prog 400 os) #[.slice none 0 0, .agg #[.int .i64 0, .slice none 0 0, .int .i64 0], .agg #[.int .i64 0, .int .i64 0]] 8 rfl (World.shaped_of_RefB (by kernel_rfl) (by kernel_rfl)) (by kernel_rfl) (by kernel_rfl) (by kernel_rfl) (door_met os _))

theorem topSweepAndSequence_row : Rows.TopSweepAndSequenceSaid :=
  OpenClaim.holds_of_wide 4 Tryd.f4 rfl rfl rfl rfl rfl rfl rfl ⟨rfl, rfl, rfl, rfl, rfl⟩ rfl rfl rfl rfl rfl (by kernel_rfl) Tryd.func4 (by kernel_rfl)
    (of_decide_eq_true (by kernel_rfl)) (by unfold Func.isWrapper; first | (rw [if_pos (by decide +kernel)]; kernel_rfl) | (rw [if_neg (by decide +kernel)]; exact ⟨rfl, rfl⟩))
    (fun os started H enc _ => topSweepAndSequence_lifted os started H enc)

theorem topSweepAndSequence_holds : Rows.TopSweepAndSequenceCardSaid :=
  Claim7.holds_tied_plain_at .later [] [.data] true (true, "71d7c4eac4c169b2e796d3b323a619afd8747455ec496ecb313c475c0b83f2b0") false
    topSweepAndSequence_row (fun _ h => by cases h) (by kernel_rfl) (fun _ h => by cases h) topSweepAndSequence_row_tie rfl ⟨rfl, rfl⟩ (by kernel_rfl) rfl
    (fun f fn hf hfn => by
      obtain rfl : f = 4 := Option.some.inj ((show Tryd.prog.funcNamed "shoebox/shoeboxtop.TopSweepAndSequence" = some 4 by kernel_rfl).symm.trans hf) |>.symm
      obtain rfl : fn = Tryd.f4 := (Option.some.inj (Tryd.func4.symm.trans hfn)).symm
      exact ⟨by kernel_rfl, fun j t ht => by
        have hm : t ∈ Tryd.f4.params := Array.mem_of_getElem? ht
        have hall : (Tryd.f4.params.toList.all fun u => !Tryd.prog.wantsStandIn u) = true := by kernel_rfl
        exact (show Tryd.prog.wantsStandIn t = false by simpa using List.all_eq_true.1 hall t (by simpa using hm))⟩)
    (by kernel_rfl)
#print axioms topSweepAndSequence_holds
end Go.Proofs.YtcoimlnplaidiaaDoor
