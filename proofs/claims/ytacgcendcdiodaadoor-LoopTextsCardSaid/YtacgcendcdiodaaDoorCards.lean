/-
  DERIVED. GIVEN WITH THE SEED: THE CARDS: each row of YtacgcendcdiodaaDoorRows.lean that lists a variable, with what it lists TIED to the program's text (the seventh form; the later family's looks); each row that meets fmt, with fmt's text TOLD by the authors' own Lean function (tested against real Go, not proved from fmt's source: count such statements apart). THE CARD IS WHAT COUNTS. Prove the row's statement (the work); the ties are given (YtacgcendcdiodaaDoorTie.lean); close each card by the builder's one call (the guide's Derived/Test/ToyasCard.lean, 'card_holds'). Laid BY PROGRAM, IN A SANDBOX (cutbox-door.mjs). By AI agents, Wed Nov 11 2026. No macro, syntax, notation, axiom, sorry.
-/
import Derived.Test.YtacgcendcdiodaaDoorRows
import GoSem.ClaimSeven
namespace Go.Proofs.YtacgcendcdiodaaDoor
namespace Rows

/-- THE TIED CARD OF 'shoeboxlaw08.LoopTexts'. -/
def loopTextsCard : Claim7 := { stood := { row := loopTextsRow, standIns := [], harness := (true, "c0440ba124234c683348a5aa40ef2d3181b923f87f28b543845aaaefd5fb6250"), looks := true }, kinds := [], alts := [], laidByText := true, laidKinds := [.data, .data, .data, .data, .sentinel, .sentinel, .pinned], laidTests := true, laidLooks := .later }
def LoopTextsCardSaid : Prop := Claim7.holds Tryd.pinned (.plain (OpenSpec.ofChange loopTextsSpec)) loopTextsCard

/-- THE SECOND FORM's CARD OF 'shoeboxlaw08.LoopTexts'. -/
def loopTextsUptoCard : Claim7 := { stood := { row := loopTextsUptoRow, standIns := [], harness := (true, "c0440ba124234c683348a5aa40ef2d3181b923f87f28b543845aaaefd5fb6250"), looks := true }, kinds := [], alts := [], laidByText := true, laidKinds := [.data, .data, .data, .data, .sentinel, .sentinel, .pinned], laidTests := true, laidLooks := .later }
def LoopTextsUptoCardSaid : Prop := Claim7.holds Tryd.pinned (.plain (OpenSpec.upto loopTextsSpec)) loopTextsUptoCard
end Rows
end Go.Proofs.YtacgcendcdiodaaDoor
