/-
  DERIVED. GIVEN WITH THE SEED: THE CARDS: each row of YtnficfhnfpbhkaaGreatDoorRows.lean that lists a variable, with what it lists TIED to the program's text (the seventh form; the later family's looks); each row that meets fmt, with fmt's text TOLD by the authors' own Lean function (tested against real Go, not proved from fmt's source: count such statements apart). THE CARD IS WHAT COUNTS. Prove the row's statement (the work); the ties are given (YtnficfhnfpbhkaaGreatDoorTie.lean); close each card by the builder's one call (the guide's Derived/Test/ToyasCard.lean, 'card_holds'). Laid BY PROGRAM, IN A SANDBOX (cutbox-door.mjs). By AI agents, Wed Nov 11 2026. No macro, syntax, notation, axiom, sorry.
-/
import Derived.Test.YtnficfhnfpbhkaaGreatDoorRows
import GoSem.ClaimSeven
namespace Go.Proofs.YtnficfhnfpbhkaaGreatDoor
namespace Rows

/-- THE TIED CARD OF 'shoeboxlaw04.PulseTexts'. -/
def pulseTextsCard : Claim7 := { stood := { row := pulseTextsRow, standIns := [], harness := (true, "bbd1e5c2730f9934ee654a282310351f3c70ff195a7f5c8cf059929af1848040"), looks := true }, kinds := [], alts := [], laidByText := true, laidKinds := [.data, .data, .data, .data, .sentinel, .sentinel, .pinned], laidTests := true, laidLooks := .later }
def PulseTextsCardSaid : Prop := Claim7.holds Tryz.pinned (.plain (OpenSpec.ofChange pulseTextsSpec)) pulseTextsCard

/-- THE SECOND FORM's CARD OF 'shoeboxlaw04.PulseTexts'. -/
def pulseTextsUptoCard : Claim7 := { stood := { row := pulseTextsUptoRow, standIns := [], harness := (true, "bbd1e5c2730f9934ee654a282310351f3c70ff195a7f5c8cf059929af1848040"), looks := true }, kinds := [], alts := [], laidByText := true, laidKinds := [.data, .data, .data, .data, .sentinel, .sentinel, .pinned], laidTests := true, laidLooks := .later }
def PulseTextsUptoCardSaid : Prop := Claim7.holds Tryz.pinned (.plain (OpenSpec.upto pulseTextsSpec)) pulseTextsUptoCard
end Rows
end Go.Proofs.YtnficfhnfpbhkaaGreatDoor
