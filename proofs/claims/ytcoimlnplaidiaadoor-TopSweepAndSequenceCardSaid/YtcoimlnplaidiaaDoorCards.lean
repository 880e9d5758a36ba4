/-
  DERIVED. GIVEN WITH THE SEED: THE CARDS: each row of YtcoimlnplaidiaaDoorRows.lean that lists a variable, with what it lists TIED to the program's text (the seventh form; the later family's looks); each row that meets fmt, with fmt's text TOLD by the authors' own Lean function (tested against real Go, not proved from fmt's source: count such statements apart). THE CARD IS WHAT COUNTS. Prove the row's statement (the work); the ties are given (YtcoimlnplaidiaaDoorTie.lean); close each card by the builder's one call (the guide's Derived/Test/ToyasCard.lean, 'card_holds'). Laid BY PROGRAM, IN A SANDBOX (cutbox-door.mjs). By AI agents, Wed Nov 11 2026. No macro, syntax, notation, axiom, sorry.
-/
import Derived.Test.YtcoimlnplaidiaaDoorRows
import GoSem.ClaimSeven
namespace Go.Proofs.YtcoimlnplaidiaaDoor
namespace Rows

/-- THE TIED CARD OF 'shoeboxlaw04.PulseChirps'. -/
def pulseChirpsCard : Claim7 := { stood := { row := pulseChirpsRow, standIns := [], harness := (true, "71d7c4eac4c169b2e796d3b323a619afd8747455ec496ecb313c475c0b83f2b0"), looks := false }, kinds := [], alts := [], laidByText := true, laidKinds := [.data], laidTests := true, laidLooks := .later }
def PulseChirpsCardSaid : Prop := Claim7.holds Tryd.pinned (.plain (OpenSpec.ofChange pulseChirpsSpec)) pulseChirpsCard

/-- THE TIED CARD OF 'shoeboxtop.TopSweepAndSequence'. -/
def topSweepAndSequenceCard : Claim7 := { stood := { row := topSweepAndSequenceRow, standIns := [], harness := (true, "71d7c4eac4c169b2e796d3b323a619afd8747455ec496ecb313c475c0b83f2b0"), looks := false }, kinds := [], alts := [], laidByText := true, laidKinds := [.data], laidTests := true, laidLooks := .later }
def TopSweepAndSequenceCardSaid : Prop := Claim7.holds Tryd.pinned (.plain (OpenSpec.ofChange topSweepAndSequenceSpec)) topSweepAndSequenceCard

/-- THE TIED CARD OF 'shoeboxlaw04.PulseDivides'. -/
def pulseDividesCard : Claim7 := { stood := { row := pulseDividesRow, standIns := [], harness := (true, "71d7c4eac4c169b2e796d3b323a619afd8747455ec496ecb313c475c0b83f2b0"), looks := false }, kinds := [], alts := [], laidByText := true, laidKinds := [.data], laidTests := true, laidLooks := .later }
def PulseDividesCardSaid : Prop := Claim7.holds Tryd.pinned (.plain (OpenSpec.ofChange pulseDividesSpec)) pulseDividesCard

/-- THE SECOND FORM's CARD OF 'shoeboxlaw04.PulseChirps'. -/
def pulseChirpsUptoCard : Claim7 := { stood := { row := pulseChirpsUptoRow, standIns := [], harness := (true, "71d7c4eac4c169b2e796d3b323a619afd8747455ec496ecb313c475c0b83f2b0"), looks := false }, kinds := [], alts := [], laidByText := true, laidKinds := [.data], laidTests := true, laidLooks := .later }
def PulseChirpsUptoCardSaid : Prop := Claim7.holds Tryd.pinned (.plain (OpenSpec.upto pulseChirpsSpec)) pulseChirpsUptoCard

/-- THE SECOND FORM's CARD OF 'shoeboxtop.TopSweepAndSequence'. -/
def topSweepAndSequenceUptoCard : Claim7 := { stood := { row := topSweepAndSequenceUptoRow, standIns := [], harness := (true, "71d7c4eac4c169b2e796d3b323a619afd8747455ec496ecb313c475c0b83f2b0"), looks := false }, kinds := [], alts := [], laidByText := true, laidKinds := [.data], laidTests := true, laidLooks := .later }
def TopSweepAndSequenceUptoCardSaid : Prop := Claim7.holds Tryd.pinned (.plain (OpenSpec.upto topSweepAndSequenceSpec)) topSweepAndSequenceUptoCard

/-- THE SECOND FORM's CARD OF 'shoeboxlaw04.PulseDivides'. -/
def pulseDividesUptoCard : Claim7 := { stood := { row := pulseDividesUptoRow, standIns := [], harness := (true, "71d7c4eac4c169b2e796d3b323a619afd8747455ec496ecb313c475c0b83f2b0"), looks := false }, kinds := [], alts := [], laidByText := true, laidKinds := [.data], laidTests := true, laidLooks := .later }
def PulseDividesUptoCardSaid : Prop := Claim7.holds Tryd.pinned (.plain (OpenSpec.upto pulseDividesSpec)) pulseDividesUptoCard
end Rows
end Go.Proofs.YtcoimlnplaidiaaDoor
