/-
  DERIVED. GIVEN WITH THE SEED: THE CARDS: each row of YtjgfbifggolibaaGreatDoorRows.lean that lists a variable, with what it lists TIED to the program's text (the seventh form; the later family's looks); each row that meets fmt, with fmt's text TOLD by the authors' own Lean function (tested against real Go, not proved from fmt's source: count such statements apart). THE CARD IS WHAT COUNTS. Prove the row's statement (the work); the ties are given (YtjgfbifggolibaaGreatDoorTie.lean); close each card by the builder's one call (the guide's Derived/Test/ToyasCard.lean, 'card_holds'). Laid BY PROGRAM, IN A SANDBOX (cutbox-door.mjs). By AI agents, Wed Nov 11 2026. No macro, syntax, notation, axiom, sorry.
-/
import Derived.Test.YtjgfbifggolibaaGreatDoorRows
import GoSem.ClaimSeven
namespace Go.Proofs.YtjgfbifggolibaaGreatDoor
namespace Rows

/-- THE TIED CARD OF 'shoeboxlaw07.ArrayWays'. -/
def arrayWaysCard : Claim7 := { stood := { row := arrayWaysRow, standIns := [], harness := (true, "da4023decad99b4ef13ca36b880daa76bb8857ef4e49dc12120ad025f0fd3d67"), looks := true }, kinds := [], alts := [], laidByText := true, laidKinds := [.data, .data, .data, .data, .sentinel, .sentinel, .pinned], laidTests := true, laidLooks := .later }
def ArrayWaysCardSaid : Prop := Claim7.holds Tryz.pinned (.plain (OpenSpec.ofChange arrayWaysSpec)) arrayWaysCard

/-- THE TIED CARD OF 'shoeboxlaw07.ArrayChecks'. -/
def arrayChecksCard : Claim7 := { stood := { row := arrayChecksRow, standIns := [], harness := (true, "da4023decad99b4ef13ca36b880daa76bb8857ef4e49dc12120ad025f0fd3d67"), looks := true }, kinds := [], alts := [], laidByText := true, laidKinds := [.data, .data, .data, .data, .sentinel, .sentinel, .pinned], laidTests := true, laidLooks := .later }
def ArrayChecksCardSaid : Prop := Claim7.holds Tryz.pinned (.plain (OpenSpec.ofChange arrayChecksSpec)) arrayChecksCard

/-- THE TIED CARD OF 'shoeboxlaw07.ArrayAligns'. -/
def arrayAlignsCard : Claim7 := { stood := { row := arrayAlignsRow, standIns := [], harness := (true, "da4023decad99b4ef13ca36b880daa76bb8857ef4e49dc12120ad025f0fd3d67"), looks := true }, kinds := [], alts := [], laidByText := true, laidKinds := [.data, .data, .data, .data, .sentinel, .sentinel, .pinned], laidTests := true, laidLooks := .later }
def ArrayAlignsCardSaid : Prop := Claim7.holds Tryz.pinned (.plain (OpenSpec.ofChange arrayAlignsSpec)) arrayAlignsCard

/-- THE TIED CARD OF 'shoeboxlaw07.ArrayTables'. -/
def arrayTablesCard : Claim7 := { stood := { row := arrayTablesRow, standIns := [], harness := (true, "da4023decad99b4ef13ca36b880daa76bb8857ef4e49dc12120ad025f0fd3d67"), looks := true }, kinds := [], alts := [], laidByText := true, laidKinds := [.data, .data, .data, .data, .sentinel, .sentinel, .pinned], laidTests := true, laidLooks := .later }
def ArrayTablesCardSaid : Prop := Claim7.holds Tryz.pinned (.plain (OpenSpec.ofChange arrayTablesSpec)) arrayTablesCard

/-- THE TIED CARD OF 'shoeboxlaw07.ArrayCaps'. -/
def arrayCapsCard : Claim7 := { stood := { row := arrayCapsRow, standIns := [], harness := (true, "da4023decad99b4ef13ca36b880daa76bb8857ef4e49dc12120ad025f0fd3d67"), looks := true }, kinds := [], alts := [], laidByText := true, laidKinds := [.data, .data, .data, .data, .sentinel, .sentinel, .pinned], laidTests := true, laidLooks := .later }
def ArrayCapsCardSaid : Prop := Claim7.holds Tryz.pinned (.plain (OpenSpec.ofChange arrayCapsSpec)) arrayCapsCard

/-- THE TIED CARD OF 'shoeboxlaw07.ArrayWithin'. -/
def arrayWithinCard : Claim7 := { stood := { row := arrayWithinRow, standIns := [], harness := (true, "da4023decad99b4ef13ca36b880daa76bb8857ef4e49dc12120ad025f0fd3d67"), looks := true }, kinds := [], alts := [], laidByText := true, laidKinds := [.data, .data, .data, .data, .sentinel, .sentinel, .pinned], laidTests := true, laidLooks := .later }
def ArrayWithinCardSaid : Prop := Claim7.holds Tryz.pinned (.plain (OpenSpec.ofChange arrayWithinSpec)) arrayWithinCard

/-- THE TIED CARD OF 'shoeboxlaw07.ArrayBest'. -/
def arrayBestCard : Claim7 := { stood := { row := arrayBestRow, standIns := [], harness := (true, "da4023decad99b4ef13ca36b880daa76bb8857ef4e49dc12120ad025f0fd3d67"), looks := true }, kinds := [], alts := [], laidByText := true, laidKinds := [.data, .data, .data, .data, .sentinel, .sentinel, .pinned], laidTests := true, laidLooks := .later }
def ArrayBestCardSaid : Prop := Claim7.holds Tryz.pinned (.plain (OpenSpec.ofChange arrayBestSpec)) arrayBestCard

/-- THE TIED CARD OF 'shoeboxlaw07.ArrayPressures'. -/
def arrayPressuresCard : Claim7 := { stood := { row := arrayPressuresRow, standIns := [], harness := (true, "da4023decad99b4ef13ca36b880daa76bb8857ef4e49dc12120ad025f0fd3d67"), looks := true }, kinds := [], alts := [], laidByText := true, laidKinds := [.data, .data, .data, .data, .sentinel, .sentinel, .pinned], laidTests := true, laidLooks := .later }
def ArrayPressuresCardSaid : Prop := Claim7.holds Tryz.pinned (.plain (OpenSpec.ofChange arrayPressuresSpec)) arrayPressuresCard

/-- THE TIED CARD OF 'shoeboxlaw07.ArraySums'. -/
def arraySumsCard : Claim7 := { stood := { row := arraySumsRow, standIns := [], harness := (true, "da4023decad99b4ef13ca36b880daa76bb8857ef4e49dc12120ad025f0fd3d67"), looks := true }, kinds := [], alts := [], laidByText := true, laidKinds := [.data, .data, .data, .data, .sentinel, .sentinel, .pinned], laidTests := true, laidLooks := .later }
def ArraySumsCardSaid : Prop := Claim7.holds Tryz.pinned (.plain (OpenSpec.ofChange arraySumsSpec)) arraySumsCard

/-- THE TIED CARD OF 'shoeboxlaw07.ArrayClaims'. -/
def arrayClaimsCard : Claim7 := { stood := { row := arrayClaimsRow, standIns := [], harness := (true, "da4023decad99b4ef13ca36b880daa76bb8857ef4e49dc12120ad025f0fd3d67"), looks := true }, kinds := [], alts := [], laidByText := true, laidKinds := [.data, .data, .data, .data, .sentinel, .sentinel, .pinned], laidTests := true, laidLooks := .later }
def ArrayClaimsCardSaid : Prop := Claim7.holds Tryz.pinned (.plain (OpenSpec.ofChange arrayClaimsSpec)) arrayClaimsCard

/-- THE TIED CARD OF 'shoeboxlaw07.ArrayTexts'. -/
def arrayTextsCard : Claim7 := { stood := { row := arrayTextsRow, standIns := [], harness := (true, "da4023decad99b4ef13ca36b880daa76bb8857ef4e49dc12120ad025f0fd3d67"), looks := true }, kinds := [], alts := [], laidByText := true, laidKinds := [.data, .data, .data, .data, .sentinel, .sentinel, .pinned], laidTests := true, laidLooks := .later }
def ArrayTextsCardSaid : Prop := Claim7.holds Tryz.pinned (.plain (OpenSpec.ofChange arrayTextsSpec)) arrayTextsCard

/-- THE SECOND FORM's CARD OF 'shoeboxlaw07.ArrayWays'. -/
def arrayWaysUptoCard : Claim7 := { stood := { row := arrayWaysUptoRow, standIns := [], harness := (true, "da4023decad99b4ef13ca36b880daa76bb8857ef4e49dc12120ad025f0fd3d67"), looks := true }, kinds := [], alts := [], laidByText := true, laidKinds := [.data, .data, .data, .data, .sentinel, .sentinel, .pinned], laidTests := true, laidLooks := .later }
def ArrayWaysUptoCardSaid : Prop := Claim7.holds Tryz.pinned (.plain (OpenSpec.upto arrayWaysSpec)) arrayWaysUptoCard

/-- THE SECOND FORM's CARD OF 'shoeboxlaw07.ArrayChecks'. -/
def arrayChecksUptoCard : Claim7 := { stood := { row := arrayChecksUptoRow, standIns := [], harness := (true, "da4023decad99b4ef13ca36b880daa76bb8857ef4e49dc12120ad025f0fd3d67"), looks := true }, kinds := [], alts := [], laidByText := true, laidKinds := [.data, .data, .data, .data, .sentinel, .sentinel, .pinned], laidTests := true, laidLooks := .later }
def ArrayChecksUptoCardSaid : Prop := Claim7.holds Tryz.pinned (.plain (OpenSpec.upto arrayChecksSpec)) arrayChecksUptoCard

/-- THE SECOND FORM's CARD OF 'shoeboxlaw07.ArrayAligns'. -/
def arrayAlignsUptoCard : Claim7 := { stood := { row := arrayAlignsUptoRow, standIns := [], harness := (true, "da4023decad99b4ef13ca36b880daa76bb8857ef4e49dc12120ad025f0fd3d67"), looks := true }, kinds := [], alts := [], laidByText := true, laidKinds := [.data, .data, .data, .data, .sentinel, .sentinel, .pinned], laidTests := true, laidLooks := .later }
def ArrayAlignsUptoCardSaid : Prop := Claim7.holds Tryz.pinned (.plain (OpenSpec.upto arrayAlignsSpec)) arrayAlignsUptoCard

/-- THE SECOND FORM's CARD OF 'shoeboxlaw07.ArrayTables'. -/
def arrayTablesUptoCard : Claim7 := { stood := { row := arrayTablesUptoRow, standIns := [], harness := (true, "da4023decad99b4ef13ca36b880daa76bb8857ef4e49dc12120ad025f0fd3d67"), looks := true }, kinds := [], alts := [], laidByText := true, laidKinds := [.data, .data, .data, .data, .sentinel, .sentinel, .pinned], laidTests := true, laidLooks := .later }
def ArrayTablesUptoCardSaid : Prop := Claim7.holds Tryz.pinned (.plain (OpenSpec.upto arrayTablesSpec)) arrayTablesUptoCard

/-- THE SECOND FORM's CARD OF 'shoeboxlaw07.ArrayCaps'. -/
def arrayCapsUptoCard : Claim7 := { stood := { row := arrayCapsUptoRow, standIns := [], harness := (true, "da4023decad99b4ef13ca36b880daa76bb8857ef4e49dc12120ad025f0fd3d67"), looks := true }, kinds := [], alts := [], laidByText := true, laidKinds := [.data, .data, .data, .data, .sentinel, .sentinel, .pinned], laidTests := true, laidLooks := .later }
def ArrayCapsUptoCardSaid : Prop := Claim7.holds Tryz.pinned (.plain (OpenSpec.upto arrayCapsSpec)) arrayCapsUptoCard

/-- THE SECOND FORM's CARD OF 'shoeboxlaw07.ArrayWithin'. -/
def arrayWithinUptoCard : Claim7 := { stood := { row := arrayWithinUptoRow, standIns := [], harness := (true, "da4023decad99b4ef13ca36b880daa76bb8857ef4e49dc12120ad025f0fd3d67"), looks := true }, kinds := [], alts := [], laidByText := true, laidKinds := [.data, .data, .data, .data, .sentinel, .sentinel, .pinned], laidTests := true, laidLooks := .later }
def ArrayWithinUptoCardSaid : Prop := Claim7.holds Tryz.pinned (.plain (OpenSpec.upto arrayWithinSpec)) arrayWithinUptoCard

/-- THE SECOND FORM's CARD OF 'shoeboxlaw07.ArrayBest'. -/
def arrayBestUptoCard : Claim7 := { stood := { row := arrayBestUptoRow, standIns := [], harness := (true, "da4023decad99b4ef13ca36b880daa76bb8857ef4e49dc12120ad025f0fd3d67"), looks := true }, kinds := [], alts := [], laidByText := true, laidKinds := [.data, .data, .data, .data, .sentinel, .sentinel, .pinned], laidTests := true, laidLooks := .later }
def ArrayBestUptoCardSaid : Prop := Claim7.holds Tryz.pinned (.plain (OpenSpec.upto arrayBestSpec)) arrayBestUptoCard

/-- THE SECOND FORM's CARD OF 'shoeboxlaw07.ArrayPressures'. -/
def arrayPressuresUptoCard : Claim7 := { stood := { row := arrayPressuresUptoRow, standIns := [], harness := (true, "da4023decad99b4ef13ca36b880daa76bb8857ef4e49dc12120ad025f0fd3d67"), looks := true }, kinds := [], alts := [], laidByText := true, laidKinds := [.data, .data, .data, .data, .sentinel, .sentinel, .pinned], laidTests := true, laidLooks := .later }
def ArrayPressuresUptoCardSaid : Prop := Claim7.holds Tryz.pinned (.plain (OpenSpec.upto arrayPressuresSpec)) arrayPressuresUptoCard

/-- THE SECOND FORM's CARD OF 'shoeboxlaw07.ArraySums'. -/
def arraySumsUptoCard : Claim7 := { stood := { row := arraySumsUptoRow, standIns := [], harness := (true, "da4023decad99b4ef13ca36b880daa76bb8857ef4e49dc12120ad025f0fd3d67"), looks := true }, kinds := [], alts := [], laidByText := true, laidKinds := [.data, .data, .data, .data, .sentinel, .sentinel, .pinned], laidTests := true, laidLooks := .later }
def ArraySumsUptoCardSaid : Prop := Claim7.holds Tryz.pinned (.plain (OpenSpec.upto arraySumsSpec)) arraySumsUptoCard

/-- THE SECOND FORM's CARD OF 'shoeboxlaw07.ArrayClaims'. -/
def arrayClaimsUptoCard : Claim7 := { stood := { row := arrayClaimsUptoRow, standIns := [], harness := (true, "da4023decad99b4ef13ca36b880daa76bb8857ef4e49dc12120ad025f0fd3d67"), looks := true }, kinds := [], alts := [], laidByText := true, laidKinds := [.data, .data, .data, .data, .sentinel, .sentinel, .pinned], laidTests := true, laidLooks := .later }
def ArrayClaimsUptoCardSaid : Prop := Claim7.holds Tryz.pinned (.plain (OpenSpec.upto arrayClaimsSpec)) arrayClaimsUptoCard

/-- THE SECOND FORM's CARD OF 'shoeboxlaw07.ArrayTexts'. -/
def arrayTextsUptoCard : Claim7 := { stood := { row := arrayTextsUptoRow, standIns := [], harness := (true, "da4023decad99b4ef13ca36b880daa76bb8857ef4e49dc12120ad025f0fd3d67"), looks := true }, kinds := [], alts := [], laidByText := true, laidKinds := [.data, .data, .data, .data, .sentinel, .sentinel, .pinned], laidTests := true, laidLooks := .later }
def ArrayTextsUptoCardSaid : Prop := Claim7.holds Tryz.pinned (.plain (OpenSpec.upto arrayTextsSpec)) arrayTextsUptoCard
end Rows
end Go.Proofs.YtjgfbifggolibaaGreatDoor
