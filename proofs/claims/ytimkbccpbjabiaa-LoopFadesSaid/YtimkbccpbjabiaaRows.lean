/-
  No cell of these rows narrows 'for every input' (looked for: loops, veiled, ifaces, maps, wideKeys, modest, calm, conditions, laid).
  DERIVED. THE GIVEN ROWS OF THIS SEAT. 13 by the template 'for every input the law returns true; each argument reads behind the call as it read before'; 0 by the template 'total and deterministic' (their statements: YtimkbccpbjabiaaTotals.lean).
  GIVEN WITH THE SEED: the statements are not yours to turn. If you find one false, say at which input.
  Laid BY PROGRAM, IN A SANDBOX (cutbox-rows.mjs): the forced cells as the released guide's own fill.sh prints them over the translation 08ff36d53aae5942… (all of the seat's roots in one cut). By AI agents, Wed Nov 11 2026. No macro, syntax, notation, axiom, sorry.
-/
import Derived.Test.YtimkbccpbjabiaaChecked
import GoSem.Claim
import GoSem.ClaimJoined
import GoSem.ClaimMapViews
import Derived.JoinedTies
import Derived.KernelRfl
namespace Go.Proofs.Ytimkbccpbjabiaa
/- THE CELL 'sum', in the pinned program and in every row, IS THE sha256 OF THE DUMP (.gsa) THAT YtimkbccpbjabiaaProg.lean LOADS. Nothing in Lean hashes anything: it is a label: what it is worth is what the hold of that sum in a sandbox is worth. -/
noncomputable def Try.pinned : Pinned := { name := "ytimkbccpbjabiaa", sum := "08ff36d53aae59424d16ed72f88fc14088dfb0412f17eede0adfc8b383e5ba72", checked := Try.checked }
namespace Rows
def none {H : Type} : Left H := { results := [], args := [] }

/-- 'shoeboxlaw08.LoopUnits': WHATEVER THE INPUT: true; the input reads as it did. -/
def loopUnitsSpec : ChangeSpec := { name := "loopUnits", fn := fun _ => fun
  | [d] => { results := [.lit (.bool true)], args := [d] }
  | _ => none }
def loopUnitsRow : OpenClaim := { program := "ytimkbccpbjabiaa", sum := "08ff36d53aae59424d16ed72f88fc14088dfb0412f17eede0adfc8b383e5ba72", func := "shoebox/shoeboxlaw08.LoopUnits", spec := "loopUnits", inPlace := ["math.sqrt"], unfollowed := true, recurses := true, apart := false }
def LoopUnitsSaid : Prop := loopUnitsRow.holds Try.pinned (OpenSpec.ofChange loopUnitsSpec)

/-- ITS FALSE NEIGHBOUR: 'it returns false'. Refute it at one input. -/
def loopUnitsWrong : ChangeSpec := { name := "loopUnits", fn := fun _ => fun
  | [d] => { results := [.lit (.bool false)], args := [d] }
  | _ => none }
def LoopUnitsWrongFalsely : Prop := loopUnitsRow.holds Try.pinned (OpenSpec.ofChange loopUnitsWrong)

/-- 'shoeboxlaw08.LoopValues': WHATEVER THE INPUT: true; the input reads as it did. -/
def loopValuesSpec : ChangeSpec := { name := "loopValues", fn := fun _ => fun
  | [d1, d2, d3] => { results := [.lit (.bool true)], args := [d1, d2, d3] }
  | _ => none }
def loopValuesRow : OpenClaim := { program := "ytimkbccpbjabiaa", sum := "08ff36d53aae59424d16ed72f88fc14088dfb0412f17eede0adfc8b383e5ba72", func := "shoebox/shoeboxlaw08.LoopValues", spec := "loopValues", inPlace := ["math.sqrt"], unfollowed := true, recurses := true, apart := false }
def LoopValuesSaid : Prop := loopValuesRow.holds Try.pinned (OpenSpec.ofChange loopValuesSpec)

/-- ITS FALSE NEIGHBOUR: 'it returns false'. Refute it at one input. -/
def loopValuesWrong : ChangeSpec := { name := "loopValues", fn := fun _ => fun
  | [d1, d2, d3] => { results := [.lit (.bool false)], args := [d1, d2, d3] }
  | _ => none }
def LoopValuesWrongFalsely : Prop := loopValuesRow.holds Try.pinned (OpenSpec.ofChange loopValuesWrong)

/-- 'shoeboxlaw08.LoopMirrors': WHATEVER THE INPUT: true; the input reads as it did. -/
def loopMirrorsSpec : ChangeSpec := { name := "loopMirrors", fn := fun _ => fun
  | [d1, d2, d3] => { results := [.lit (.bool true)], args := [d1, d2, d3] }
  | _ => none }
def loopMirrorsRow : OpenClaim := { program := "ytimkbccpbjabiaa", sum := "08ff36d53aae59424d16ed72f88fc14088dfb0412f17eede0adfc8b383e5ba72", func := "shoebox/shoeboxlaw08.LoopMirrors", spec := "loopMirrors", inPlace := ["math.sqrt"], unfollowed := true, recurses := true, apart := false }
def LoopMirrorsSaid : Prop := loopMirrorsRow.holds Try.pinned (OpenSpec.ofChange loopMirrorsSpec)

/-- ITS FALSE NEIGHBOUR: 'it returns false'. Refute it at one input. -/
def loopMirrorsWrong : ChangeSpec := { name := "loopMirrors", fn := fun _ => fun
  | [d1, d2, d3] => { results := [.lit (.bool false)], args := [d1, d2, d3] }
  | _ => none }
def LoopMirrorsWrongFalsely : Prop := loopMirrorsRow.holds Try.pinned (OpenSpec.ofChange loopMirrorsWrong)

/-- 'shoeboxlaw08.LoopClear': WHATEVER THE INPUT: true; the input reads as it did. -/
def loopClearSpec : ChangeSpec := { name := "loopClear", fn := fun _ => fun
  | [d] => { results := [.lit (.bool true)], args := [d] }
  | _ => none }
def loopClearRow : OpenClaim := { program := "ytimkbccpbjabiaa", sum := "08ff36d53aae59424d16ed72f88fc14088dfb0412f17eede0adfc8b383e5ba72", func := "shoebox/shoeboxlaw08.LoopClear", spec := "loopClear", inPlace := ["math.sqrt"], unfollowed := true, recurses := true, apart := false }
def LoopClearSaid : Prop := loopClearRow.holds Try.pinned (OpenSpec.ofChange loopClearSpec)

/-- ITS FALSE NEIGHBOUR: 'it returns false'. Refute it at one input. -/
def loopClearWrong : ChangeSpec := { name := "loopClear", fn := fun _ => fun
  | [d] => { results := [.lit (.bool false)], args := [d] }
  | _ => none }
def LoopClearWrongFalsely : Prop := loopClearRow.holds Try.pinned (OpenSpec.ofChange loopClearWrong)

/-- 'shoeboxlaw08.LoopEchoes': WHATEVER THE INPUT: true; the input reads as it did. -/
def loopEchoesSpec : ChangeSpec := { name := "loopEchoes", fn := fun _ => fun
  | [d1, d2, d3] => { results := [.lit (.bool true)], args := [d1, d2, d3] }
  | _ => none }
def loopEchoesRow : OpenClaim := { program := "ytimkbccpbjabiaa", sum := "08ff36d53aae59424d16ed72f88fc14088dfb0412f17eede0adfc8b383e5ba72", func := "shoebox/shoeboxlaw08.LoopEchoes", spec := "loopEchoes", inPlace := ["math.sqrt"], unfollowed := true, recurses := true, apart := false }
def LoopEchoesSaid : Prop := loopEchoesRow.holds Try.pinned (OpenSpec.ofChange loopEchoesSpec)

/-- ITS FALSE NEIGHBOUR: 'it returns false'. Refute it at one input. -/
def loopEchoesWrong : ChangeSpec := { name := "loopEchoes", fn := fun _ => fun
  | [d1, d2, d3] => { results := [.lit (.bool false)], args := [d1, d2, d3] }
  | _ => none }
def LoopEchoesWrongFalsely : Prop := loopEchoesRow.holds Try.pinned (OpenSpec.ofChange loopEchoesWrong)

/-- 'shoeboxlaw08.LoopMinors': WHATEVER THE INPUT: true; the input reads as it did. -/
def loopMinorsSpec : ChangeSpec := { name := "loopMinors", fn := fun _ => fun
  | [d1, d2] => { results := [.lit (.bool true)], args := [d1, d2] }
  | _ => none }
def loopMinorsRow : OpenClaim := { program := "ytimkbccpbjabiaa", sum := "08ff36d53aae59424d16ed72f88fc14088dfb0412f17eede0adfc8b383e5ba72", func := "shoebox/shoeboxlaw08.LoopMinors", spec := "loopMinors", inPlace := ["math.sqrt"], unfollowed := true, recurses := true, apart := false }
def LoopMinorsSaid : Prop := loopMinorsRow.holds Try.pinned (OpenSpec.ofChange loopMinorsSpec)

/-- ITS FALSE NEIGHBOUR: 'it returns false'. Refute it at one input. -/
def loopMinorsWrong : ChangeSpec := { name := "loopMinors", fn := fun _ => fun
  | [d1, d2] => { results := [.lit (.bool false)], args := [d1, d2] }
  | _ => none }
def LoopMinorsWrongFalsely : Prop := loopMinorsRow.holds Try.pinned (OpenSpec.ofChange loopMinorsWrong)

/-- 'shoeboxlaw08.LoopLinesOf': WHATEVER THE INPUT: true; the input reads as it did. -/
def loopLinesOfSpec : ChangeSpec := { name := "loopLinesOf", fn := fun _ => fun
  | [d] => { results := [.lit (.bool true)], args := [d] }
  | _ => none }
def loopLinesOfRow : OpenClaim := { program := "ytimkbccpbjabiaa", sum := "08ff36d53aae59424d16ed72f88fc14088dfb0412f17eede0adfc8b383e5ba72", func := "shoebox/shoeboxlaw08.LoopLinesOf", spec := "loopLinesOf", inPlace := ["math.sqrt"], unfollowed := true, recurses := true, apart := false }
def LoopLinesOfSaid : Prop := loopLinesOfRow.holds Try.pinned (OpenSpec.ofChange loopLinesOfSpec)

/-- ITS FALSE NEIGHBOUR: 'it returns false'. Refute it at one input. -/
def loopLinesOfWrong : ChangeSpec := { name := "loopLinesOf", fn := fun _ => fun
  | [d] => { results := [.lit (.bool false)], args := [d] }
  | _ => none }
def LoopLinesOfWrongFalsely : Prop := loopLinesOfRow.holds Try.pinned (OpenSpec.ofChange loopLinesOfWrong)

/-- 'shoeboxlaw08.LoopChecks': WHATEVER THE INPUT: true; the input reads as it did. -/
def loopChecksSpec : ChangeSpec := { name := "loopChecks", fn := fun _ => fun
  | [d1, d2] => { results := [.lit (.bool true)], args := [d1, d2] }
  | _ => none }
def loopChecksRow : OpenClaim := { program := "ytimkbccpbjabiaa", sum := "08ff36d53aae59424d16ed72f88fc14088dfb0412f17eede0adfc8b383e5ba72", func := "shoebox/shoeboxlaw08.LoopChecks", spec := "loopChecks", inPlace := ["math.sqrt"], unfollowed := true, recurses := true, apart := false }
def LoopChecksSaid : Prop := loopChecksRow.holds Try.pinned (OpenSpec.ofChange loopChecksSpec)

/-- ITS FALSE NEIGHBOUR: 'it returns false'. Refute it at one input. -/
def loopChecksWrong : ChangeSpec := { name := "loopChecks", fn := fun _ => fun
  | [d1, d2] => { results := [.lit (.bool false)], args := [d1, d2] }
  | _ => none }
def LoopChecksWrongFalsely : Prop := loopChecksRow.holds Try.pinned (OpenSpec.ofChange loopChecksWrong)

/-- 'shoeboxlaw08.LoopProofs': WHATEVER THE INPUT: true; the input reads as it did. -/
def loopProofsSpec : ChangeSpec := { name := "loopProofs", fn := fun _ => fun
  | [d1, d2, d3] => { results := [.lit (.bool true)], args := [d1, d2, d3] }
  | _ => none }
def loopProofsRow : OpenClaim := { program := "ytimkbccpbjabiaa", sum := "08ff36d53aae59424d16ed72f88fc14088dfb0412f17eede0adfc8b383e5ba72", func := "shoebox/shoeboxlaw08.LoopProofs", spec := "loopProofs", inPlace := ["math.sqrt"], unfollowed := true, recurses := true, apart := false }
def LoopProofsSaid : Prop := loopProofsRow.holds Try.pinned (OpenSpec.ofChange loopProofsSpec)

/-- ITS FALSE NEIGHBOUR: 'it returns false'. Refute it at one input. -/
def loopProofsWrong : ChangeSpec := { name := "loopProofs", fn := fun _ => fun
  | [d1, d2, d3] => { results := [.lit (.bool false)], args := [d1, d2, d3] }
  | _ => none }
def LoopProofsWrongFalsely : Prop := loopProofsRow.holds Try.pinned (OpenSpec.ofChange loopProofsWrong)

/-- 'shoeboxlaw08.LoopFades': WHATEVER THE INPUT: true; the input reads as it did. -/
def loopFadesSpec : ChangeSpec := { name := "loopFades", fn := fun _ => fun
  | [d1, d2] => { results := [.lit (.bool true)], args := [d1, d2] }
  | _ => none }
def loopFadesRow : OpenClaim := { program := "ytimkbccpbjabiaa", sum := "08ff36d53aae59424d16ed72f88fc14088dfb0412f17eede0adfc8b383e5ba72", func := "shoebox/shoeboxlaw08.LoopFades", spec := "loopFades", inPlace := ["math.sqrt"], unfollowed := true, recurses := true, apart := false }
def LoopFadesSaid : Prop := loopFadesRow.holds Try.pinned (OpenSpec.ofChange loopFadesSpec)

/-- ITS FALSE NEIGHBOUR: 'it returns false'. Refute it at one input. -/
def loopFadesWrong : ChangeSpec := { name := "loopFades", fn := fun _ => fun
  | [d1, d2] => { results := [.lit (.bool false)], args := [d1, d2] }
  | _ => none }
def LoopFadesWrongFalsely : Prop := loopFadesRow.holds Try.pinned (OpenSpec.ofChange loopFadesWrong)

/-- 'shoeboxlaw08.LoopLesser': WHATEVER THE INPUT: true; the input reads as it did. -/
def loopLesserSpec : ChangeSpec := { name := "loopLesser", fn := fun _ => fun
  | [d1, d2, d3] => { results := [.lit (.bool true)], args := [d1, d2, d3] }
  | _ => none }
def loopLesserRow : OpenClaim := { program := "ytimkbccpbjabiaa", sum := "08ff36d53aae59424d16ed72f88fc14088dfb0412f17eede0adfc8b383e5ba72", func := "shoebox/shoeboxlaw08.LoopLesser", spec := "loopLesser", inPlace := ["math.sqrt"], unfollowed := true, recurses := true, apart := false }
def LoopLesserSaid : Prop := loopLesserRow.holds Try.pinned (OpenSpec.ofChange loopLesserSpec)

/-- ITS FALSE NEIGHBOUR: 'it returns false'. Refute it at one input. -/
def loopLesserWrong : ChangeSpec := { name := "loopLesser", fn := fun _ => fun
  | [d1, d2, d3] => { results := [.lit (.bool false)], args := [d1, d2, d3] }
  | _ => none }
def LoopLesserWrongFalsely : Prop := loopLesserRow.holds Try.pinned (OpenSpec.ofChange loopLesserWrong)

/-- 'shoeboxlaw08.LoopDecides': WHATEVER THE INPUT: true; the input reads as it did. -/
def loopDecidesSpec : ChangeSpec := { name := "loopDecides", fn := fun _ => fun
  | [d] => { results := [.lit (.bool true)], args := [d] }
  | _ => none }
def loopDecidesRow : OpenClaim := { program := "ytimkbccpbjabiaa", sum := "08ff36d53aae59424d16ed72f88fc14088dfb0412f17eede0adfc8b383e5ba72", func := "shoebox/shoeboxlaw08.LoopDecides", spec := "loopDecides", inPlace := ["math.sqrt"], unfollowed := true, recurses := true, apart := false }
def LoopDecidesSaid : Prop := loopDecidesRow.holds Try.pinned (OpenSpec.ofChange loopDecidesSpec)

/-- ITS FALSE NEIGHBOUR: 'it returns false'. Refute it at one input. -/
def loopDecidesWrong : ChangeSpec := { name := "loopDecides", fn := fun _ => fun
  | [d] => { results := [.lit (.bool false)], args := [d] }
  | _ => none }
def LoopDecidesWrongFalsely : Prop := loopDecidesRow.holds Try.pinned (OpenSpec.ofChange loopDecidesWrong)

/-- 'shoeboxlaw08.LoopMargins': WHATEVER THE INPUT: true; the input reads as it did. -/
def loopMarginsSpec : ChangeSpec := { name := "loopMargins", fn := fun _ => fun
  | [d] => { results := [.lit (.bool true)], args := [d] }
  | _ => none }
def loopMarginsRow : OpenClaim := { program := "ytimkbccpbjabiaa", sum := "08ff36d53aae59424d16ed72f88fc14088dfb0412f17eede0adfc8b383e5ba72", func := "shoebox/shoeboxlaw08.LoopMargins", spec := "loopMargins", inPlace := ["math.sqrt"], unfollowed := true, recurses := true, apart := false }
def LoopMarginsSaid : Prop := loopMarginsRow.holds Try.pinned (OpenSpec.ofChange loopMarginsSpec)

/-- ITS FALSE NEIGHBOUR: 'it returns false'. Refute it at one input. -/
def loopMarginsWrong : ChangeSpec := { name := "loopMargins", fn := fun _ => fun
  | [d] => { results := [.lit (.bool false)], args := [d] }
  | _ => none }
def LoopMarginsWrongFalsely : Prop := loopMarginsRow.holds Try.pinned (OpenSpec.ofChange loopMarginsWrong)

/- THE SECOND FORM. 'bulk': how many values and letters a reading holds, each counted each time it is reached (what is shared counts as often as it is met; a slice's spare places count too). A statement '..UptoSaid' is the law's where the arguments, and the package variables that the reading takes, are together of bulk at most 1048576: NARROWER than '..Said'. Prove '..Said' where nothing that the law and all that it calls make is longer than what came in: it says more and counts as full. Else prove '..UptoSaid'. A law counts once. -/
mutual
def uptoBulk {H : Type} : DataW H → Nat
  | .lit (.string bytes) => bytes.length + 1
  | .lit _ => 1
  | .nil => 1
  | .ptr d => uptoBulk d + 1
  | .slice elems spare => uptoBulkAll elems + uptoBulkAll spare + 1
  | .agg parts => uptoBulkAll parts + 1
  | .iface _ d => uptoBulk d + 1
  | .map entries => uptoBulkEntries entries + 1
  | .held _ => 1
def uptoBulkAll {H : Type} : List (DataW H) → Nat
  | [] => 0
  | d :: r => uptoBulk d + uptoBulkAll r
def uptoBulkEntries {H : Type} : List (Lit × DataW H) → Nat
  | [] => 0
  | x :: r => uptoBulkEntry x + uptoBulkEntries r
def uptoBulkEntry {H : Type} : Lit × DataW H → Nat
  | (.string bytes, d) => bytes.length + uptoBulk d + 1
  | (_, d) => uptoBulk d + 1
 end
def uptoSmall : (H : Type) → List (DataW H) → Bool := fun _ ds => decide (uptoBulkAll ds ≤ 1048576)
def OpenSpec.upto (s : _root_.Go.ChangeSpec) : _root_.Go.OpenSpec := { _root_.Go.OpenSpec.ofChange s with cond := some uptoSmall }

/-- 'shoeboxlaw08.LoopUnits', WHERE WHAT IT READS IS OF BULK AT MOST 1048576: true; the input reads as it did. -/
def loopUnitsUptoRow : OpenClaim := { program := "ytimkbccpbjabiaa", sum := "08ff36d53aae59424d16ed72f88fc14088dfb0412f17eede0adfc8b383e5ba72", func := "shoebox/shoeboxlaw08.LoopUnits", spec := "loopUnits", inPlace := ["math.sqrt"], unfollowed := true, recurses := true, apart := false, narrowed := true }
def LoopUnitsUptoSaid : Prop := loopUnitsUptoRow.holds Try.pinned (OpenSpec.upto loopUnitsSpec)

/-- 'shoeboxlaw08.LoopValues', WHERE WHAT IT READS IS OF BULK AT MOST 1048576: true; the input reads as it did. -/
def loopValuesUptoRow : OpenClaim := { program := "ytimkbccpbjabiaa", sum := "08ff36d53aae59424d16ed72f88fc14088dfb0412f17eede0adfc8b383e5ba72", func := "shoebox/shoeboxlaw08.LoopValues", spec := "loopValues", inPlace := ["math.sqrt"], unfollowed := true, recurses := true, apart := false, narrowed := true }
def LoopValuesUptoSaid : Prop := loopValuesUptoRow.holds Try.pinned (OpenSpec.upto loopValuesSpec)

/-- 'shoeboxlaw08.LoopMirrors', WHERE WHAT IT READS IS OF BULK AT MOST 1048576: true; the input reads as it did. -/
def loopMirrorsUptoRow : OpenClaim := { program := "ytimkbccpbjabiaa", sum := "08ff36d53aae59424d16ed72f88fc14088dfb0412f17eede0adfc8b383e5ba72", func := "shoebox/shoeboxlaw08.LoopMirrors", spec := "loopMirrors", inPlace := ["math.sqrt"], unfollowed := true, recurses := true, apart := false, narrowed := true }
def LoopMirrorsUptoSaid : Prop := loopMirrorsUptoRow.holds Try.pinned (OpenSpec.upto loopMirrorsSpec)

/-- 'shoeboxlaw08.LoopClear', WHERE WHAT IT READS IS OF BULK AT MOST 1048576: true; the input reads as it did. -/
def loopClearUptoRow : OpenClaim := { program := "ytimkbccpbjabiaa", sum := "08ff36d53aae59424d16ed72f88fc14088dfb0412f17eede0adfc8b383e5ba72", func := "shoebox/shoeboxlaw08.LoopClear", spec := "loopClear", inPlace := ["math.sqrt"], unfollowed := true, recurses := true, apart := false, narrowed := true }
def LoopClearUptoSaid : Prop := loopClearUptoRow.holds Try.pinned (OpenSpec.upto loopClearSpec)

/-- 'shoeboxlaw08.LoopEchoes', WHERE WHAT IT READS IS OF BULK AT MOST 1048576: true; the input reads as it did. -/
def loopEchoesUptoRow : OpenClaim := { program := "ytimkbccpbjabiaa", sum := "08ff36d53aae59424d16ed72f88fc14088dfb0412f17eede0adfc8b383e5ba72", func := "shoebox/shoeboxlaw08.LoopEchoes", spec := "loopEchoes", inPlace := ["math.sqrt"], unfollowed := true, recurses := true, apart := false, narrowed := true }
def LoopEchoesUptoSaid : Prop := loopEchoesUptoRow.holds Try.pinned (OpenSpec.upto loopEchoesSpec)

/-- 'shoeboxlaw08.LoopMinors', WHERE WHAT IT READS IS OF BULK AT MOST 1048576: true; the input reads as it did. -/
def loopMinorsUptoRow : OpenClaim := { program := "ytimkbccpbjabiaa", sum := "08ff36d53aae59424d16ed72f88fc14088dfb0412f17eede0adfc8b383e5ba72", func := "shoebox/shoeboxlaw08.LoopMinors", spec := "loopMinors", inPlace := ["math.sqrt"], unfollowed := true, recurses := true, apart := false, narrowed := true }
def LoopMinorsUptoSaid : Prop := loopMinorsUptoRow.holds Try.pinned (OpenSpec.upto loopMinorsSpec)

/-- 'shoeboxlaw08.LoopLinesOf', WHERE WHAT IT READS IS OF BULK AT MOST 1048576: true; the input reads as it did. -/
def loopLinesOfUptoRow : OpenClaim := { program := "ytimkbccpbjabiaa", sum := "08ff36d53aae59424d16ed72f88fc14088dfb0412f17eede0adfc8b383e5ba72", func := "shoebox/shoeboxlaw08.LoopLinesOf", spec := "loopLinesOf", inPlace := ["math.sqrt"], unfollowed := true, recurses := true, apart := false, narrowed := true }
def LoopLinesOfUptoSaid : Prop := loopLinesOfUptoRow.holds Try.pinned (OpenSpec.upto loopLinesOfSpec)

/-- 'shoeboxlaw08.LoopChecks', WHERE WHAT IT READS IS OF BULK AT MOST 1048576: true; the input reads as it did. -/
def loopChecksUptoRow : OpenClaim := { program := "ytimkbccpbjabiaa", sum := "08ff36d53aae59424d16ed72f88fc14088dfb0412f17eede0adfc8b383e5ba72", func := "shoebox/shoeboxlaw08.LoopChecks", spec := "loopChecks", inPlace := ["math.sqrt"], unfollowed := true, recurses := true, apart := false, narrowed := true }
def LoopChecksUptoSaid : Prop := loopChecksUptoRow.holds Try.pinned (OpenSpec.upto loopChecksSpec)

/-- 'shoeboxlaw08.LoopProofs', WHERE WHAT IT READS IS OF BULK AT MOST 1048576: true; the input reads as it did. -/
def loopProofsUptoRow : OpenClaim := { program := "ytimkbccpbjabiaa", sum := "08ff36d53aae59424d16ed72f88fc14088dfb0412f17eede0adfc8b383e5ba72", func := "shoebox/shoeboxlaw08.LoopProofs", spec := "loopProofs", inPlace := ["math.sqrt"], unfollowed := true, recurses := true, apart := false, narrowed := true }
def LoopProofsUptoSaid : Prop := loopProofsUptoRow.holds Try.pinned (OpenSpec.upto loopProofsSpec)

/-- 'shoeboxlaw08.LoopFades', WHERE WHAT IT READS IS OF BULK AT MOST 1048576: true; the input reads as it did. -/
def loopFadesUptoRow : OpenClaim := { program := "ytimkbccpbjabiaa", sum := "08ff36d53aae59424d16ed72f88fc14088dfb0412f17eede0adfc8b383e5ba72", func := "shoebox/shoeboxlaw08.LoopFades", spec := "loopFades", inPlace := ["math.sqrt"], unfollowed := true, recurses := true, apart := false, narrowed := true }
def LoopFadesUptoSaid : Prop := loopFadesUptoRow.holds Try.pinned (OpenSpec.upto loopFadesSpec)

/-- 'shoeboxlaw08.LoopLesser', WHERE WHAT IT READS IS OF BULK AT MOST 1048576: true; the input reads as it did. -/
def loopLesserUptoRow : OpenClaim := { program := "ytimkbccpbjabiaa", sum := "08ff36d53aae59424d16ed72f88fc14088dfb0412f17eede0adfc8b383e5ba72", func := "shoebox/shoeboxlaw08.LoopLesser", spec := "loopLesser", inPlace := ["math.sqrt"], unfollowed := true, recurses := true, apart := false, narrowed := true }
def LoopLesserUptoSaid : Prop := loopLesserUptoRow.holds Try.pinned (OpenSpec.upto loopLesserSpec)

/-- 'shoeboxlaw08.LoopDecides', WHERE WHAT IT READS IS OF BULK AT MOST 1048576: true; the input reads as it did. -/
def loopDecidesUptoRow : OpenClaim := { program := "ytimkbccpbjabiaa", sum := "08ff36d53aae59424d16ed72f88fc14088dfb0412f17eede0adfc8b383e5ba72", func := "shoebox/shoeboxlaw08.LoopDecides", spec := "loopDecides", inPlace := ["math.sqrt"], unfollowed := true, recurses := true, apart := false, narrowed := true }
def LoopDecidesUptoSaid : Prop := loopDecidesUptoRow.holds Try.pinned (OpenSpec.upto loopDecidesSpec)

/-- 'shoeboxlaw08.LoopMargins', WHERE WHAT IT READS IS OF BULK AT MOST 1048576: true; the input reads as it did. -/
def loopMarginsUptoRow : OpenClaim := { program := "ytimkbccpbjabiaa", sum := "08ff36d53aae59424d16ed72f88fc14088dfb0412f17eede0adfc8b383e5ba72", func := "shoebox/shoeboxlaw08.LoopMargins", spec := "loopMargins", inPlace := ["math.sqrt"], unfollowed := true, recurses := true, apart := false, narrowed := true }
def LoopMarginsUptoSaid : Prop := loopMarginsUptoRow.holds Try.pinned (OpenSpec.upto loopMarginsSpec)

end Rows
end Go.Proofs.Ytimkbccpbjabiaa
