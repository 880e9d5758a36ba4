/-
  No cell of these rows narrows 'for every input' (looked for: loops, veiled, ifaces, maps, wideKeys, modest, calm, conditions, laid).
  DERIVED. THE GIVEN ROWS OF THIS SEAT. 14 by the template 'for every input the law returns true; each argument reads behind the call as it read before'; 0 by the template 'total and deterministic' (their statements: YtcoimlnplaidiaaTotals.lean).
  GIVEN WITH THE SEED: the statements are not yours to turn. If you find one false, say at which input.
  Laid BY PROGRAM, IN A SANDBOX (cutbox-rows.mjs): the forced cells as the released guide's own fill.sh prints them over the translation ab38506376dc8289… (all of the seat's roots in one cut). By AI agents, Wed Nov 11 2026. No macro, syntax, notation, axiom, sorry.
-/
import Derived.Test.YtcoimlnplaidiaaChecked
import GoSem.Claim
import GoSem.ClaimJoined
import GoSem.ClaimMapViews
import Derived.JoinedTies
import Derived.KernelRfl
namespace Go.Proofs.Ytcoimlnplaidiaa
/- THE CELL 'sum', in the pinned program and in every row, IS THE sha256 OF THE DUMP (.gsa) THAT YtcoimlnplaidiaaProg.lean LOADS. Nothing in Lean hashes anything: it is a label: what it is worth is what the hold of that sum in a sandbox is worth. -/
noncomputable def Try.pinned : Pinned := { name := "ytcoimlnplaidiaa", sum := "ab38506376dc8289735aefbccad325267a93d952b135b2ec68bb0d5129e813aa", checked := Try.checked }
namespace Rows
def none {H : Type} : Left H := { results := [], args := [] }

/-- 'shoeboxlaw04.PulseRegisters': WHATEVER THE INPUT: true; the input reads as it did. -/
def pulseRegistersSpec : ChangeSpec := { name := "pulseRegisters", fn := fun _ => fun
  | [d1, d2, d3] => { results := [.lit (.bool true)], args := [d1, d2, d3] }
  | _ => none }
def pulseRegistersRow : OpenClaim := { program := "ytcoimlnplaidiaa", sum := "ab38506376dc8289735aefbccad325267a93d952b135b2ec68bb0d5129e813aa", func := "shoebox/shoeboxlaw04.PulseRegisters", spec := "pulseRegisters", inPlace := ["math.Float64bits"], unfollowed := true, recurses := true, apart := false }
def PulseRegistersSaid : Prop := pulseRegistersRow.holds Try.pinned (OpenSpec.ofChange pulseRegistersSpec)

/-- ITS FALSE NEIGHBOUR: 'it returns false'. Refute it at one input. -/
def pulseRegistersWrong : ChangeSpec := { name := "pulseRegisters", fn := fun _ => fun
  | [d1, d2, d3] => { results := [.lit (.bool false)], args := [d1, d2, d3] }
  | _ => none }
def PulseRegistersWrongFalsely : Prop := pulseRegistersRow.holds Try.pinned (OpenSpec.ofChange pulseRegistersWrong)

/-- 'shoeboxlaw04.PulseExcites': WHATEVER THE INPUT: true; the input reads as it did. -/
def pulseExcitesSpec : ChangeSpec := { name := "pulseExcites", fn := fun _ => fun
  | [d1, d2, d3] => { results := [.lit (.bool true)], args := [d1, d2, d3] }
  | _ => none }
def pulseExcitesRow : OpenClaim := { program := "ytcoimlnplaidiaa", sum := "ab38506376dc8289735aefbccad325267a93d952b135b2ec68bb0d5129e813aa", func := "shoebox/shoeboxlaw04.PulseExcites", spec := "pulseExcites", inPlace := ["math.Float64bits"], unfollowed := true, recurses := true, apart := false }
def PulseExcitesSaid : Prop := pulseExcitesRow.holds Try.pinned (OpenSpec.ofChange pulseExcitesSpec)

/-- ITS FALSE NEIGHBOUR: 'it returns false'. Refute it at one input. -/
def pulseExcitesWrong : ChangeSpec := { name := "pulseExcites", fn := fun _ => fun
  | [d1, d2, d3] => { results := [.lit (.bool false)], args := [d1, d2, d3] }
  | _ => none }
def PulseExcitesWrongFalsely : Prop := pulseExcitesRow.holds Try.pinned (OpenSpec.ofChange pulseExcitesWrong)

/-- 'shoeboxlaw04.PulseTransforms': WHATEVER THE INPUT: true; the input reads as it did. -/
def pulseTransformsSpec : ChangeSpec := { name := "pulseTransforms", fn := fun _ => fun
  | [d1, d2] => { results := [.lit (.bool true)], args := [d1, d2] }
  | _ => none }
def pulseTransformsRow : OpenClaim := { program := "ytcoimlnplaidiaa", sum := "ab38506376dc8289735aefbccad325267a93d952b135b2ec68bb0d5129e813aa", func := "shoebox/shoeboxlaw04.PulseTransforms", spec := "pulseTransforms", inPlace := ["math.Float64bits"], unfollowed := true, recurses := true, apart := false }
def PulseTransformsSaid : Prop := pulseTransformsRow.holds Try.pinned (OpenSpec.ofChange pulseTransformsSpec)

/-- ITS FALSE NEIGHBOUR: 'it returns false'. Refute it at one input. -/
def pulseTransformsWrong : ChangeSpec := { name := "pulseTransforms", fn := fun _ => fun
  | [d1, d2] => { results := [.lit (.bool false)], args := [d1, d2] }
  | _ => none }
def PulseTransformsWrongFalsely : Prop := pulseTransformsRow.holds Try.pinned (OpenSpec.ofChange pulseTransformsWrong)

/-- 'shoeboxlaw04.PulseFields': WHATEVER THE INPUT: true; the input reads as it did. -/
def pulseFieldsSpec : ChangeSpec := { name := "pulseFields", fn := fun _ => fun
  | [d1, d2, d3] => { results := [.lit (.bool true)], args := [d1, d2, d3] }
  | _ => none }
def pulseFieldsRow : OpenClaim := { program := "ytcoimlnplaidiaa", sum := "ab38506376dc8289735aefbccad325267a93d952b135b2ec68bb0d5129e813aa", func := "shoebox/shoeboxlaw04.PulseFields", spec := "pulseFields", inPlace := ["math.Float64bits"], unfollowed := true, recurses := true, apart := false }
def PulseFieldsSaid : Prop := pulseFieldsRow.holds Try.pinned (OpenSpec.ofChange pulseFieldsSpec)

/-- ITS FALSE NEIGHBOUR: 'it returns false'. Refute it at one input. -/
def pulseFieldsWrong : ChangeSpec := { name := "pulseFields", fn := fun _ => fun
  | [d1, d2, d3] => { results := [.lit (.bool false)], args := [d1, d2, d3] }
  | _ => none }
def PulseFieldsWrongFalsely : Prop := pulseFieldsRow.holds Try.pinned (OpenSpec.ofChange pulseFieldsWrong)

/-- 'shoeboxlaw04.PulseCorrelates': WHATEVER THE INPUT: true; the input reads as it did. -/
def pulseCorrelatesSpec : ChangeSpec := { name := "pulseCorrelates", fn := fun _ => fun
  | [d1, d2, d3] => { results := [.lit (.bool true)], args := [d1, d2, d3] }
  | _ => none }
def pulseCorrelatesRow : OpenClaim := { program := "ytcoimlnplaidiaa", sum := "ab38506376dc8289735aefbccad325267a93d952b135b2ec68bb0d5129e813aa", func := "shoebox/shoeboxlaw04.PulseCorrelates", spec := "pulseCorrelates", inPlace := ["math.Float64bits"], unfollowed := true, recurses := true, apart := false }
def PulseCorrelatesSaid : Prop := pulseCorrelatesRow.holds Try.pinned (OpenSpec.ofChange pulseCorrelatesSpec)

/-- ITS FALSE NEIGHBOUR: 'it returns false'. Refute it at one input. -/
def pulseCorrelatesWrong : ChangeSpec := { name := "pulseCorrelates", fn := fun _ => fun
  | [d1, d2, d3] => { results := [.lit (.bool false)], args := [d1, d2, d3] }
  | _ => none }
def PulseCorrelatesWrongFalsely : Prop := pulseCorrelatesRow.holds Try.pinned (OpenSpec.ofChange pulseCorrelatesWrong)

/-- 'shoeboxlaw04.PulseStates': WHATEVER THE INPUT: true; the input reads as it did. -/
def pulseStatesSpec : ChangeSpec := { name := "pulseStates", fn := fun _ => fun
  | [d1, d2, d3] => { results := [.lit (.bool true)], args := [d1, d2, d3] }
  | _ => none }
def pulseStatesRow : OpenClaim := { program := "ytcoimlnplaidiaa", sum := "ab38506376dc8289735aefbccad325267a93d952b135b2ec68bb0d5129e813aa", func := "shoebox/shoeboxlaw04.PulseStates", spec := "pulseStates", inPlace := ["math.Float64bits"], unfollowed := true, recurses := true, apart := false }
def PulseStatesSaid : Prop := pulseStatesRow.holds Try.pinned (OpenSpec.ofChange pulseStatesSpec)

/-- ITS FALSE NEIGHBOUR: 'it returns false'. Refute it at one input. -/
def pulseStatesWrong : ChangeSpec := { name := "pulseStates", fn := fun _ => fun
  | [d1, d2, d3] => { results := [.lit (.bool false)], args := [d1, d2, d3] }
  | _ => none }
def PulseStatesWrongFalsely : Prop := pulseStatesRow.holds Try.pinned (OpenSpec.ofChange pulseStatesWrong)

/-- 'shoeboxlaw04.PulseUnfolds': WHATEVER THE INPUT: true; the input reads as it did. -/
def pulseUnfoldsSpec : ChangeSpec := { name := "pulseUnfolds", fn := fun _ => fun
  | [d1, d2] => { results := [.lit (.bool true)], args := [d1, d2] }
  | _ => none }
def pulseUnfoldsRow : OpenClaim := { program := "ytcoimlnplaidiaa", sum := "ab38506376dc8289735aefbccad325267a93d952b135b2ec68bb0d5129e813aa", func := "shoebox/shoeboxlaw04.PulseUnfolds", spec := "pulseUnfolds", inPlace := ["math.Float64bits"], unfollowed := true, recurses := true, apart := false }
def PulseUnfoldsSaid : Prop := pulseUnfoldsRow.holds Try.pinned (OpenSpec.ofChange pulseUnfoldsSpec)

/-- ITS FALSE NEIGHBOUR: 'it returns false'. Refute it at one input. -/
def pulseUnfoldsWrong : ChangeSpec := { name := "pulseUnfolds", fn := fun _ => fun
  | [d1, d2] => { results := [.lit (.bool false)], args := [d1, d2] }
  | _ => none }
def PulseUnfoldsWrongFalsely : Prop := pulseUnfoldsRow.holds Try.pinned (OpenSpec.ofChange pulseUnfoldsWrong)

/-- 'shoeboxlaw04.PulseTakes': WHATEVER THE INPUT: true; the input reads as it did. -/
def pulseTakesSpec : ChangeSpec := { name := "pulseTakes", fn := fun _ => fun
  | [d1, d2] => { results := [.lit (.bool true)], args := [d1, d2] }
  | _ => none }
def pulseTakesRow : OpenClaim := { program := "ytcoimlnplaidiaa", sum := "ab38506376dc8289735aefbccad325267a93d952b135b2ec68bb0d5129e813aa", func := "shoebox/shoeboxlaw04.PulseTakes", spec := "pulseTakes", inPlace := ["math.Float64bits", "math.Float32bits"], unfollowed := true, recurses := true, apart := false }
def PulseTakesSaid : Prop := pulseTakesRow.holds Try.pinned (OpenSpec.ofChange pulseTakesSpec)

/-- ITS FALSE NEIGHBOUR: 'it returns false'. Refute it at one input. -/
def pulseTakesWrong : ChangeSpec := { name := "pulseTakes", fn := fun _ => fun
  | [d1, d2] => { results := [.lit (.bool false)], args := [d1, d2] }
  | _ => none }
def PulseTakesWrongFalsely : Prop := pulseTakesRow.holds Try.pinned (OpenSpec.ofChange pulseTakesWrong)

/-- 'shoeboxlaw04.PulseMaximal': WHATEVER THE INPUT: true; the input reads as it did. -/
def pulseMaximalSpec : ChangeSpec := { name := "pulseMaximal", fn := fun _ => fun
  | [d1, d2, d3] => { results := [.lit (.bool true)], args := [d1, d2, d3] }
  | _ => none }
def pulseMaximalRow : OpenClaim := { program := "ytcoimlnplaidiaa", sum := "ab38506376dc8289735aefbccad325267a93d952b135b2ec68bb0d5129e813aa", func := "shoebox/shoeboxlaw04.PulseMaximal", spec := "pulseMaximal", inPlace := ["math.Float64bits"], unfollowed := true, recurses := true, apart := false }
def PulseMaximalSaid : Prop := pulseMaximalRow.holds Try.pinned (OpenSpec.ofChange pulseMaximalSpec)

/-- ITS FALSE NEIGHBOUR: 'it returns false'. Refute it at one input. -/
def pulseMaximalWrong : ChangeSpec := { name := "pulseMaximal", fn := fun _ => fun
  | [d1, d2, d3] => { results := [.lit (.bool false)], args := [d1, d2, d3] }
  | _ => none }
def PulseMaximalWrongFalsely : Prop := pulseMaximalRow.holds Try.pinned (OpenSpec.ofChange pulseMaximalWrong)

/-- 'shoeboxlaw04.PulseOtherWay': WHATEVER THE INPUT: true; the input reads as it did. -/
def pulseOtherWaySpec : ChangeSpec := { name := "pulseOtherWay", fn := fun _ => fun
  | [d1, d2, d3] => { results := [.lit (.bool true)], args := [d1, d2, d3] }
  | _ => none }
def pulseOtherWayRow : OpenClaim := { program := "ytcoimlnplaidiaa", sum := "ab38506376dc8289735aefbccad325267a93d952b135b2ec68bb0d5129e813aa", func := "shoebox/shoeboxlaw04.PulseOtherWay", spec := "pulseOtherWay", inPlace := ["math.Float64bits"], unfollowed := true, recurses := true, apart := false }
def PulseOtherWaySaid : Prop := pulseOtherWayRow.holds Try.pinned (OpenSpec.ofChange pulseOtherWaySpec)

/-- ITS FALSE NEIGHBOUR: 'it returns false'. Refute it at one input. -/
def pulseOtherWayWrong : ChangeSpec := { name := "pulseOtherWay", fn := fun _ => fun
  | [d1, d2, d3] => { results := [.lit (.bool false)], args := [d1, d2, d3] }
  | _ => none }
def PulseOtherWayWrongFalsely : Prop := pulseOtherWayRow.holds Try.pinned (OpenSpec.ofChange pulseOtherWayWrong)

/-- 'shoeboxlaw04.PulseSweeps': WHATEVER THE INPUT: true; the input reads as it did. -/
def pulseSweepsSpec : ChangeSpec := { name := "pulseSweeps", fn := fun _ => fun
  | [d1, d2] => { results := [.lit (.bool true)], args := [d1, d2] }
  | _ => none }
def pulseSweepsRow : OpenClaim := { program := "ytcoimlnplaidiaa", sum := "ab38506376dc8289735aefbccad325267a93d952b135b2ec68bb0d5129e813aa", func := "shoebox/shoeboxlaw04.PulseSweeps", spec := "pulseSweeps", inPlace := ["math.Float64bits"], unfollowed := true, recurses := true, apart := false }
def PulseSweepsSaid : Prop := pulseSweepsRow.holds Try.pinned (OpenSpec.ofChange pulseSweepsSpec)

/-- ITS FALSE NEIGHBOUR: 'it returns false'. Refute it at one input. -/
def pulseSweepsWrong : ChangeSpec := { name := "pulseSweeps", fn := fun _ => fun
  | [d1, d2] => { results := [.lit (.bool false)], args := [d1, d2] }
  | _ => none }
def PulseSweepsWrongFalsely : Prop := pulseSweepsRow.holds Try.pinned (OpenSpec.ofChange pulseSweepsWrong)

/-- 'shoeboxlaw04.PulsePeriods': WHATEVER THE INPUT: true; the input reads as it did. -/
def pulsePeriodsSpec : ChangeSpec := { name := "pulsePeriods", fn := fun _ => fun
  | [d1, d2, d3] => { results := [.lit (.bool true)], args := [d1, d2, d3] }
  | _ => none }
def pulsePeriodsRow : OpenClaim := { program := "ytcoimlnplaidiaa", sum := "ab38506376dc8289735aefbccad325267a93d952b135b2ec68bb0d5129e813aa", func := "shoebox/shoeboxlaw04.PulsePeriods", spec := "pulsePeriods", inPlace := ["math.Float64bits"], unfollowed := true, recurses := true, apart := false }
def PulsePeriodsSaid : Prop := pulsePeriodsRow.holds Try.pinned (OpenSpec.ofChange pulsePeriodsSpec)

/-- ITS FALSE NEIGHBOUR: 'it returns false'. Refute it at one input. -/
def pulsePeriodsWrong : ChangeSpec := { name := "pulsePeriods", fn := fun _ => fun
  | [d1, d2, d3] => { results := [.lit (.bool false)], args := [d1, d2, d3] }
  | _ => none }
def PulsePeriodsWrongFalsely : Prop := pulsePeriodsRow.holds Try.pinned (OpenSpec.ofChange pulsePeriodsWrong)

/-- 'shoeboxlaw04.PulseBack': WHATEVER THE INPUT: true; the input reads as it did. -/
def pulseBackSpec : ChangeSpec := { name := "pulseBack", fn := fun _ => fun
  | [d1, d2, d3] => { results := [.lit (.bool true)], args := [d1, d2, d3] }
  | _ => none }
def pulseBackRow : OpenClaim := { program := "ytcoimlnplaidiaa", sum := "ab38506376dc8289735aefbccad325267a93d952b135b2ec68bb0d5129e813aa", func := "shoebox/shoeboxlaw04.PulseBack", spec := "pulseBack", inPlace := ["math.Float64bits"], unfollowed := true, recurses := true, apart := false }
def PulseBackSaid : Prop := pulseBackRow.holds Try.pinned (OpenSpec.ofChange pulseBackSpec)

/-- ITS FALSE NEIGHBOUR: 'it returns false'. Refute it at one input. -/
def pulseBackWrong : ChangeSpec := { name := "pulseBack", fn := fun _ => fun
  | [d1, d2, d3] => { results := [.lit (.bool false)], args := [d1, d2, d3] }
  | _ => none }
def PulseBackWrongFalsely : Prop := pulseBackRow.holds Try.pinned (OpenSpec.ofChange pulseBackWrong)

/-- 'shoeboxtop.TopTwoUnfoldings': WHATEVER THE INPUT: true; the input reads as it did. -/
def topTwoUnfoldingsSpec : ChangeSpec := { name := "topTwoUnfoldings", fn := fun _ => fun
  | [d1, d2, d3] => { results := [.lit (.bool true)], args := [d1, d2, d3] }
  | _ => none }
def topTwoUnfoldingsRow : OpenClaim := { program := "ytcoimlnplaidiaa", sum := "ab38506376dc8289735aefbccad325267a93d952b135b2ec68bb0d5129e813aa", func := "shoebox/shoeboxtop.TopTwoUnfoldings", spec := "topTwoUnfoldings", inPlace := ["math.Float64bits"], unfollowed := true, recurses := true, apart := false }
def TopTwoUnfoldingsSaid : Prop := topTwoUnfoldingsRow.holds Try.pinned (OpenSpec.ofChange topTwoUnfoldingsSpec)

/-- ITS FALSE NEIGHBOUR: 'it returns false'. Refute it at one input. -/
def topTwoUnfoldingsWrong : ChangeSpec := { name := "topTwoUnfoldings", fn := fun _ => fun
  | [d1, d2, d3] => { results := [.lit (.bool false)], args := [d1, d2, d3] }
  | _ => none }
def TopTwoUnfoldingsWrongFalsely : Prop := topTwoUnfoldingsRow.holds Try.pinned (OpenSpec.ofChange topTwoUnfoldingsWrong)

/- THE SECOND FORM. 'bulk': how many values and letters a reading holds, each counted each time it is reached (what is shared counts as often as it is met; a slice's spare places count too). A statement '..UptoSaid' is the law's where the arguments, and the package variables that the reading takes, are together of bulk at most 1048576: NARROWER than '..Said'. Prove '..Said' where nothing that the law and all that it calls make is longer than what came in: it says more and counts as full. Else prove '..UptoSaid'. A law counts once. -/
mutual
def uptoBulk {H : Type} : DataW H → Nat
  | .lit (.string bytes) => bytes.length + 1
  | .lit _ => 1
  | .nil => 1
  | .ptr d => uptoBulk d + 1
  | .slice elems spare => uptoBulkAll elems + uptoBulkAll spare + 1
  | .agg parts => uptoBulkAll parts + 1
  | .iface _ d => uptoBulk d + 1
  | .map entries => uptoBulkEntries entries + 1
  | .held _ => 1
def uptoBulkAll {H : Type} : List (DataW H) → Nat
  | [] => 0
  | d :: r => uptoBulk d + uptoBulkAll r
def uptoBulkEntries {H : Type} : List (Lit × DataW H) → Nat
  | [] => 0
  | x :: r => uptoBulkEntry x + uptoBulkEntries r
def uptoBulkEntry {H : Type} : Lit × DataW H → Nat
  | (.string bytes, d) => bytes.length + uptoBulk d + 1
  | (_, d) => uptoBulk d + 1
 end
def uptoSmall : (H : Type) → List (DataW H) → Bool := fun _ ds => decide (uptoBulkAll ds ≤ 1048576)
def OpenSpec.upto (s : _root_.Go.ChangeSpec) : _root_.Go.OpenSpec := { _root_.Go.OpenSpec.ofChange s with cond := some uptoSmall }

/-- 'shoeboxlaw04.PulseRegisters', WHERE WHAT IT READS IS OF BULK AT MOST 1048576: true; the input reads as it did. -/
def pulseRegistersUptoRow : OpenClaim := { program := "ytcoimlnplaidiaa", sum := "ab38506376dc8289735aefbccad325267a93d952b135b2ec68bb0d5129e813aa", func := "shoebox/shoeboxlaw04.PulseRegisters", spec := "pulseRegisters", inPlace := ["math.Float64bits"], unfollowed := true, recurses := true, apart := false, narrowed := true }
def PulseRegistersUptoSaid : Prop := pulseRegistersUptoRow.holds Try.pinned (OpenSpec.upto pulseRegistersSpec)

/-- 'shoeboxlaw04.PulseExcites', WHERE WHAT IT READS IS OF BULK AT MOST 1048576: true; the input reads as it did. -/
def pulseExcitesUptoRow : OpenClaim := { program := "ytcoimlnplaidiaa", sum := "ab38506376dc8289735aefbccad325267a93d952b135b2ec68bb0d5129e813aa", func := "shoebox/shoeboxlaw04.PulseExcites", spec := "pulseExcites", inPlace := ["math.Float64bits"], unfollowed := true, recurses := true, apart := false, narrowed := true }
def PulseExcitesUptoSaid : Prop := pulseExcitesUptoRow.holds Try.pinned (OpenSpec.upto pulseExcitesSpec)

/-- 'shoeboxlaw04.PulseTransforms', WHERE WHAT IT READS IS OF BULK AT MOST 1048576: true; the input reads as it did. -/
def pulseTransformsUptoRow : OpenClaim := { program := "ytcoimlnplaidiaa", sum := "ab38506376dc8289735aefbccad325267a93d952b135b2ec68bb0d5129e813aa", func := "shoebox/shoeboxlaw04.PulseTransforms", spec := "pulseTransforms", inPlace := ["math.Float64bits"], unfollowed := true, recurses := true, apart := false, narrowed := true }
def PulseTransformsUptoSaid : Prop := pulseTransformsUptoRow.holds Try.pinned (OpenSpec.upto pulseTransformsSpec)

/-- 'shoeboxlaw04.PulseFields', WHERE WHAT IT READS IS OF BULK AT MOST 1048576: true; the input reads as it did. -/
def pulseFieldsUptoRow : OpenClaim := { program := "ytcoimlnplaidiaa", sum := "ab38506376dc8289735aefbccad325267a93d952b135b2ec68bb0d5129e813aa", func := "shoebox/shoeboxlaw04.PulseFields", spec := "pulseFields", inPlace := ["math.Float64bits"], unfollowed := true, recurses := true, apart := false, narrowed := true }
def PulseFieldsUptoSaid : Prop := pulseFieldsUptoRow.holds Try.pinned (OpenSpec.upto pulseFieldsSpec)

/-- 'shoeboxlaw04.PulseCorrelates', WHERE WHAT IT READS IS OF BULK AT MOST 1048576: true; the input reads as it did. -/
def pulseCorrelatesUptoRow : OpenClaim := { program := "ytcoimlnplaidiaa", sum := "ab38506376dc8289735aefbccad325267a93d952b135b2ec68bb0d5129e813aa", func := "shoebox/shoeboxlaw04.PulseCorrelates", spec := "pulseCorrelates", inPlace := ["math.Float64bits"], unfollowed := true, recurses := true, apart := false, narrowed := true }
def PulseCorrelatesUptoSaid : Prop := pulseCorrelatesUptoRow.holds Try.pinned (OpenSpec.upto pulseCorrelatesSpec)

/-- 'shoeboxlaw04.PulseStates', WHERE WHAT IT READS IS OF BULK AT MOST 1048576: true; the input reads as it did. -/
def pulseStatesUptoRow : OpenClaim := { program := "ytcoimlnplaidiaa", sum := "ab38506376dc8289735aefbccad325267a93d952b135b2ec68bb0d5129e813aa", func := "shoebox/shoeboxlaw04.PulseStates", spec := "pulseStates", inPlace := ["math.Float64bits"], unfollowed := true, recurses := true, apart := false, narrowed := true }
def PulseStatesUptoSaid : Prop := pulseStatesUptoRow.holds Try.pinned (OpenSpec.upto pulseStatesSpec)

/-- 'shoeboxlaw04.PulseUnfolds', WHERE WHAT IT READS IS OF BULK AT MOST 1048576: true; the input reads as it did. -/
def pulseUnfoldsUptoRow : OpenClaim := { program := "ytcoimlnplaidiaa", sum := "ab38506376dc8289735aefbccad325267a93d952b135b2ec68bb0d5129e813aa", func := "shoebox/shoeboxlaw04.PulseUnfolds", spec := "pulseUnfolds", inPlace := ["math.Float64bits"], unfollowed := true, recurses := true, apart := false, narrowed := true }
def PulseUnfoldsUptoSaid : Prop := pulseUnfoldsUptoRow.holds Try.pinned (OpenSpec.upto pulseUnfoldsSpec)

/-- 'shoeboxlaw04.PulseTakes', WHERE WHAT IT READS IS OF BULK AT MOST 1048576: true; the input reads as it did. -/
def pulseTakesUptoRow : OpenClaim := { program := "ytcoimlnplaidiaa", sum := "ab38506376dc8289735aefbccad325267a93d952b135b2ec68bb0d5129e813aa", func := "shoebox/shoeboxlaw04.PulseTakes", spec := "pulseTakes", inPlace := ["math.Float64bits", "math.Float32bits"], unfollowed := true, recurses := true, apart := false, narrowed := true }
def PulseTakesUptoSaid : Prop := pulseTakesUptoRow.holds Try.pinned (OpenSpec.upto pulseTakesSpec)

/-- 'shoeboxlaw04.PulseMaximal', WHERE WHAT IT READS IS OF BULK AT MOST 1048576: true; the input reads as it did. -/
def pulseMaximalUptoRow : OpenClaim := { program := "ytcoimlnplaidiaa", sum := "ab38506376dc8289735aefbccad325267a93d952b135b2ec68bb0d5129e813aa", func := "shoebox/shoeboxlaw04.PulseMaximal", spec := "pulseMaximal", inPlace := ["math.Float64bits"], unfollowed := true, recurses := true, apart := false, narrowed := true }
def PulseMaximalUptoSaid : Prop := pulseMaximalUptoRow.holds Try.pinned (OpenSpec.upto pulseMaximalSpec)

/-- 'shoeboxlaw04.PulseOtherWay', WHERE WHAT IT READS IS OF BULK AT MOST 1048576: true; the input reads as it did. -/
def pulseOtherWayUptoRow : OpenClaim := { program := "ytcoimlnplaidiaa", sum := "ab38506376dc8289735aefbccad325267a93d952b135b2ec68bb0d5129e813aa", func := "shoebox/shoeboxlaw04.PulseOtherWay", spec := "pulseOtherWay", inPlace := ["math.Float64bits"], unfollowed := true, recurses := true, apart := false, narrowed := true }
def PulseOtherWayUptoSaid : Prop := pulseOtherWayUptoRow.holds Try.pinned (OpenSpec.upto pulseOtherWaySpec)

/-- 'shoeboxlaw04.PulseSweeps', WHERE WHAT IT READS IS OF BULK AT MOST 1048576: true; the input reads as it did. -/
def pulseSweepsUptoRow : OpenClaim := { program := "ytcoimlnplaidiaa", sum := "ab38506376dc8289735aefbccad325267a93d952b135b2ec68bb0d5129e813aa", func := "shoebox/shoeboxlaw04.PulseSweeps", spec := "pulseSweeps", inPlace := ["math.Float64bits"], unfollowed := true, recurses := true, apart := false, narrowed := true }
def PulseSweepsUptoSaid : Prop := pulseSweepsUptoRow.holds Try.pinned (OpenSpec.upto pulseSweepsSpec)

/-- 'shoeboxlaw04.PulsePeriods', WHERE WHAT IT READS IS OF BULK AT MOST 1048576: true; the input reads as it did. -/
def pulsePeriodsUptoRow : OpenClaim := { program := "ytcoimlnplaidiaa", sum := "ab38506376dc8289735aefbccad325267a93d952b135b2ec68bb0d5129e813aa", func := "shoebox/shoeboxlaw04.PulsePeriods", spec := "pulsePeriods", inPlace := ["math.Float64bits"], unfollowed := true, recurses := true, apart := false, narrowed := true }
def PulsePeriodsUptoSaid : Prop := pulsePeriodsUptoRow.holds Try.pinned (OpenSpec.upto pulsePeriodsSpec)

/-- 'shoeboxlaw04.PulseBack', WHERE WHAT IT READS IS OF BULK AT MOST 1048576: true; the input reads as it did. -/
def pulseBackUptoRow : OpenClaim := { program := "ytcoimlnplaidiaa", sum := "ab38506376dc8289735aefbccad325267a93d952b135b2ec68bb0d5129e813aa", func := "shoebox/shoeboxlaw04.PulseBack", spec := "pulseBack", inPlace := ["math.Float64bits"], unfollowed := true, recurses := true, apart := false, narrowed := true }
def PulseBackUptoSaid : Prop := pulseBackUptoRow.holds Try.pinned (OpenSpec.upto pulseBackSpec)

/-- 'shoeboxtop.TopTwoUnfoldings', WHERE WHAT IT READS IS OF BULK AT MOST 1048576: true; the input reads as it did. -/
def topTwoUnfoldingsUptoRow : OpenClaim := { program := "ytcoimlnplaidiaa", sum := "ab38506376dc8289735aefbccad325267a93d952b135b2ec68bb0d5129e813aa", func := "shoebox/shoeboxtop.TopTwoUnfoldings", spec := "topTwoUnfoldings", inPlace := ["math.Float64bits"], unfollowed := true, recurses := true, apart := false, narrowed := true }
def TopTwoUnfoldingsUptoSaid : Prop := topTwoUnfoldingsUptoRow.holds Try.pinned (OpenSpec.upto topTwoUnfoldingsSpec)

end Rows
end Go.Proofs.Ytcoimlnplaidiaa
