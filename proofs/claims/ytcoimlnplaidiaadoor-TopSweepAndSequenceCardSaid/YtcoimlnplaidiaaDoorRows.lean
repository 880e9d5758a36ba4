/-
  NARROWER THAN 'FOR EVERY INPUT', by the rows' own cells (each row's printed sentence says how): PulseChirps: laid · TopSweepAndSequence: laid · PulseDivides: laid.
  DERIVED. THE GIVEN ROWS OF THIS SEAT. 3 by the template 'for every input the law returns true; each argument reads behind the call as it read before'; 0 by the template 'total and deterministic' (their statements: YtcoimlnplaidiaaDoorTotals.lean).
  GIVEN WITH THE SEED: the statements are not yours to turn. If you find one false, say at which input.
  Laid BY PROGRAM, IN A SANDBOX (cutbox-rows.mjs): the forced cells as the released guide's own fill.sh prints them over the translation fa6fa5e8312920f9… (all of the seat's roots in one cut). By AI agents, Wed Nov 11 2026. No macro, syntax, notation, axiom, sorry.
-/
import Derived.Test.YtcoimlnplaidiaaDoorChecked
import GoSem.Claim
import GoSem.ClaimJoined
import GoSem.ClaimMapViews
import Derived.JoinedTies
import Derived.KernelRfl
namespace Go.Proofs.YtcoimlnplaidiaaDoor
/- THE CELL 'sum', in the pinned program and in every row, IS THE sha256 OF THE DUMP (.gsa) THAT YtcoimlnplaidiaaDoorProg.lean LOADS. Nothing in Lean hashes anything: it is a label: what it is worth is what the hold of that sum in a sandbox is worth. -/
noncomputable def Tryd.pinned : Pinned := { name := "ytcoimlnplaidiaadoor", sum := "fa6fa5e8312920f9ebf33ebf1823cb67caf7008b36331cf3ac35bf562e558f73", checked := Tryd.checked }
namespace Rows
def none {H : Type} : Left H := { results := [], args := [] }

/- WHAT THE LISTED PACKAGE-LEVEL VARIABLES READ AS WHEN THE CALL BEGINS. Each datum BY PROGRAM (the guide's laid-datum.mjs) off the statement by which the dump's own 'gosem.cut.vars' lays the variable. In a bare row this is a premise. The card (YtcoimlnplaidiaaDoorCards.lean) ties it to the program's text. -/
def laid_shoebox_pulse_turns {H : Type} : DataW H := .agg [.agg [.lit (.int .i64 1), .lit (.int .i64 0)], .agg [.lit (.int .i64 0), .lit (.int .i64 1)], .agg [.lit (.int .i64 (-1)), .lit (.int .i64 0)], .agg [.lit (.int .i64 0), .lit (.int .i64 (-1))]]

/-- 'shoeboxlaw04.PulseChirps': WHATEVER THE INPUT: true; the input reads as it did. -/
def pulseChirpsSpec : ChangeSpec := { name := "pulseChirps", fn := fun _ => fun
  | [d1, d2] => { results := [.lit (.bool true)], args := [d1, d2] }
  | _ => none }
def pulseChirpsRow : OpenClaim := { program := "ytcoimlnplaidiaadoor", sum := "fa6fa5e8312920f9ebf33ebf1823cb67caf7008b36331cf3ac35bf562e558f73", func := "shoebox/shoeboxlaw04.PulseChirps", spec := "pulseChirps", inPlace := ["math.Float64bits"], unfollowed := true, recurses := true, named := ["shoebox/pulse.turns"], apart := false, laid := [("shoebox/pulse.turns", laid_shoebox_pulse_turns)] }
def PulseChirpsSaid : Prop := pulseChirpsRow.holds Tryd.pinned (OpenSpec.ofChange pulseChirpsSpec)

/-- ITS FALSE NEIGHBOUR: 'it returns false'. Refute it at one input. -/
def pulseChirpsWrong : ChangeSpec := { name := "pulseChirps", fn := fun _ => fun
  | [d1, d2] => { results := [.lit (.bool false)], args := [d1, d2] }
  | _ => none }
def PulseChirpsWrongFalsely : Prop := pulseChirpsRow.holds Tryd.pinned (OpenSpec.ofChange pulseChirpsWrong)

/-- 'shoeboxtop.TopSweepAndSequence': WHATEVER THE INPUT: true; the input reads as it did. -/
def topSweepAndSequenceSpec : ChangeSpec := { name := "topSweepAndSequence", fn := fun _ => fun
  | [d1, d2, d3] => { results := [.lit (.bool true)], args := [d1, d2, d3] }
  | _ => none }
def topSweepAndSequenceRow : OpenClaim := { program := "ytcoimlnplaidiaadoor", sum := "fa6fa5e8312920f9ebf33ebf1823cb67caf7008b36331cf3ac35bf562e558f73", func := "shoebox/shoeboxtop.TopSweepAndSequence", spec := "topSweepAndSequence", inPlace := ["math.Float64bits"], unfollowed := true, recurses := true, named := ["shoebox/pulse.turns"], apart := false, laid := [("shoebox/pulse.turns", laid_shoebox_pulse_turns)] }
def TopSweepAndSequenceSaid : Prop := topSweepAndSequenceRow.holds Tryd.pinned (OpenSpec.ofChange topSweepAndSequenceSpec)

/-- ITS FALSE NEIGHBOUR: 'it returns false'. Refute it at one input. -/
def topSweepAndSequenceWrong : ChangeSpec := { name := "topSweepAndSequence", fn := fun _ => fun
  | [d1, d2, d3] => { results := [.lit (.bool false)], args := [d1, d2, d3] }
  | _ => none }
def TopSweepAndSequenceWrongFalsely : Prop := topSweepAndSequenceRow.holds Tryd.pinned (OpenSpec.ofChange topSweepAndSequenceWrong)

/-- 'shoeboxlaw04.PulseDivides': WHATEVER THE INPUT: true; the input reads as it did. -/
def pulseDividesSpec : ChangeSpec := { name := "pulseDivides", fn := fun _ => fun
  | [d1, d2, d3] => { results := [.lit (.bool true)], args := [d1, d2, d3] }
  | _ => none }
def pulseDividesRow : OpenClaim := { program := "ytcoimlnplaidiaadoor", sum := "fa6fa5e8312920f9ebf33ebf1823cb67caf7008b36331cf3ac35bf562e558f73", func := "shoebox/shoeboxlaw04.PulseDivides", spec := "pulseDivides", inPlace := ["math.Float64bits"], unfollowed := true, recurses := true, named := ["shoebox/pulse.turns"], apart := false, laid := [("shoebox/pulse.turns", laid_shoebox_pulse_turns)] }
def PulseDividesSaid : Prop := pulseDividesRow.holds Tryd.pinned (OpenSpec.ofChange pulseDividesSpec)

/-- ITS FALSE NEIGHBOUR: 'it returns false'. Refute it at one input. -/
def pulseDividesWrong : ChangeSpec := { name := "pulseDivides", fn := fun _ => fun
  | [d1, d2, d3] => { results := [.lit (.bool false)], args := [d1, d2, d3] }
  | _ => none }
def PulseDividesWrongFalsely : Prop := pulseDividesRow.holds Tryd.pinned (OpenSpec.ofChange pulseDividesWrong)

/- THE SECOND FORM. 'bulk': how many values and letters a reading holds, each counted each time it is reached (what is shared counts as often as it is met; a slice's spare places count too). A statement '..UptoSaid' is the law's where the arguments, and the package variables that the reading takes, are together of bulk at most 1048576: NARROWER than '..Said'. Prove '..Said' where nothing that the law and all that it calls make is longer than what came in: it says more and counts as full. Else prove '..UptoSaid'. A law counts once. -/
mutual
def uptoBulk {H : Type} : DataW H → Nat
  | .lit (.string bytes) => bytes.length + 1
  | .lit _ => 1
  | .nil => 1
  | .ptr d => uptoBulk d + 1
  | .slice elems spare => uptoBulkAll elems + uptoBulkAll spare + 1
  | .agg parts => uptoBulkAll parts + 1
  | .iface _ d => uptoBulk d + 1
  | .map entries => uptoBulkEntries entries + 1
  | .held _ => 1
def uptoBulkAll {H : Type} : List (DataW H) → Nat
  | [] => 0
  | d :: r => uptoBulk d + uptoBulkAll r
def uptoBulkEntries {H : Type} : List (Lit × DataW H) → Nat
  | [] => 0
  | x :: r => uptoBulkEntry x + uptoBulkEntries r
def uptoBulkEntry {H : Type} : Lit × DataW H → Nat
  | (.string bytes, d) => bytes.length + uptoBulk d + 1
  | (_, d) => uptoBulk d + 1
 end
def uptoSmall : (H : Type) → List (DataW H) → Bool := fun _ ds => decide (uptoBulkAll ds ≤ 1048576)
def OpenSpec.upto (s : _root_.Go.ChangeSpec) : _root_.Go.OpenSpec := { _root_.Go.OpenSpec.ofChange s with cond := some uptoSmall }

/-- 'shoeboxlaw04.PulseChirps', WHERE WHAT IT READS IS OF BULK AT MOST 1048576: true; the input reads as it did. -/
def pulseChirpsUptoRow : OpenClaim := { program := "ytcoimlnplaidiaadoor", sum := "fa6fa5e8312920f9ebf33ebf1823cb67caf7008b36331cf3ac35bf562e558f73", func := "shoebox/shoeboxlaw04.PulseChirps", spec := "pulseChirps", inPlace := ["math.Float64bits"], unfollowed := true, recurses := true, named := ["shoebox/pulse.turns"], apart := false, laid := [("shoebox/pulse.turns", laid_shoebox_pulse_turns)], narrowed := true }
def PulseChirpsUptoSaid : Prop := pulseChirpsUptoRow.holds Tryd.pinned (OpenSpec.upto pulseChirpsSpec)

/-- 'shoeboxtop.TopSweepAndSequence', WHERE WHAT IT READS IS OF BULK AT MOST 1048576: true; the input reads as it did. -/
def topSweepAndSequenceUptoRow : OpenClaim := { program := "ytcoimlnplaidiaadoor", sum := "fa6fa5e8312920f9ebf33ebf1823cb67caf7008b36331cf3ac35bf562e558f73", func := "shoebox/shoeboxtop.TopSweepAndSequence", spec := "topSweepAndSequence", inPlace := ["math.Float64bits"], unfollowed := true, recurses := true, named := ["shoebox/pulse.turns"], apart := false, laid := [("shoebox/pulse.turns", laid_shoebox_pulse_turns)], narrowed := true }
def TopSweepAndSequenceUptoSaid : Prop := topSweepAndSequenceUptoRow.holds Tryd.pinned (OpenSpec.upto topSweepAndSequenceSpec)

/-- 'shoeboxlaw04.PulseDivides', WHERE WHAT IT READS IS OF BULK AT MOST 1048576: true; the input reads as it did. -/
def pulseDividesUptoRow : OpenClaim := { program := "ytcoimlnplaidiaadoor", sum := "fa6fa5e8312920f9ebf33ebf1823cb67caf7008b36331cf3ac35bf562e558f73", func := "shoebox/shoeboxlaw04.PulseDivides", spec := "pulseDivides", inPlace := ["math.Float64bits"], unfollowed := true, recurses := true, named := ["shoebox/pulse.turns"], apart := false, laid := [("shoebox/pulse.turns", laid_shoebox_pulse_turns)], narrowed := true }
def PulseDividesUptoSaid : Prop := pulseDividesUptoRow.holds Tryd.pinned (OpenSpec.upto pulseDividesSpec)

end Rows
end Go.Proofs.YtcoimlnplaidiaaDoor
