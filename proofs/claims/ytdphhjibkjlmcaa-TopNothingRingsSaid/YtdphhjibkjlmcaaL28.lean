/- Contract of the reference's Rings; the law LoopProofs returns true. Conditions: each contract's own. -/
import Derived.Test.YtdphhjibkjlmcaaL27
namespace Go.Eng.Lp
open Go.Eng Go.Proofs
set_option linter.all false
set_option maxRecDepth 100000
set_option maxHeartbeats 8000000

@[reducible] def sLoopProofs : Spec := { pats := [.dat LoopT, .dat (.sl ArcT), .dat ArcT], res := [{ t := .bool }], pre := fun _ => True, f := fun _ => (true, ()) }

theorem crErr_no {T : List Int} {g a b : Int} (hc : ¬ fCheckLoop T g = 0) : crErr T g a b = fCheckLoop T g := by
  have e : abErr T g a b = fCheckLoop T g := by simp only [abErr]; rw [if_neg hc]
  simp only [crErr]; rw [e, if_neg hc]
theorem crErr_arc {T : List Int} {g a b : Int} (hc : fCheckLoop T g = 0) (ha : ¬ fArcErr a b = 0) : crErr T g a b = fArcErr a b := by
  have e : abErr T g a b = fArcErr a b := by simp only [abErr]; rw [if_pos hc]
  simp only [crErr]; rw [e, if_neg ha]
theorem crErr_ok {T : List Int} {g a b : Int} (hc : fCheckLoop T g = 0) (ha : fArcErr a b = 0) : crErr T g a b = if fRings T g a b = true then 0 else 20 := by
  have e : abErr T g a b = fArcErr a b := by simp only [abErr]; rw [if_pos hc]
  simp only [crErr]; rw [e, if_pos ha]

end Go.Eng.Lp
