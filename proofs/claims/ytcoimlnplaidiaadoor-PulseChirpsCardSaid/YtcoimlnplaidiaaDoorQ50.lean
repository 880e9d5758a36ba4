/- The law PulseExcites. Conditions: none. -/
import Derived.Test.YtcoimlnplaidiaaDoorQ49
namespace Go.Eng.Pu
open Go.Eng Go.Proofs
set_option linter.all false
set_option maxRecDepth 100000
set_option maxHeartbeats 8000000

abbrev RawL := List (Nat × Nat × Unit)
def few (n : Nat) : Bool := decide (n ≤ 40) || (decide (1024 < n) && decide (n ≤ 1026))

theorem few_le {n : Nat} (h : few n = true) : n ≤ 1026 := by
  unfold few at h
  simp at h
  omega

@[reducible] def sFew : Spec := { pats := [.dat (.sl RawT)], res := [{ t := .bool }], pre := fun _ => True, f := fun x => (few (List.length (α := Nat × Nat × Unit) x.1), ()) }

theorem lsL_len (l : RawL) : (lsL l).length = l.length := tab_len _ _

theorem fdL_ok (xs : CL) (p : Int) : okC (fdL xs p) := by
  unfold fdL
  split
  · split
    · exact tL_ok _
    · exact okC_nil
  · exact okC_nil

theorem fdL_len {xs : CL} {p : Int} : (fdL xs p).length ≤ 1024 := by
  unfold fdL
  split
  · split
    · rename_i h1
      have a := tL_len (flL (lP xs) p.toNat (lP xs).length)
      have b : (flL (lP xs) p.toNat (lP xs).length).length = p.toNat := tab_len _ _
      omega
    · exact Nat.zero_le _
  · exact Nat.zero_le _

theorem exR_len {xs : CL} {L : Int} {ts : List Int} {s : Int} (hts : pLen ts.length) : (exR xs L ts s).length ≤ 1024 := by
  unfold exR
  split
  · split
    · rename_i ho
      split
      · have a := tL_len (exL xs L ts s)
        have b : (exL xs L ts s).length = (most L).toNat := tab_len _ _
        have c := most_in (chk_zero (op_pSt hts ho).1.1).1
        omega
      · exact Nat.zero_le _
    · exact Nat.zero_le _
  · exact Nat.zero_le _

abbrev StartT : Ty := .cons Reg0 (.cons I64 .nil)
@[reducible] def sLaw4 : Spec := { pats := [.dat (.sl RawT), .dat StartT, .dat I64], res := [{ t := .bool }], pre := fun _ => True, f := fun _ => (true, ()) }

end Go.Eng.Pu
