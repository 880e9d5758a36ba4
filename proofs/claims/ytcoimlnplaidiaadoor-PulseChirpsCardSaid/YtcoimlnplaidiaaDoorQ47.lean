/- Contracts: Folded, of the program and of the reference. Conditions: each contract's own. -/
import Derived.Test.YtcoimlnplaidiaaDoorQ46
namespace Go.Eng.Pu
open Go.Eng Go.Proofs
set_option linter.all false
set_option maxRecDepth 100000
set_option maxHeartbeats 8000000

theorem lP_okL {xs : CL} (h : lE xs = 0) : okL 16777216 (lP xs) := fun i => by
  obtain ⟨g1, g2, g3⟩ := lE_ok h
  unfold lP
  rw [if_pos h]
  by_cases hi : i < xs.length
  · rw [tab_get _ _ _ _ hi]
    obtain ⟨a, b⟩ := eE_zero (g3 i hi)
    have c := pE_zero a
    have d := pE_zero b
    exact ⟨⟨c.2.2.1, c.2.2.2.1⟩, ⟨d.2.2.1, d.2.2.2.1⟩⟩
  · have : (tab (fun i => prT (xs.getD i (0, 0))) xs.length).getD i (0, 0, ()) = (0, 0, ()) := by
      simp only [List.getD]
      rw [List.getElem?_eq_none (by rw [tab_len]; omega)]; rfl
    rw [this]
    exact ⟨⟨by show (-16777216 : Int) ≤ 0; omega, by show (0 : Int) ≤ 16777216; omega⟩, ⟨by show (-16777216 : Int) ≤ 0; omega, by show (0 : Int) ≤ 16777216; omega⟩⟩

theorem okL_mono {B C : Int} {ps : List IP} (h : okL B ps) (hb : B ≤ C) : okL C ps := fun i => by
  have := h i
  omega

def fdE (xs : CL) (p : Int) : Int := if lE xs = 0 then (if 1 ≤ p ∧ p ≤ 1024 then tE (flL (lP xs) p.toNat (lP xs).length) else 2) else lE xs
def fdL (xs : CL) (p : Int) : CL := if lE xs = 0 then (if 1 ≤ p ∧ p ≤ 1024 then tL (flL (lP xs) p.toNat (lP xs).length) else []) else []

@[reducible] def sFolded : Spec := { pats := [.dat (.sl C64), .dat I64], res := [{ own := some 48, t := .sl C64 }, { t := I64 }], pre := fun _ => True, f := fun x => (fdL x.1 x.2.1, fdE x.1 x.2.1, ()) }

theorem two_len (a b : Int) : pLen [a, b].length := by unfold pLen; show ((2 : Nat) : Int) ≤ _; omega

end Go.Eng.Pu
