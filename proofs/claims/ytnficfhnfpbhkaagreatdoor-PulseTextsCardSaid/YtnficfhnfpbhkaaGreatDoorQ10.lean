/- Contracts of the reference: bits, next state, period. Conditions: the register is right, the start a state. -/
import Derived.Test.YtnficfhnfpbhkaaGreatDoorQ9
namespace Go.Eng.Pu
open Go.Eng Go.Proofs
set_option linter.all false
set_option maxRecDepth 100000
set_option maxHeartbeats 8000000

abbrev sOwn (t k el : Nat) (xs : List Int) : St := [.slot t (.one (.o k xs.length)), .row k el I64 xs]

@[reducible] def sRBits : Spec := { pats := [.dat Reg0, .dat I64, .dat I64], res := [{ own := some 3, t := .sl I64 }], pre := fun x => pSt x.1.1 x.1.2.1 x.2.1 ∧ 0 ≤ x.2.2.1 ∧ x.2.2.1 ≤ (1024 : Int), f := fun x => (tab (bitI x.1.1 x.1.2.1 x.2.1) (Int.toNat x.2.2.1), ()) }

/-- The start, as it is when k bits are made. -/
def shS (L s : Int) (k : Nat) : Int := s / 2 ^ min k L.toNat

theorem shS_in {L s : Int} (h : 0 ≤ s) (k : Nat) : 0 ≤ shS L s k ∧ shS L s k ≤ s :=
  ⟨Int.ediv_nonneg h (Int.pow_nonneg (by omega)), Int.ediv_le_self _ h⟩

theorem shS_bit {L : Int} {xs : List Int} {s : Int} (h : pSt L xs s) {k : Nat} (hk : (k : Int) < L) : (shS L s k).tmod 2 = bitI L xs s k := by
  have := (shS_in (L := L) h.2.2.1 k).1
  rw [Int.tmod_eq_emod_of_nonneg this, bit_head h hk, shS, Nat.min_eq_left (by omega)]

theorem shS_step {L : Int} {s : Int} (h : 0 ≤ s) {k : Nat} (hk : (k : Int) < L) : (shS L s k).tdiv 2 = shS L s (k + 1) := by
  have := (shS_in (L := L) h k).1
  rw [Int.tdiv_eq_ediv_of_nonneg this, shS, shS, Nat.min_eq_left (by omega), Nat.min_eq_left (by omega), Int.ediv_ediv_of_nonneg (Int.pow_nonneg (by omega)), Int.pow_succ]

theorem shS_stay {L : Int} {s : Int} {k : Nat} (hk : L ≤ (k : Int)) : shS L s k = shS L s (k + 1) := by
  rw [shS, shS, Nat.min_eq_right (by omega), Nat.min_eq_right (by omega)]

theorem tapSum_in (L : Int) (xs : List Int) (s : Int) (t : Nat) : ∀ j : Nat, 0 ≤ tapSum L xs s t j ∧ tapSum L xs s t j ≤ j
  | 0 => by simp [tapSum, sm]
  | j + 1 => by
    have ih := tapSum_in L xs s t j
    have := bit_01 (L := L) (xs := xs) (s := s) (t - (xs.getD j 0).toNat)
    have e : tapSum L xs s t (j + 1) = tapSum L xs s t j + bitI L xs s (t - (xs.getD j 0).toNat) := rfl
    rw [e]; omega

theorem tab_at {L : Int} {xs : List Int} {s x : Int} {t : Nat} (h1 : 1 ≤ x) (h2 : x ≤ t) : (tab (bitI L xs s) t).getD ((t : Int) - x).toNat (Ty.dflt I64) = bitI L xs s (t - x.toNat) := by
  rw [show ((t : Int) - x).toNat = t - x.toNat from by omega]
  exact tab_get _ _ _ _ (by omega)

@[reducible] def sRNext : Spec := { pats := [.dat Reg0, .dat I64], res := [{ t := I64 }], pre := fun x => pSt x.1.1 x.1.2.1 x.2.1, f := fun x => (nxt x.1.1 x.1.2.1 x.2.1, ()) }

@[reducible] def sRPer : Spec := { pats := [.dat Reg0, .dat I64], res := [{ t := I64 }], pre := fun x => pSt x.1.1 x.1.2.1 x.2.1, f := fun x => ((per x.1.1 x.1.2.1 x.2.1 : Int), ()) }

end Go.Eng.Pu
