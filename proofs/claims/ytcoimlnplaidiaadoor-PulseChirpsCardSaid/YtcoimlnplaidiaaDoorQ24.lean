/- Contracts: CheckMaximal, IsMaximal, the reference's primes; what CheckMaximal says of the right primes. Conditions: each contract's own. -/
import Derived.Test.YtcoimlnplaidiaaDoorQ21
namespace Go.Eng.Pu
open Go.Eng Go.Proofs
set_option linter.all false
set_option maxRecDepth 100000
set_option maxHeartbeats 8000000

theorem mosts {L : Int} (h : 2 ≤ L ∧ L ≤ 8) : most L = 3 ∨ most L = 7 ∨ most L = 15 ∨ most L = 31 ∨ most L = 63 ∨ most L = 127 ∨ most L = 255 := by
  rcases lens h with rfl | rfl | rfl | rfl | rfl | rfl | rfl <;> decide

def isMost (n : Int) : Prop := n = 3 ∨ n = 7 ∨ n = 15 ∨ n = 31 ∨ n = 63 ∨ n = 127 ∨ n = 255

def rfK (n : Int) : Nat := firstAt (fun k => decide ((rs n k).1 ≤ 1)) 130 0

theorem rs_done {n : Int} (h : isMost n) : (rs n 126).1 = 1 ∧ (rs n (rfK n)).2 = prO n := by
  rcases h with rfl | rfl | rfl | rfl | rfl | rfl | rfl <;> decide +kernel

@[reducible] def sRPrimes : Spec := { pats := [.dat I64], res := [{ t := .sl I64 }], pre := fun x => isMost x.1, f := fun x => (prO x.1, ()) }

def prE (ps : List Int) : Nat → Nat → Int
  | 0, _ => 0
  | k + 1, i => if 2 ≤ ps.getD i 0 ∧ ps.getD i 0 ≤ 255 then (if 0 < i ∧ ps.getD i 0 ≤ ps.getD (i - 1) 0 then 9 else prE ps k (i + 1)) else 2

theorem prE_step {ps : List Int} {i : Nat} (h : i < ps.length) : prE ps (ps.length - i) i = if 2 ≤ ps.getD i 0 ∧ ps.getD i 0 ≤ 255 then (if 0 < i ∧ ps.getD i 0 ≤ ps.getD (i - 1) 0 then 9 else prE ps (ps.length - (i + 1)) (i + 1)) else 2 := by
  obtain ⟨k, hk⟩ : ∃ k, ps.length - i = k + 1 := ⟨ps.length - i - 1, by omega⟩
  rw [hk, show ps.length - (i + 1) = k from by omega]
  rfl

theorem prE_zero {ps : List Int} : ∀ {k i : Nat}, prE ps k i = 0 → ∀ j, i ≤ j → j < i + k → 2 ≤ ps.getD j 0 ∧ ps.getD j 0 ≤ 255
  | 0, i, _, j, h1, h2 => by omega
  | k + 1, i, h, j, h1, h2 => by
    simp only [prE] at h
    split at h
    · rename_i ha
      split at h
      · cases h
      · by_cases hj : j = i
        · subst hj; exact ha
        · exact prE_zero h j (by omega) (by omega)
    · cases h

def mxE (L : Int) (xs ps : List Int) : Nat → Nat → Int
  | 0, _ => 0
  | k + 1, i => if atI L xs 1 ((most L).tdiv (ps.getD i 0)) = 1 then 20 else mxE L xs ps k (i + 1)

theorem mxE_step {L : Int} {xs ps : List Int} {n i : Nat} (h : i < n) : mxE L xs ps (n - i) i = if atI L xs 1 ((most L).tdiv (ps.getD i 0)) = 1 then 20 else mxE L xs ps (n - (i + 1)) (i + 1) := by
  obtain ⟨k, hk⟩ : ∃ k, n - i = k + 1 := ⟨n - i - 1, by omega⟩
  rw [hk, show n - (i + 1) = k from by omega]
  rfl

def cmErr (L : Int) (xs ps : List Int) : Int :=
  if opErr L xs 1 = 0 then (if ps.length ≤ 8 then (if prE ps ps.length 0 = 0 then (if ps = prO (most L) ∧ atI L xs 1 (most L) = 1 then mxE L xs ps ps.length 0 else 20) else prE ps ps.length 0) else 8) else opErr L xs 1

@[reducible] def sCheckMax : Spec := { pats := [.dat Reg0, .dat (.sl I64)], res := [{ t := I64 }], pre := fun x => pLen (List.length (α := Int) x.1.2.1) ∧ pLen (List.length (α := Int) x.2.1), f := fun x => (cmErr x.1.1 x.1.2.1 x.2.1, ()) }

theorem cm_first (L : Int) (xs ps : List Int) : firstI [opErr L xs 1, cond (decide ((ps.length : Int) ≤ 8)) 0 8] = if opErr L xs 1 = 0 then (if ps.length ≤ 8 then 0 else 8) else opErr L xs 1 := by
  rw [first2]
  by_cases h : opErr L xs 1 = 0
  · rw [if_pos h, if_pos h]
    by_cases h2 : ps.length ≤ 8
    · rw [if_pos h2, decide_eq_true (by omega)]; rfl
    · rw [if_neg h2, decide_eq_false (by omega)]; rfl
  · rw [if_neg h, if_neg h]

theorem prO_len {L : Int} (h : 2 ≤ L ∧ L ≤ 8) : (prO (most L)).length ≤ 8 ∧ prE (prO (most L)) (prO (most L)).length 0 = 0 := by
  rcases lens h with rfl | rfl | rfl | rfl | rfl | rfl | rfl <;> decide +kernel

@[reducible] def sPIsMax : Spec := { pats := [.dat Reg0], res := [{ t := .bool }, { t := I64 }], pre := fun x => pLen (List.length (α := Int) x.1.2.1), f := fun x => ((decide (opErr x.1.1 x.1.2.1 1 = 0) && decide ((per x.1.1 x.1.2.1 1 : Int) = most x.1.1)), opErr x.1.1 x.1.2.1 1, ()) }

end Go.Eng.Pu
