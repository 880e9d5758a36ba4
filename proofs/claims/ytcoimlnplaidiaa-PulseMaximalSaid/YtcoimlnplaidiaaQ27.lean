/- The first maximal registers of all lengths, by trial: what the program and the reference find is the same. Conditions: none. -/
import Derived.Test.YtcoimlnplaidiaaQ26
namespace Go.Eng.Pu
open Go.Eng Go.Proofs
set_option linter.all false
set_option maxRecDepth 100000
set_option maxHeartbeats 8000000

/-- The period of 1, walked once. -/
def prF (L : Int) (xs : List Int) : Nat → Int → Nat → Nat
  | 0, _, i => i
  | f + 1, cur, i => if cur = 1 then i else prF L xs f (nxt L xs cur) (i + 1)

theorem prF_eq (L : Int) (xs : List Int) : ∀ (f i : Nat), prF L xs f (stI L xs 1 i) i = firstAt (fun i => decide (stI L xs 1 i = 1)) f i
  | 0, i => rfl
  | f + 1, i => by
    simp only [prF, firstAt, decide_eq_true_eq]
    by_cases h : stI L xs 1 i = 1
    · rw [if_pos h, if_pos h]
    · rw [if_neg h, if_neg h]
      exact prF_eq L xs f (i + 1)

def imF (L : Int) (xs : List Int) : Bool := decide ((prF L xs 256 (nxt L xs 1) 1 : Int) = most L)

theorem imF_eq (L : Int) : imF L = imx L := by
  funext xs
  unfold imF imx per
  rw [← prF_eq]
  rfl

/-- The taps that a choice tells: what is left of it, and they, behind j steps. -/
def tpS (c : Int) : Nat → Int × List Int
  | 0 => (c, [])
  | j + 1 => ((tpS c j).1.tdiv 2, if (tpS c j).1.tmod 2 = 1 then (tpS c j).2 ++ [(j + 1 : Int)] else (tpS c j).2)

def bfE (a b : List Int) : Nat → Nat → Bool
  | 0, _ => decide (a.length < b.length)
  | k + 1, i => if i < b.length then (if a.getD i 0 = b.getD i 0 then bfE a b k (i + 1) else decide (a.getD i 0 < b.getD i 0)) else decide (a.length < b.length)

def tapsOf (L c : Int) : List Int := (tpS c (L - 1).toNat).2 ++ [L]

/-- The best taps behind c choices. -/
def bst (im : List Int → Bool) (L : Int) : Nat → List Int
  | 0 => []
  | c + 1 => if im (tapsOf L c) = true ∧ ((bst im L c).length = 0 ∨ bfE (tapsOf L c) (bst im L c) (tapsOf L c).length 0 = true) then tapsOf L c else bst im L c


/-- The best taps of all. -/
def bestT (L : Int) : List Int := bst (imF L) L (P2 (L - 1)).toNat

def tabOk (L : Int) : Bool := decide (fm (imF L) L 9 [] = some (bestT L)) && decide (chk L (bestT L) = 0) && imF L (bestT L) && decide ((bestT L).length ≤ 8) && decide (0 < (bestT L).length) && (List.range (P2 (L - 1)).toNat).all (fun c => decide (chk L (tapsOf L c) = 0) && decide ((tapsOf L c).length ≤ 8))

theorem tb2 : tabOk 2 = true := by decide +kernel
theorem tb3 : tabOk 3 = true := by decide +kernel
theorem tb4 : tabOk 4 = true := by decide +kernel
theorem tb5 : tabOk 5 = true := by decide +kernel
theorem tb6 : tabOk 6 = true := by decide +kernel
theorem tb7 : tabOk 7 = true := by decide +kernel
theorem tb8 : tabOk 8 = true := by decide +kernel

theorem tb_all {L : Int} (h : 2 ≤ L ∧ L ≤ 8) : fm (imx L) L 9 [] = some (bestT L) ∧ chk L (bestT L) = 0 ∧ (per L (bestT L) 1 : Int) = most L ∧ (bestT L).length ≤ 8 ∧ 0 < (bestT L).length ∧ ∀ c : Nat, (c : Int) < P2 (L - 1) → chk L (tapsOf L c) = 0 ∧ (tapsOf L c).length ≤ 8 := by
  have hb : tabOk L = true := by
    rcases lens h with rfl | rfl | rfl | rfl | rfl | rfl | rfl
    · exact tb2
    · exact tb3
    · exact tb4
    · exact tb5
    · exact tb6
    · exact tb7
    · exact tb8
  unfold tabOk at hb
  simp only [Bool.and_eq_true, decide_eq_true_eq] at hb
  obtain ⟨⟨⟨⟨⟨h1, h2⟩, h3⟩, h4⟩, h5⟩, h6⟩ := hb
  rw [imF_eq] at h1 h3
  rw [List.all_eq_true] at h6
  refine ⟨h1, h2, of_decide_eq_true h3, h4, h5, fun c hc => ?_⟩
  have := h6 c (List.mem_range.2 (by omega))
  rw [Bool.and_eq_true] at this
  exact ⟨of_decide_eq_true this.1, of_decide_eq_true this.2⟩

end Go.Eng.Pu
