/- Laws on pairs of small numbers. Conditions: each lemma's own. -/
import Derived.Test.YtcoimlnplaidiaaDoorQ51A
namespace Go.Eng.Pu
open Go.Eng Go.Proofs
set_option linter.all false
set_option maxRecDepth 100000

def inBP (B : Int) (a : IP) : Prop := (-B ≤ a.1 ∧ a.1 ≤ B) ∧ (-B ≤ a.2.1 ∧ a.2.1 ≤ B)

theorem okI_le {n B : Int} (h : -B ≤ n ∧ n ≤ B) (hB : B ≤ 4000000000000000000) : okI n := ⟨by omega, by omega⟩

theorem add_ok {a b A B : Int} (h1 : -A ≤ a ∧ a ≤ A) (h2 : -B ≤ b ∧ b ≤ B) (hB : A + B ≤ 9000000000000000000 := by decide) : -9223372036854775808 ≤ a + b ∧ a + b ≤ 9223372036854775807 := ⟨by omega, by omega⟩
theorem sub_ok {a b A B : Int} (h1 : -A ≤ a ∧ a ≤ A) (h2 : -B ≤ b ∧ b ≤ B) (hB : A + B ≤ 9000000000000000000 := by decide) : -9223372036854775808 ≤ a - b ∧ a - b ≤ 9223372036854775807 := ⟨by omega, by omega⟩

theorem okL_inBP {B : Int} {ps : List IP} (h : okL B ps) (i : Nat) : inBP B (ps.getD i (0, 0, ())) := h i

theorem plusP_in {A B : Int} {a b : IP} (ha : inBP A a) (hb : inBP B b) : inBP (A + B) (plusP a b) := by
  obtain ⟨a1, a2⟩ := ha
  obtain ⟨b1, b2⟩ := hb
  show (_ ≤ a.1 + b.1 ∧ a.1 + b.1 ≤ _) ∧ (_ ≤ a.2.1 + b.2.1 ∧ a.2.1 + b.2.1 ≤ _)
  omega

theorem inBP_mono {A B : Int} {a : IP} (h : inBP A a) (hAB : A ≤ B) : inBP B a := by
  obtain ⟨a1, a2⟩ := h
  exact ⟨⟨by omega, by omega⟩, ⟨by omega, by omega⟩⟩

theorem plusP_zero (a : IP) : plusP a (0, 0, ()) = a := by
  obtain ⟨x, y, u⟩ := a
  show (x + 0, y + 0, ()) = _
  rw [Int.add_zero, Int.add_zero]
theorem plusP_zero' (a : IP) : plusP (0, 0, ()) a = a := by
  obtain ⟨x, y, u⟩ := a
  show (0 + x, 0 + y, ()) = _
  rw [Int.zero_add, Int.zero_add]
theorem fits_of {p : IP} (h : inBP 16777216 p) : fits p = true := by
  show (fRec p.1 && fRec p.2.1) = true
  rw [show fRec p.1 = true from decide_eq_true h.1, show fRec p.2.1 = true from decide_eq_true h.2]; rfl


end Go.Eng.Pu
