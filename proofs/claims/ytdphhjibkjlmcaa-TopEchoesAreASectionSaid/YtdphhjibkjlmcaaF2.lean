/- The filter's checks: coefficients, CheckSection, CheckCascade, cascadeErr. Conditions: each contract's own. -/
import Derived.Test.YtdphhjibkjlmcaaF1
namespace Go.Eng.Lp
open Go.Eng Go.Proofs
set_option linter.all false
set_option maxRecDepth 100000
set_option maxHeartbeats 8000000

abbrev B3 : Ty := .cons I64 (.cons I64 (.cons I64 .nil))
abbrev A2 : Ty := .cons I64 (.cons I64 .nil)
abbrev SecT : Ty := .cons B3 (.cons A2 .nil)
abbrev SecD : Type := (Int × Int × Int × Unit) × (Int × Int × Unit) × Unit
abbrev ClT : Ty := .clo 71 (.cons (.ptr SecT) .nil)

def coefL (x : SecD) : List Int := [x.1.1, x.1.2.1, x.1.2.2.1, x.2.1.1, x.2.1.2.1]
@[reducible] def isp71 : ISpec := { rd := [(0, 0, SecT)], e := I64, seq := fun x i => (coefL x.1).getD i 0, len := fun _ => some 5, two := true }

@[reducible] def xF : Xt := { clos := [(71, [SecT])] }
theorem xF_ok : XOk xF := ⟨True.intro, True.intro, True.intro⟩

@[reducible] def sCoef : Spec := { pats := [.dat SecT], res := [{ t := ClT }], pre := fun _ => True, f := fun x => ((x.1, ()), ()) }

/-- filter.coefficients -/
theorem g67 : Ok 67 sCoef := by
  refine mkX (X := xF) xF_ok (ctr := []) trivial (nt := 4) Try.func67 rfl rfl rfl rfl (by kernel_rfl) (by kernel_rfl) (fun _ => []) ?_
  rintro ⟨⟨⟨(b0 : Int), (b1 : Int), (b2 : Int), _⟩, ⟨(a1 : Int), (a2 : Int), _⟩, _⟩, _⟩ _
  repeat' (intro hzz; (try (rename Two => hq; cases hq)); (try dsimp only at hzz); (try simp only [resTy, argTy, eqD, inR, big, wantOf, Bool.not_true, Bool.not_false, Bool.true_eq, decide_eq_true_eq, decide_eq_false_iff_not, Bool.not_eq_true', Bool.not_eq_false', Bool.and_eq_true, Prod.mk.injEq, and_true, true_and, Int.not_lt, Int.not_le, gt_iff_lt, ge_iff_le] at hzz); (try (revert hzz; intro _)))
  all_goals try (rename Unit => hq; clear hq)
  all_goals try ((with_reducible refine Held.mk ?_); (with_reducible (first | refine Frz.mk ?_ | refine And.intro (Frz.mk ?_) ?_ | refine And.intro ?_ (Frz.mk ?_))); repeat' first | exact True.intro | (change _ = _; with_reducible rfl) | refine And.intro ?_ ?_ | (with_reducible refine Frz.mk ?_))
  all_goals try (refine Held.mk ?_; (try dsimp only at *); (try simp only [resTy, argTy, eqD, inR, big, wantOf, Bool.not_true, Bool.not_false, Bool.true_eq, decide_eq_true_eq, decide_eq_false_iff_not, Bool.not_eq_true', Bool.not_eq_false', Bool.and_eq_true, Prod.mk.injEq, and_true, true_and, Int.not_lt, Int.not_le, gt_iff_lt, ge_iff_le] at *))

def isP (n : Int) : Bool := decide (-32768 ≤ n ∧ n ≤ 32768)
def secErr (x : SecD) : Int := if (coefL x).all isP then 0 else 2
@[reducible] def sCheckSec : Spec := { pats := [.dat SecT], res := [{ t := I64 }], pre := fun _ => True, f := fun x => (secErr x.1, ()) }

theorem sec_ok {x : SecD} {k : Nat} (h : k ≤ 5 ∧ ∀ j, j < k → isP ((coefL x).getD j 0) = true) (h1 : some 5 = some k) : 0 = secErr x := by
  obtain rfl : 5 = k := by cases h1; rfl
  have h0 := h.2 0 (by decide)
  have h1 := h.2 1 (by decide)
  have h2 := h.2 2 (by decide)
  have h3 := h.2 3 (by decide)
  have h4 := h.2 4 (by decide)
  simp only [coefL, List.getD_cons_zero, List.getD_cons_succ] at h0 h1 h2 h3 h4
  simp [secErr, coefL, h0, h1, h2, h3, h4]

theorem sec_bad {x : SecD} {k : Nat} (hk : k < 5) (h : ¬ (-32768 ≤ (coefL x).getD k 0 ∧ (coefL x).getD k 0 ≤ 32768)) : 2 = secErr x := by
  have hl : k < (coefL x).length := hk
  have : ¬ ((coefL x).all isP = true) := fun ha => h (by
    have := List.all_eq_true.1 ha ((coefL x)[k]) (List.getElem_mem hl)
    rw [List.getD_eq_getElem?_getD, List.getElem?_eq_getElem hl]
    simpa [isP] using this)
  simp only [secErr]
  rw [if_neg this]

theorem sec_step {x : SecD} {k : Nat} (h : k ≤ 5 ∧ ∀ j, j < k → isP ((coefL x).getD j 0) = true) (hk : k < 5) (h1 : -32768 ≤ (coefL x).getD k 0 ∧ (coefL x).getD k 0 ≤ 32768) :
    k + 1 ≤ 5 ∧ ∀ j, j < k + 1 → isP ((coefL x).getD j 0) = true := by
  refine ⟨hk, fun j hj => ?_⟩
  rcases Nat.lt_or_ge j k with h3 | h3
  · exact h.2 j h3
  · obtain rfl : j = k := by omega
    simpa [isP] using h1

/-- filter.CheckSection -/
theorem g62_of (ih71 : IHolds Try.prog 71 isp71) (en71 : Enters Try.prog 71) : Ok 62 sCheckSec := by
  refine mkX (X := { its := [(71, isp71)], clos := [(71, [SecT])] }) ⟨⟨⟨ih71, en71⟩, trivial⟩, True.intro, True.intro⟩ (ctr := [(67, sCoef), (68, sPart)]) ⟨g67, g68, trivial⟩ (nt := 12) Try.func62 rfl rfl rfl rfl (by kernel_rfl) (by kernel_rfl)
    (fun x => [fun _ => { σ := Nat, pat := fun k => [], inv := fun k => k ≤ 5 ∧ ∀ j, j < k → isP ((coefL x.1).getD j 0) = true, meas := fun k => k }]) ?_
  rintro ⟨⟨⟨(b0 : Int), (b1 : Int), (b2 : Int), _⟩, ⟨(a1 : Int), (a2 : Int), _⟩, _⟩, _⟩ _

  repeat' (intro hzz; (try (rename Two => hq; cases hq)); (try dsimp only at hzz); (try simp only [resTy, argTy, eqD, inR, big, wantOf, Bool.not_true, Bool.not_false, Bool.true_eq, decide_eq_true_eq, decide_eq_false_iff_not, Bool.not_eq_true', Bool.not_eq_false', Bool.and_eq_true, Prod.mk.injEq, and_true, true_and, Int.not_lt, Int.not_le, gt_iff_lt, ge_iff_le] at hzz); (try (revert hzz; intro _)))
  all_goals try (rename Unit => hq; clear hq)
  all_goals try ((with_reducible refine Held.mk ?_); (with_reducible (first | refine Frz.mk ?_ | refine And.intro (Frz.mk ?_) ?_ | refine And.intro ?_ (Frz.mk ?_))); repeat' first | exact True.intro | (change _ = _; with_reducible rfl) | refine And.intro ?_ ?_ | (with_reducible refine Frz.mk ?_))
  all_goals try (refine Held.mk ?_; (try dsimp only at *); (try simp only [resTy, argTy, eqD, inR, big, wantOf, Bool.not_true, Bool.not_false, Bool.true_eq, decide_eq_true_eq, decide_eq_false_iff_not, Bool.not_eq_true', Bool.not_eq_false', Bool.and_eq_true, Prod.mk.injEq, and_true, true_and, Int.not_lt, Int.not_le, gt_iff_lt, ge_iff_le] at *))
  ·
    refine GHeld.mk ?_
    refine Exists.intro (0 : Nat) ?_
    refine And.intro (Leaf.mk ?_) ?_
    · repeat' first | exact True.intro | refine And.intro ?_ ?_
      all_goals try ((change _ = _ <;> try dsimp only) <;> try with_reducible rfl)
      all_goals try omega
      all_goals (rfl)
    exact ⟨⟨Nat.zero_le _, fun j hj => absurd hj (Nat.not_lt_zero j)⟩, rfl⟩
  · intro h; cases h
  · exact fun k hk => ⟨rfl, rfl, rfl⟩
  · rename_i k h1 h2
    exact sec_ok h1 h2
  · rename_i k h1 h2 h3
    exact sec_bad (h2 5 rfl) h3
  · rename_i k h1 h2 h3
    refine GHeld.mk ?_
    refine Exists.intro (k + 1) ?_
    refine And.intro (Leaf.mk ?_) ?_
    · repeat' first | exact True.intro | refine And.intro ?_ ?_
      all_goals try ((change _ = _ <;> try dsimp only) <;> try with_reducible rfl)
      all_goals try omega
      all_goals (rfl)
    exact ⟨sec_step h1 (h2 5 rfl) h3, rfl⟩

end Go.Eng.Lp
