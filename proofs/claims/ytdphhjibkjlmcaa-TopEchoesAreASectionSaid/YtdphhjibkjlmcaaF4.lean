/- The filter's cascade of right sections; newChain of one section. Conditions: each contract's own. -/
import Derived.Test.YtdphhjibkjlmcaaF3
import Derived.Test.YtdphhjibkjlmcaaL41
namespace Go.Eng.Lp
open Go.Eng Go.Proofs
set_option linter.all false
set_option maxRecDepth 100000
set_option maxHeartbeats 8000000

theorem g62 : Ok 62 sCheckSec := g62_of ih71 enters71

def rightC (l : List SecD) : Prop := l.length ≤ 6 ∧ ∀ i, i < l.length → secErr (l.getD i SecT.dflt) = 0
@[reducible] def sCascade : Spec := { pats := [.dat (.sl SecT)], res := [{ t := I64 }, { t := I64 }], pre := fun x => rightC x.1, f := fun x => (0, 0, ()) }
/-- filter.CheckCascade -/
theorem g48 : Ok 48 sCascade := by
  refine mk (ctr := [(62, sCheckSec)]) ⟨g62, trivial⟩ (nt := 24) Try.func48 rfl rfl rfl rfl (by kernel_rfl) (by kernel_rfl) (fun x => [fun _ => { σ := Nat, pat := fun k => [sI 12 k], inv := fun k => k ≤ List.length (α := SecD) x.1, meas := fun k => List.length (α := SecD) x.1 - k }]) ?_
  rintro ⟨(l : List SecD), _⟩ ⟨(h1 : l.length ≤ 6), (h2 : ∀ i, i < l.length → secErr (l.getD i SecT.dflt) = 0)⟩
  repeat' (intro hzz; (try (rename Two => hq; cases hq)); (try dsimp only at hzz); (try simp only [resTy, argTy, eqD, inR, big, wantOf, Bool.not_true, Bool.not_false, Bool.true_eq, decide_eq_true_eq, decide_eq_false_iff_not, Bool.not_eq_true', Bool.not_eq_false', Bool.and_eq_true, Prod.mk.injEq, and_true, true_and, Int.not_lt, Int.not_le, gt_iff_lt, ge_iff_le] at hzz); (try (revert hzz; intro _)))
  all_goals try (rename Unit => hq; clear hq)
  all_goals try ((with_reducible refine Held.mk ?_); (with_reducible (first | refine Frz.mk ?_ | refine And.intro (Frz.mk ?_) ?_ | refine And.intro ?_ (Frz.mk ?_))); repeat' first | exact True.intro | (change _ = _; with_reducible rfl) | refine And.intro ?_ ?_ | (with_reducible refine Frz.mk ?_))
  all_goals try (refine Held.mk ?_; (try dsimp only at *); (try simp only [resTy, argTy, eqD, inR, big, wantOf, Bool.not_true, Bool.not_false, Bool.true_eq, decide_eq_true_eq, decide_eq_false_iff_not, Bool.not_eq_true', Bool.not_eq_false', Bool.and_eq_true, Prod.mk.injEq, and_true, true_and, Int.not_lt, Int.not_le, gt_iff_lt, ge_iff_le] at *))
  all_goals try omega
  · 
    refine GHeld.mk ?_
    refine Exists.intro (0 : Nat) ?_
    refine And.intro (Leaf.mk ?_) ?_
    · repeat' first | exact True.intro | refine And.intro ?_ ?_
      all_goals try ((change _ = _ <;> try dsimp only) <;> try with_reducible rfl)
      all_goals try omega
      all_goals (rfl)
    exact Nat.zero_le _
  · rename_i k hk hlt h
    exact (h (h2 k (by omega))).elim
  · rename_i k hk hlt h
    refine GHeld.mk ?_
    refine Exists.intro (k + 1) ?_
    refine And.intro (Leaf.mk ?_) ?_
    · repeat' first | exact True.intro | refine And.intro ?_ ?_
      all_goals try ((change _ = _ <;> try dsimp only) <;> try with_reducible rfl)
      all_goals try omega
      all_goals (rfl)
    exact ⟨(show k + 1 ≤ l.length by omega), (show l.length - (k + 1) < l.length - k by omega)⟩

@[reducible] def sCascErr : Spec := { pats := [.dat (.sl SecT)], res := [{ t := I64 }], pre := fun x => rightC x.1, f := fun x => (0, ()) }
/-- filter.cascadeErr -/
theorem g29 : Ok 29 sCascErr := by
  refine mk (ctr := [(48, sCascade)]) ⟨g48, trivial⟩ (nt := 11) Try.func29 rfl rfl rfl rfl (by kernel_rfl) (by kernel_rfl) (fun _ => []) ?_
  rintro ⟨(l : List SecD), _⟩ (h : rightC l)
  repeat' (intro hzz; (try (rename Two => hq; cases hq)); (try dsimp only at hzz); (try simp only [resTy, argTy, eqD, inR, big, wantOf, Bool.not_true, Bool.not_false, Bool.true_eq, decide_eq_true_eq, decide_eq_false_iff_not, Bool.not_eq_true', Bool.not_eq_false', Bool.and_eq_true, Prod.mk.injEq, and_true, true_and, Int.not_lt, Int.not_le, gt_iff_lt, ge_iff_le] at hzz); (try (revert hzz; intro _)))
  all_goals try (rename Unit => hq; clear hq)
  all_goals try ((with_reducible refine Held.mk ?_); (with_reducible (first | refine Frz.mk ?_ | refine And.intro (Frz.mk ?_) ?_ | refine And.intro ?_ (Frz.mk ?_))); repeat' first | exact True.intro | (change _ = _; with_reducible rfl) | refine And.intro ?_ ?_ | (with_reducible refine Frz.mk ?_))
  all_goals try (refine Held.mk ?_; (try dsimp only at *); (try simp only [resTy, argTy, eqD, inR, big, wantOf, Bool.not_true, Bool.not_false, Bool.true_eq, decide_eq_true_eq, decide_eq_false_iff_not, Bool.not_eq_true', Bool.not_eq_false', Bool.and_eq_true, Prod.mk.injEq, and_true, true_and, Int.not_lt, Int.not_le, gt_iff_lt, ge_iff_le] at *))
  exact h

abbrev StT : Ty := .cons A2 (.cons A2 .nil)
abbrev UnT : Ty := .cons SecT (.cons StT (.cons I64 .nil))
abbrev StD : Type := (Int × Int × Unit) × (Int × Int × Unit) × Unit
abbrev UnD : Type := SecD × StD × Int × Unit

@[reducible] def sNewChain : Spec := { pats := [.dat (.sl SecT), .dat (.sl StT)], res := [{ own := some 94, t := .sl UnT }], pre := fun x => List.length (α := SecD) x.1 = 1 ∧ List.length (α := StD) x.2.1 = 1, f := fun x => ([((List.getD (α := SecD) x.1 0 SecT.dflt), (List.getD (α := StD) x.2.1 0 StT.dflt), 0, ())], ()) }
/-- filter.newChain -/
theorem g33 : Ok 33 sNewChain := by
  refine mkX (X := { fuel := 4 }) ⟨True.intro, True.intro, True.intro⟩ (ctr := []) trivial (nt := 26) Try.func33 rfl rfl rfl rfl (by kernel_rfl) (by kernel_rfl) (fun _ => []) ?_
  rintro ⟨(l : List SecD), (s : List StD), _⟩ ⟨(h1 : l.length = 1), (h2 : s.length = 1)⟩
  obtain ⟨⟨⟨(b0 : Int), (b1 : Int), (b2 : Int), _⟩, ⟨(a1 : Int), (a2 : Int), _⟩, _⟩, rfl⟩ : ∃ c, l = [c] := by
    match l, h1 with
    | [c], _ => exact ⟨c, rfl⟩
  obtain ⟨⟨⟨(x0 : Int), (x1 : Int), _⟩, ⟨(y0 : Int), (y1 : Int), _⟩, _⟩, rfl⟩ : ∃ c, s = [c] := by
    match s, h2 with
    | [c], _ => exact ⟨c, rfl⟩
  clear h1 h2
  repeat' (intro hzz; (try (rename Two => hq; cases hq)); (try dsimp only at hzz); (try simp only [resTy, argTy, eqD, inR, big, wantOf, Bool.not_true, Bool.not_false, Bool.true_eq, decide_eq_true_eq, decide_eq_false_iff_not, Bool.not_eq_true', Bool.not_eq_false', Bool.and_eq_true, Prod.mk.injEq, and_true, true_and, Int.not_lt, Int.not_le, gt_iff_lt, ge_iff_le] at hzz); (try simp only [resTy, argTy, eqD, inR, big, wantOf, Bool.not_true, Bool.not_false, Bool.true_eq, decide_eq_true_eq, decide_eq_false_iff_not, Bool.not_eq_true', Bool.not_eq_false', Bool.and_eq_true, Prod.mk.injEq, and_true, true_and, Int.not_lt, Int.not_le, gt_iff_lt, ge_iff_le, List.length_cons, List.length_nil] at hzz); (try (first | contradiction | (exfalso; omega))); (try (revert hzz; intro _)))
  all_goals try (rename Unit => hq; clear hq)
  all_goals try ((with_reducible refine Held.mk ?_); (with_reducible (first | refine Frz.mk ?_ | refine And.intro (Frz.mk ?_) ?_ | refine And.intro ?_ (Frz.mk ?_))); repeat' first | exact True.intro | (change _ = _; with_reducible rfl) | refine And.intro ?_ ?_ | (with_reducible refine Frz.mk ?_))
  all_goals try (refine Held.mk ?_; (try dsimp only at *); (try simp only [resTy, argTy, eqD, inR, big, wantOf, Bool.not_true, Bool.not_false, Bool.true_eq, decide_eq_true_eq, decide_eq_false_iff_not, Bool.not_eq_true', Bool.not_eq_false', Bool.and_eq_true, Prod.mk.injEq, and_true, true_and, Int.not_lt, Int.not_le, gt_iff_lt, ge_iff_le] at *); (try simp only [resTy, argTy, eqD, inR, big, wantOf, Bool.not_true, Bool.not_false, Bool.true_eq, decide_eq_true_eq, decide_eq_false_iff_not, Bool.not_eq_true', Bool.not_eq_false', Bool.and_eq_true, Prod.mk.injEq, and_true, true_and, Int.not_lt, Int.not_le, gt_iff_lt, ge_iff_le, List.length_cons, List.length_nil] at *))
  all_goals try omega
  exact ⟨rfl, rfl⟩

end Go.Eng.Lp
