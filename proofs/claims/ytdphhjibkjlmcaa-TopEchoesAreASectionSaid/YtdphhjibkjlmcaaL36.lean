/- The contracts of circle.decide and Decide. Conditions: the first one: a right loop. -/
import Derived.Test.YtdphhjibkjlmcaaL35
namespace Go.Eng.Lp
open Go.Eng Go.Proofs
set_option linter.all false
set_option maxRecDepth 100000
set_option maxHeartbeats 8000000

theorem halve_all (T : List Int) (g : Int) : halveK T g 10 0 2048 ([], []) = (keptI T g, openI T g) := by
  rw [halve_eq]; simp [keptI, openI]

abbrev ProofT : Ty := .cons I64 (.cons (.sl ArcT) (.cons ArcT .nil))
@[reducible] def sDec : Spec := { pats := [.ob 0, .dat LoopT], res := [{ t := ProofT }], pre := fun x => GoodLoop x.1.1 x.1.2.1, f := fun x => (decK x.1.1 x.1.2.1, ()) }

def dcAnn (T : List Int) (g : Int) : LoopAnn := { σ := Nat, pat := fun _ => [], inv := fun k => k ≤ (triesK (openI T g)).length ∧ ∀ j, j < k → fRings T g ((triesK (openI T g)).getD j (0, 0, ())).1 ((triesK (openI T g)).getD j (0, 0, ())).2.1 = false, meas := fun k => k }

/-- circle.decide -/
theorem h106 : Ok 42 sDec := by
  refine mkX (X := { its := [(57, isp125)], ios := [(56, sHalve 10)] }) ⟨⟨⟨ih125, enters125⟩, trivial⟩, ⟨halveN 10, trivial⟩, trivial⟩ (ctr := [(41, sRings)]) ⟨h103, trivial⟩ (nt := 35) Try.func42 rfl rfl rfl rfl (by kernel_rfl) (by kernel_rfl) (fun x => [fun _ => dcAnn x.1.1 x.1.2.1]) ?_
  rintro ⟨⟨(T : List Int), (g : Int), _⟩, _⟩ (hT : GoodLoop T g)
  have hk := halve_all T g
  have hf := kept_few T g
  have ho := open_ok T g
  have tk : ∀ k, k < (triesK (openI T g)).length → okA ((triesK (openI T g)).getD k (0, 0, ())) := fun k h => by
    refine triesK_ok ho _ ?_
    rw [List.getD_eq_getElem?_getD, List.getElem?_eq_getElem h]; exact List.getElem_mem h
  repeat' (intro hzz; (try (rename Two => hq; cases hq)); (try dsimp only at hzz); (try simp only [resTy, argTy, eqD, inR, big, wantOf, Bool.not_true, Bool.not_false, Bool.true_eq, decide_eq_true_eq, decide_eq_false_iff_not, Bool.not_eq_true', Bool.not_eq_false', Bool.and_eq_true, Prod.mk.injEq, and_true, true_and, Int.not_lt, Int.not_le, gt_iff_lt, ge_iff_le] at hzz); (try simp only [resTy, argTy, eqD, inR, big, wantOf, Bool.not_true, Bool.not_false, Bool.true_eq, decide_eq_true_eq, decide_eq_false_iff_not, Bool.not_eq_true', Bool.not_eq_false', Bool.and_eq_true, Prod.mk.injEq, and_true, true_and, Int.not_lt, Int.not_le, gt_iff_lt, ge_iff_le, hk] at hzz); (try (revert hzz; intro _)))
  all_goals try (rename Unit => hq; clear hq)
  all_goals try ((with_reducible refine Held.mk ?_); (with_reducible (first | refine Frz.mk ?_ | refine And.intro (Frz.mk ?_) ?_ | refine And.intro ?_ (Frz.mk ?_))); repeat' first | exact True.intro | (change _ = _; with_reducible rfl) | refine And.intro ?_ ?_ | (with_reducible refine Frz.mk ?_))
  all_goals try (refine Held.mk ?_; (try dsimp only at *); (try simp only [resTy, argTy, eqD, inR, big, wantOf, Bool.not_true, Bool.not_false, Bool.true_eq, decide_eq_true_eq, decide_eq_false_iff_not, Bool.not_eq_true', Bool.not_eq_false', Bool.and_eq_true, Prod.mk.injEq, and_true, true_and, Int.not_lt, Int.not_le, gt_iff_lt, ge_iff_le] at *); (try simp only [resTy, argTy, eqD, inR, big, wantOf, Bool.not_true, Bool.not_false, Bool.true_eq, decide_eq_true_eq, decide_eq_false_iff_not, Bool.not_eq_true', Bool.not_eq_false', Bool.and_eq_true, Prod.mk.injEq, and_true, true_and, Int.not_lt, Int.not_le, gt_iff_lt, ge_iff_le, hk] at *))
  all_goals try omega
  · exact ⟨by decide, by decide, hT, ⟨by decide, by decide, by decide⟩, by decide, by decide⟩
  · rename_i h
    have h0 : openI T g = [] := List.eq_nil_of_length_eq_zero (by omega)
    have hK : decK T g = (2, keptI T g, (0, 0, ()), ()) := by simp only [decK]; rw [if_pos h0]
    rw [hK]; exact ⟨rfl, rfl, rfl, rfl⟩
  ·
    refine GHeld.mk ?_
    refine Exists.intro (0 : Nat) ?_
    refine And.intro (Leaf.mk ?_) ?_
    · repeat' first | exact True.intro | refine And.intro ?_ ?_
      all_goals try ((change _ = _ <;> try dsimp only) <;> try with_reducible rfl)
      all_goals try omega
      all_goals (rfl)
    exact ⟨⟨Nat.zero_le _, fun j hj => absurd hj (Nat.not_lt_zero j)⟩, rfl⟩
  · intro h; cases h
  · intro s _; exact ⟨rfl, rfl, rfl⟩
  · rename_i h0 k h1 h2
    have hk2 : k = (triesK (openI T g)).length := (Option.some.inj h2).symm
    subst hk2
    have hn : openI T g ≠ [] := fun h => h0 (by rw [h]; rfl)
    have hK : decK T g = (1, [], (0, 0, ()), ()) := by simp only [decK]; rw [if_neg hn, ringK_none _ h1.2]
    rw [hK]; exact ⟨rfl, rfl, rfl, rfl⟩
  · rename_i h0 k h1 h2
    exact ⟨hT, arcErr0 (tk k (h2 _ rfl))⟩
  · rename_i h0 k h1 h2 h3
    have hn : openI T g ≠ [] := fun h => h0 (by rw [h]; rfl)
    have hK : decK T g = (0, [], (triesK (openI T g)).getD k (0, 0, ()), ()) := by simp only [decK]; rw [if_neg hn, ringK_at _ k (h2 _ rfl) h1.2 h3]
    rw [hK]; exact ⟨rfl, rfl, rfl, rfl⟩
  · rename_i h0 k h1 h2 h3
    refine GHeld.mk ?_
    refine Exists.intro (k + 1) ?_
    refine And.intro (Leaf.mk ?_) ?_
    · repeat' first | exact True.intro | refine And.intro ?_ ?_
      all_goals try ((change _ = _ <;> try dsimp only) <;> try with_reducible rfl)
      all_goals try omega
      all_goals (rfl)
    have h2 := h2 _ rfl
    refine ⟨⟨(show k + 1 ≤ (triesK (openI T g)).length by omega), fun j hj => ?_⟩, rfl⟩
    by_cases e : j = k
    · subst e; exact h3
    · exact h1.2 j (by omega)

def fDec (T : List Int) (g : Int) : DD × Int := if fCheckLoop T g = 0 then (decK T g, 0) else ((0, [], (0, 0, ()), ()), fCheckLoop T g)
@[reducible] def sDecide : Spec := { pats := [.dat LoopT], res := [{ t := ProofT }, { t := I64 }], pre := fun x => True, f := fun x => ((fDec x.1.1 x.1.2.1).1, (fDec x.1.1 x.1.2.1).2, ()) }

/-- Decide -/
theorem h67 : Ok 17 sDecide := by
  refine mk (ctr := [(23, sCheckLoop), (42, sDec)]) ⟨h57, h106, trivial⟩ (nt := 14) Try.func17 rfl rfl rfl rfl (by kernel_rfl) (by kernel_rfl) (fun _ => []) ?_
  rintro ⟨⟨(T : List Int), (g : Int), _⟩, _⟩ _
  by_cases hc : fCheckLoop T g = 0
  · have hT := loop_of hc
    have hd : fDec T g = (decK T g, 0) := by simp only [fDec]; rw [if_pos hc]
    repeat' (intro hzz; (try (rename Two => hq; cases hq)); (try dsimp only at hzz); (try simp only [resTy, argTy, eqD, inR, big, wantOf, Bool.not_true, Bool.not_false, Bool.true_eq, decide_eq_true_eq, decide_eq_false_iff_not, Bool.not_eq_true', Bool.not_eq_false', Bool.and_eq_true, Prod.mk.injEq, and_true, true_and, Int.not_lt, Int.not_le, gt_iff_lt, ge_iff_le] at hzz); (try simp only [resTy, argTy, eqD, inR, big, wantOf, Bool.not_true, Bool.not_false, Bool.true_eq, decide_eq_true_eq, decide_eq_false_iff_not, Bool.not_eq_true', Bool.not_eq_false', Bool.and_eq_true, Prod.mk.injEq, and_true, true_and, Int.not_lt, Int.not_le, gt_iff_lt, ge_iff_le, hc, hd] at hzz); (try (first | contradiction | (exfalso; omega))); (try (revert hzz; intro _)))
    all_goals try (rename Unit => hq; clear hq)
    all_goals try ((with_reducible refine Held.mk ?_); (with_reducible (first | refine Frz.mk ?_ | refine And.intro (Frz.mk ?_) ?_ | refine And.intro ?_ (Frz.mk ?_))); repeat' first | exact True.intro | (change _ = _; with_reducible rfl) | refine And.intro ?_ ?_ | (with_reducible refine Frz.mk ?_))
    all_goals try (refine Held.mk ?_; (try dsimp only at *); (try simp only [resTy, argTy, eqD, inR, big, wantOf, Bool.not_true, Bool.not_false, Bool.true_eq, decide_eq_true_eq, decide_eq_false_iff_not, Bool.not_eq_true', Bool.not_eq_false', Bool.and_eq_true, Prod.mk.injEq, and_true, true_and, Int.not_lt, Int.not_le, gt_iff_lt, ge_iff_le] at *); (try simp only [resTy, argTy, eqD, inR, big, wantOf, Bool.not_true, Bool.not_false, Bool.true_eq, decide_eq_true_eq, decide_eq_false_iff_not, Bool.not_eq_true', Bool.not_eq_false', Bool.and_eq_true, Prod.mk.injEq, and_true, true_and, Int.not_lt, Int.not_le, gt_iff_lt, ge_iff_le, hc, hd] at *))
    all_goals try omega
  · have hd : fDec T g = ((0, [], (0, 0, ()), ()), fCheckLoop T g) := by simp only [fDec]; rw [if_neg hc]
    repeat' (intro hzz; (try (rename Two => hq; cases hq)); (try dsimp only at hzz); (try simp only [resTy, argTy, eqD, inR, big, wantOf, Bool.not_true, Bool.not_false, Bool.true_eq, decide_eq_true_eq, decide_eq_false_iff_not, Bool.not_eq_true', Bool.not_eq_false', Bool.and_eq_true, Prod.mk.injEq, and_true, true_and, Int.not_lt, Int.not_le, gt_iff_lt, ge_iff_le] at hzz); (try simp only [resTy, argTy, eqD, inR, big, wantOf, Bool.not_true, Bool.not_false, Bool.true_eq, decide_eq_true_eq, decide_eq_false_iff_not, Bool.not_eq_true', Bool.not_eq_false', Bool.and_eq_true, Prod.mk.injEq, and_true, true_and, Int.not_lt, Int.not_le, gt_iff_lt, ge_iff_le, hd] at hzz); (try (first | contradiction | (exfalso; omega))); (try (revert hzz; intro _)))
    all_goals try (rename Unit => hq; clear hq)
    all_goals try ((with_reducible refine Held.mk ?_); (with_reducible (first | refine Frz.mk ?_ | refine And.intro (Frz.mk ?_) ?_ | refine And.intro ?_ (Frz.mk ?_))); repeat' first | exact True.intro | (change _ = _; with_reducible rfl) | refine And.intro ?_ ?_ | (with_reducible refine Frz.mk ?_))
    all_goals try (refine Held.mk ?_; (try dsimp only at *); (try simp only [resTy, argTy, eqD, inR, big, wantOf, Bool.not_true, Bool.not_false, Bool.true_eq, decide_eq_true_eq, decide_eq_false_iff_not, Bool.not_eq_true', Bool.not_eq_false', Bool.and_eq_true, Prod.mk.injEq, and_true, true_and, Int.not_lt, Int.not_le, gt_iff_lt, ge_iff_le] at *); (try simp only [resTy, argTy, eqD, inR, big, wantOf, Bool.not_true, Bool.not_false, Bool.true_eq, decide_eq_true_eq, decide_eq_false_iff_not, Bool.not_eq_true', Bool.not_eq_false', Bool.and_eq_true, Prod.mk.injEq, and_true, true_and, Int.not_lt, Int.not_le, gt_iff_lt, ge_iff_le, hd] at *))
    all_goals try omega

end Go.Eng.Lp
