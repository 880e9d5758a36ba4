/- Contracts: FirstMaximal, of the program and of the reference. Conditions: each contract's own. -/
import Derived.Test.YtcoimlnplaidiaaQ27
namespace Go.Eng.Pu
open Go.Eng Go.Proofs
set_option linter.all false
set_option maxRecDepth 100000
set_option maxHeartbeats 8000000

@[reducible] def sMostW : Spec := { pats := [.dat Reg0], res := [{ t := I64 }], pre := fun x => 1 ≤ x.1.1 ∧ x.1.1 ≤ (8 : Int), f := fun x => (most x.1.1, ()) }

theorem P2_inW {L : Int} (h : 1 ≤ L ∧ L ≤ 8) : 2 ≤ P2 L ∧ P2 L ≤ 256 := by
  by_cases h1 : L = 1
  · subst h1; decide
  · have := P2_in (L := L) (by omega); omega

/-- ref.Most, of shorter ones -/
theorem h68w : Ok 68 sMostW := by
  refine mk (ctr := []) trivial (nt := 15) Try.func68 rfl rfl rfl rfl (by kernel_rfl) (by kernel_rfl) (fun x => [fun _ => { σ := Nat, pat := fun k => [sI 3 (P2 k), sI 4 k], inv := fun k => (k : Int) ≤ x.1.1, meas := fun k => (show Int from x.1.1).toNat - k }]) ?_
  rintro ⟨⟨(L : Int), (xs : List Int), _⟩, _⟩ (h : 1 ≤ L ∧ L ≤ 8)
  have h2 := P2_inW h
  repeat' (intro hzz; (try (rename Two => hq; cases hq)); (try dsimp only at hzz); (try simp only [resTy, argTy, eqD, inR, big, wantOf, Bool.not_true, Bool.not_false, Bool.true_eq, decide_eq_true_eq, decide_eq_false_iff_not, Bool.not_eq_true', Bool.not_eq_false', Bool.and_eq_true, Prod.mk.injEq, and_true, true_and, Int.not_lt, Int.not_le, gt_iff_lt, ge_iff_le] at hzz); (try (first | contradiction | (exfalso; omega))); (try (revert hzz; intro _)))
  all_goals try (rename Unit => hq; clear hq)
  all_goals try ((with_reducible refine Held.mk ?_); (with_reducible (first | refine Frz.mk ?_ | refine And.intro (Frz.mk ?_) ?_ | refine And.intro ?_ (Frz.mk ?_))); repeat' first | exact True.intro | (change _ = _; with_reducible rfl) | refine And.intro ?_ ?_ | (with_reducible refine Frz.mk ?_))
  all_goals try (refine Held.mk ?_; (try dsimp only at *); (try simp only [resTy, argTy, eqD, inR, big, wantOf, Bool.not_true, Bool.not_false, Bool.true_eq, decide_eq_true_eq, decide_eq_false_iff_not, Bool.not_eq_true', Bool.not_eq_false', Bool.and_eq_true, Prod.mk.injEq, and_true, true_and, Int.not_lt, Int.not_le, gt_iff_lt, ge_iff_le] at *))
  all_goals try omega
  · 
    refine GHeld.mk ?_
    refine Exists.intro 0 ?_
    refine And.intro (Leaf.mk ?_) ?_
    · repeat' first | exact True.intro | refine And.intro ?_ ?_
      all_goals try ((change _ = _ <;> try dsimp only) <;> try with_reducible rfl)
      all_goals try omega
      all_goals (rfl)
    show (0 : Int) ≤ L
    omega
  · rename_i k hk hg
    have := P2_nat k
    have := P2_le (k := k) (by omega)
    omega
  · rename_i k hk hg
    refine GHeld.mk ?_
    refine Exists.intro (k + 1) ?_
    refine And.intro (Leaf.mk ?_) ?_
    · repeat' first | exact True.intro | refine And.intro ?_ ?_
      all_goals try ((change _ = _ <;> try dsimp only) <;> try with_reducible rfl)
      all_goals try omega
      all_goals (exact (P2_succ k).symm)
    exact ⟨by show ((k + 1 : Nat) : Int) ≤ L; omega, by show L.toNat - (k + 1) < L.toNat - k; omega⟩
  · rename_i k hk hg
    have hk : (k : Int) = L := by omega
    rw [hk]; omega
  · rename_i k hk hg
    have hk : (k : Int) = L := by omega
    rw [hk]; rfl

@[reducible] def sBefore : Spec := { pats := [.dat (.sl I64), .dat (.sl I64)], res := [{ t := .bool }], pre := fun x => pLen (List.length (α := Int) x.1) ∧ pLen (List.length (α := Int) x.2.1), f := fun x => (bfE x.1 x.2.1 (List.length (α := Int) x.1) 0, ()) }

theorem bfE_step {a b : List Int} {m i : Nat} (h : 0 < m) : bfE a b m i = if i < b.length then (if a.getD i 0 = b.getD i 0 then bfE a b (m - 1) (i + 1) else decide (a.getD i 0 < b.getD i 0)) else decide (a.length < b.length) := by
  cases m with
  | zero => omega
  | succ m => rfl

/-- base.Before -/
theorem h131 : Ok 131 sBefore := by
  refine mk (ctr := []) trivial (nt := 41) Try.func131 rfl rfl rfl rfl (by kernel_rfl) (by kernel_rfl) (fun x => [fun _ => { σ := Nat, pat := fun k => [sI 5 k], inv := fun k => k ≤ List.length (α := Int) x.1 ∧ bfE x.1 x.2.1 (List.length (α := Int) x.1 - k) k = bfE x.1 x.2.1 (List.length (α := Int) x.1) 0, meas := fun k => List.length (α := Int) x.1 - k }]) ?_
  rintro ⟨(xs : List Int), (ys : List Int), _⟩ ⟨(h1 : pLen xs.length), (h2 : pLen ys.length)⟩
  have := h1.out
  have := h2.out
  repeat' (intro hzz; (try (rename Two => hq; cases hq)); (try dsimp only at hzz); (try simp only [resTy, argTy, eqD, inR, big, wantOf, Bool.not_true, Bool.not_false, Bool.true_eq, decide_eq_true_eq, decide_eq_false_iff_not, Bool.not_eq_true', Bool.not_eq_false', Bool.and_eq_true, Prod.mk.injEq, and_true, true_and, Int.not_lt, Int.not_le, gt_iff_lt, ge_iff_le] at hzz); (try simp only [resTy, argTy, eqD, inR, big, wantOf, Bool.not_true, Bool.not_false, Bool.true_eq, decide_eq_true_eq, decide_eq_false_iff_not, Bool.not_eq_true', Bool.not_eq_false', Bool.and_eq_true, Prod.mk.injEq, and_true, true_and, Int.not_lt, Int.not_le, gt_iff_lt, ge_iff_le, getD_i] at hzz); (try (first | contradiction | (exfalso; omega))); (try (revert hzz; intro _)))
  all_goals try (rename Unit => hq; clear hq)
  all_goals try ((with_reducible refine Held.mk ?_); (with_reducible (first | refine Frz.mk ?_ | refine And.intro (Frz.mk ?_) ?_ | refine And.intro ?_ (Frz.mk ?_))); repeat' first | exact True.intro | (change _ = _; with_reducible rfl) | refine And.intro ?_ ?_ | (with_reducible refine Frz.mk ?_))
  all_goals try (refine Held.mk ?_; (try dsimp only at *); (try simp only [resTy, argTy, eqD, inR, big, wantOf, Bool.not_true, Bool.not_false, Bool.true_eq, decide_eq_true_eq, decide_eq_false_iff_not, Bool.not_eq_true', Bool.not_eq_false', Bool.and_eq_true, Prod.mk.injEq, and_true, true_and, Int.not_lt, Int.not_le, gt_iff_lt, ge_iff_le] at *); (try simp only [resTy, argTy, eqD, inR, big, wantOf, Bool.not_true, Bool.not_false, Bool.true_eq, decide_eq_true_eq, decide_eq_false_iff_not, Bool.not_eq_true', Bool.not_eq_false', Bool.and_eq_true, Prod.mk.injEq, and_true, true_and, Int.not_lt, Int.not_le, gt_iff_lt, ge_iff_le, getD_i] at *))
  all_goals try omega
  · 
    refine GHeld.mk ?_
    refine Exists.intro 0 ?_
    refine And.intro (Leaf.mk ?_) ?_
    · repeat' first | exact True.intro | refine And.intro ?_ ?_
      all_goals try ((change _ = _ <;> try dsimp only) <;> try with_reducible rfl)
      all_goals try omega
    exact ⟨Nat.zero_le _, rfl⟩
  · rename_i k hk hg h3 h4
    have e := hk.2
    rw [bfE_step (by omega), if_pos (by omega), if_neg h4] at e
    exact e
  · rename_i k hk hg h3 h4
    have e := hk.2
    rw [bfE_step (by omega), if_pos (by omega), if_pos h4] at e
    refine GHeld.mk ?_
    refine Exists.intro (k + 1) ?_
    refine And.intro (Leaf.mk ?_) ?_
    · repeat' first | exact True.intro | refine And.intro ?_ ?_
      all_goals try ((change _ = _ <;> try dsimp only) <;> try with_reducible rfl)
      all_goals try omega
    exact ⟨⟨by show k + 1 ≤ xs.length; omega, e⟩, by show xs.length - (k + 1) < xs.length - k; omega⟩
  · rename_i k hk hg h3
    have e := hk.2
    rw [bfE_step (by omega), if_neg (by omega)] at e
    rw [← e]
    exact decide_eq_decide.2 (by omega)
  · rename_i k hk hg
    have e := hk.2
    rw [show xs.length - k = 0 by omega] at e
    rw [← e]
    exact decide_eq_decide.2 (by omega)

theorem tps_in {c : Int} (h0 : 0 ≤ c) : ∀ j, 0 ≤ (tpS c j).1 ∧ (tpS c j).1 ≤ c ∧ (tpS c j).2.length ≤ j
  | 0 => ⟨h0, Int.le_refl _, Nat.le_refl _⟩
  | j + 1 => by
    have := tps_in h0 j
    have e : (tpS c (j + 1)).1 = (tpS c j).1.tdiv 2 := rfl
    have e2 : (tpS c (j + 1)).2 = if (tpS c j).1.tmod 2 = 1 then (tpS c j).2 ++ [(j + 1 : Int)] else (tpS c j).2 := rfl
    rw [e, e2, Int.tdiv_eq_ediv_of_nonneg (by omega)]
    refine ⟨by omega, by omega, ?_⟩
    split
    · rw [List.length_append]; simp; omega
    · omega

def bL (L : Int) (c : Nat) : Int := if (bst (imF L) L c).length = 0 then 0 else L

theorem bst_yes {L : Int} {c : Nat} (h1 : imF L (tapsOf L c) = true) (h2 : (bst (imF L) L c).length = 0 ∨ bfE (tapsOf L c) (bst (imF L) L c) (tapsOf L c).length 0 = true) : bst (imF L) L (c + 1) = tapsOf L c ∧ bL L (c + 1) = L := by
  have e : bst (imF L) L (c + 1) = tapsOf L c := by rw [bst, if_pos ⟨h1, h2⟩]
  refine ⟨e, ?_⟩
  unfold bL
  rw [e, if_neg]
  unfold tapsOf
  rw [List.length_append]; simp

theorem bst_no {L : Int} {c : Nat} (h : ¬ (imF L (tapsOf L c) = true ∧ ((bst (imF L) L c).length = 0 ∨ bfE (tapsOf L c) (bst (imF L) L c) (tapsOf L c).length 0 = true))) : bst (imF L) L (c + 1) = bst (imF L) L c ∧ bL L (c + 1) = bL L c := by
  have e : bst (imF L) L (c + 1) = bst (imF L) L c := by rw [bst, if_neg h]
  exact ⟨e, by unfold bL; rw [e]⟩

theorem bst_len {L : Int} : ∀ c : Nat, (∀ d : Nat, d < c → (tapsOf L d).length ≤ 8) → (bst (imF L) L c).length ≤ 8
  | 0, _ => Nat.zero_le _
  | c + 1, h => by
    rw [bst]
    split
    · exact h c (by omega)
    · exact bst_len c fun d hd => h d (by omega)

theorem taps_end {L : Int} {j : Nat} {c : Int} (h1 : (j : Int) + 1 ≤ L) (h2 : L ≤ (j : Int) + 1) : (tpS c j).2 ++ [L] = tapsOf L c := by
  unfold tapsOf
  rw [show (L - 1).toNat = j by omega]

@[reducible] def sRFM : Spec := { pats := [.dat I64], res := [{ t := Reg0 }], pre := fun x => 2 ≤ x.1 ∧ x.1 ≤ (8 : Int), f := fun x => ((x.1, bestT x.1, ()), ()) }

/-- ref.FirstMaximal -/
theorem h66 : Ok 66 sRFM := by
  refine mk (ctr := [(68, sMostW), (64, sRIsMax), (131, sBefore)]) ⟨h68w, h64, h131, trivial⟩ (nt := 58) Try.func66 rfl rfl rfl rfl (by kernel_rfl) (by kernel_rfl) (fun x => [fun _ => { σ := Nat, pat := fun k => [sI 5 k, .cell 3 0 (.d I64 (bL x.1 k)), .cell 3 1 (.d (.sl I64) (bst (imF x.1) x.1 k))], inv := fun k => (k : Int) ≤ P2 ((show Int from x.1) - 1), meas := fun k => 300 - k }, fun st => withI 5 st fun c => { σ := Nat, pat := fun j => [sI 8 (j + 1 : Int), sI 7 (tpS c j).1] ++ sOwn 6 60006 3 (tpS c j).2, inv := fun j => (j : Int) + 1 ≤ x.1, meas := fun j => 10 - j }]) ?_
  rintro ⟨(L : Int), _⟩ (h : 2 ≤ L ∧ L ≤ 8)
  have hP := P2_inW (L := L - 1) (by omega)
  have tb := (tb_all h).2.2.2
  have hm : most (L - 1) = P2 (L - 1) - 1 := rfl
  have hin : ∀ c j : Nat, 0 ≤ (tpS c j).1 ∧ (tpS c j).1 ≤ c ∧ (tpS c j).2.length ≤ j := fun c => tps_in (by omega)
  have htd : ∀ c j : Nat, (tpS c j).1.tdiv 2 = (tpS c j).1 / 2 := fun c j => Int.tdiv_eq_ediv_of_nonneg (hin c j).1
  have hap : ∀ (xs : List Int) (n : Int), (xs ++ [n]).length = xs.length + 1 := fun xs n => by simp
  have hbl : ∀ c : Nat, (c : Int) ≤ P2 (L - 1) → (bst (imF L) L c).length ≤ 8 := fun c hc => bst_len c fun d hd => (tb.2.2 d (by omega)).2
  repeat' (intro hzz; (try (rename Two => hq; cases hq)); (try dsimp only at hzz); (try simp only [resTy, argTy, eqD, inR, big, wantOf, Bool.not_true, Bool.not_false, Bool.true_eq, decide_eq_true_eq, decide_eq_false_iff_not, Bool.not_eq_true', Bool.not_eq_false', Bool.and_eq_true, Prod.mk.injEq, and_true, true_and, Int.not_lt, Int.not_le, gt_iff_lt, ge_iff_le] at hzz); (try (first | contradiction | (exfalso; omega))); (try (revert hzz; intro _)))
  all_goals try (rename Unit => hq; clear hq)
  all_goals try ((with_reducible refine Held.mk ?_); (with_reducible (first | refine Frz.mk ?_ | refine And.intro (Frz.mk ?_) ?_ | refine And.intro ?_ (Frz.mk ?_))); repeat' first | exact True.intro | (change _ = _; with_reducible rfl) | refine And.intro ?_ ?_ | (with_reducible refine Frz.mk ?_))
  all_goals try (refine Held.mk ?_; (try dsimp only at *); (try simp only [resTy, argTy, eqD, inR, big, wantOf, Bool.not_true, Bool.not_false, Bool.true_eq, decide_eq_true_eq, decide_eq_false_iff_not, Bool.not_eq_true', Bool.not_eq_false', Bool.and_eq_true, Prod.mk.injEq, and_true, true_and, Int.not_lt, Int.not_le, gt_iff_lt, ge_iff_le] at *))
  all_goals try omega
  · exact ⟨(show (1 : Int) ≤ L - 1 by omega), (show L - 1 ≤ (8 : Int) by omega)⟩
  · 
    refine GHeld.mk ?_
    refine Exists.intro 0 ?_
    refine And.intro (Leaf.mk ?_) ?_
    · repeat' first | exact True.intro | refine And.intro ?_ ?_
      all_goals try ((change _ = _ <;> try dsimp only) <;> try with_reducible rfl)
      all_goals try omega
      all_goals (rfl)
    show ((0 : Nat) : Int) ≤ P2 (L - 1)
    omega
  · rename_i c hc h1
    refine GHeld.mk ?_
    refine Exists.intro 0 ?_
    refine And.intro (Leaf.mk ?_) ?_
    · repeat' first | exact True.intro | refine And.intro ?_ ?_
      all_goals try ((change _ = _ <;> try dsimp only) <;> try with_reducible rfl)
      all_goals try omega
      all_goals (rfl)
    show ((0 : Nat) : Int) + 1 ≤ L
    omega
  · rename_i c hc h1 j hj h2 h3
    have := hin c j
    show (tpS c j).2.length + 1 ≤ _
    omega
  · rename_i c hc h1 j hj h2 h3
    have := hin c j
    rw [htd]
    omega
  · rename_i c hc h1 j hj h2 h3
    have e : (tpS c j).2 ++ [(j : Int) + 1] = (tpS c (j + 1)).2 := by
      show _ = if (tpS c j).1.tmod 2 = 1 then (tpS c j).2 ++ [(j + 1 : Int)] else (tpS c j).2
      rw [if_pos h3]
    refine GHeld.mk ?_
    refine Exists.intro (j + 1) ?_
    refine And.intro (Leaf.mk ?_) ?_
    · repeat' first | exact True.intro | refine And.intro ?_ ?_
      all_goals try ((change _ = _ <;> try dsimp only) <;> try with_reducible rfl)
      all_goals try omega
      all_goals (first | exact e | exact congrArg List.length e | rfl)
    exact ⟨by show ((j + 1 : Nat) : Int) + 1 ≤ L; omega, by show 10 - (j + 1) < 10 - j; omega⟩
  · rename_i c hc h1 j hj h2 h3
    have := hin c j
    rw [htd]
    omega
  · rename_i c hc h1 j hj h2 h3
    have e : (tpS c j).2 = (tpS c (j + 1)).2 := by
      show _ = if (tpS c j).1.tmod 2 = 1 then (tpS c j).2 ++ [(j + 1 : Int)] else (tpS c j).2
      rw [if_neg h3]
    refine GHeld.mk ?_
    refine Exists.intro (j + 1) ?_
    refine And.intro (Leaf.mk ?_) ?_
    · repeat' first | exact True.intro | refine And.intro ?_ ?_
      all_goals try ((change _ = _ <;> try dsimp only) <;> try with_reducible rfl)
      all_goals try omega
      all_goals (first | exact e | exact congrArg List.length e | rfl)
    exact ⟨by show ((j + 1 : Nat) : Int) + 1 ≤ L; omega, by show 10 - (j + 1) < 10 - j; omega⟩
  · rename_i c hc h1 j hj h2
    have := hin c j
    show (tpS c j).2.length + 1 ≤ _
    omega
  · rename_i c hc h1 j hj h2
    have := hin c j
    refine ⟨?_, by rw [hap]; unfold pLen; omega⟩
    rw [taps_end hj h2]
    exact (tb.2.2 c (by omega)).1
  · rename_i c hc h1 j hj h2 h3 h4
    have := hin c j
    have := hbl c hc
    exact ⟨by rw [hap]; unfold pLen; omega, by unfold pLen; omega⟩
  · rename_i c hc h1 j hj h2 h3 h4 h5
    rw [taps_end hj h2] at h3 h5
    have e := bst_yes (by rw [imF_eq]; exact decide_eq_true h3) (.inr h5)
    refine GHeld.mk ?_
    refine Exists.intro (c + 1) ?_
    refine And.intro (Leaf.mk ?_) ?_
    · repeat' first | exact True.intro | refine And.intro ?_ ?_
      all_goals try ((change _ = _ <;> try dsimp only) <;> try with_reducible rfl)
      all_goals try omega
      all_goals (first | exact e.2.symm | (rw [taps_end hj h2]; exact e.1.symm))
    exact ⟨by show ((c + 1 : Nat) : Int) ≤ P2 (L - 1); omega, by show 300 - (c + 1) < 300 - c; omega⟩
  · rename_i c hc h1 j hj h2 h3 h4 h5
    rw [taps_end hj h2] at h3 h5
    have e := bst_no (L := L) (c := c) (fun hh => hh.2.elim (fun h => h4 (by rw [h]; rfl)) (fun h => by rw [h] at h5; cases h5))
    refine GHeld.mk ?_
    refine Exists.intro (c + 1) ?_
    refine And.intro (Leaf.mk ?_) ?_
    · repeat' first | exact True.intro | refine And.intro ?_ ?_
      all_goals try ((change _ = _ <;> try dsimp only) <;> try with_reducible rfl)
      all_goals try omega
      all_goals (first | exact e.2.symm | exact e.1.symm)
    exact ⟨by show ((c + 1 : Nat) : Int) ≤ P2 (L - 1); omega, by show 300 - (c + 1) < 300 - c; omega⟩
  · rename_i c hc h1 j hj h2 h3 h4
    rw [taps_end hj h2] at h3
    have e := bst_yes (by rw [imF_eq]; exact decide_eq_true h3) (.inl (by omega))
    refine GHeld.mk ?_
    refine Exists.intro (c + 1) ?_
    refine And.intro (Leaf.mk ?_) ?_
    · repeat' first | exact True.intro | refine And.intro ?_ ?_
      all_goals try ((change _ = _ <;> try dsimp only) <;> try with_reducible rfl)
      all_goals try omega
      all_goals (first | exact e.2.symm | (rw [taps_end hj h2]; exact e.1.symm))
    exact ⟨by show ((c + 1 : Nat) : Int) ≤ P2 (L - 1); omega, by show 300 - (c + 1) < 300 - c; omega⟩
  · rename_i c hc h1 j hj h2 h3
    rw [taps_end hj h2] at h3
    have e := bst_no (L := L) (c := c) (fun hh => h3 (by have := hh.1; rw [imF_eq] at this; exact of_decide_eq_true this))
    refine GHeld.mk ?_
    refine Exists.intro (c + 1) ?_
    refine And.intro (Leaf.mk ?_) ?_
    · repeat' first | exact True.intro | refine And.intro ?_ ?_
      all_goals try ((change _ = _ <;> try dsimp only) <;> try with_reducible rfl)
      all_goals try omega
      all_goals (first | exact e.2.symm | exact e.1.symm)
    exact ⟨by show ((c + 1 : Nat) : Int) ≤ P2 (L - 1); omega, by show 300 - (c + 1) < 300 - c; omega⟩
  · rename_i c hc h1
    have e : c = (P2 (L - 1)).toNat := by omega
    subst e
    have e2 : bst (imF L) L (P2 (L - 1)).toNat = bestT L := rfl
    refine ⟨?_, e2⟩
    unfold bL
    rw [e2, if_neg (by omega)]

@[reducible] def sFMN : Spec := { pats := [.dat I64, .dat (.osl I64)], res := [{ t := .osl I64 }], pre := fun x => 2 ≤ x.1 ∧ x.1 ≤ (8 : Int) ∧ x.2.1 = none, f := fun x => (fm (imx x.1) x.1 9 [], ()) }

/-- firstMaximal, of nil -/
theorem h130n : Ok 130 sFMN := by
  refine mk (ctr := [(158, sCloneN), (89, sMax), (121, sIsMax), (130, sFM 8)]) ⟨h158n, h89, h121, h130 8, trivial⟩ (nt := 37) Try.func130 rfl rfl rfl rfl (by kernel_rfl) (by kernel_rfl) (fun x => [fun _ => { σ := Nat, pat := fun k => [sI 5 (1 + k : Int)], inv := fun k => k ≤ Int.toNat (x.1) ∧ fmGo (imx x.1) (fm (imx x.1) x.1 8) x.1 [] (Int.toNat (x.1) - k) (1 + k) = fm (imx x.1) x.1 9 [], meas := fun k => Int.toNat (x.1) - k }]) ?_
  rintro ⟨(L : Int), x, _⟩ ⟨(h1 : 2 ≤ L), (h2 : L ≤ 8), h3⟩
  have h3 : x = none := h3
  subst h3
  have hg : gd L [] := ⟨h1, h2, rfl⟩
  have hl11 : ∀ n : Int, (([] : List Int) ++ [n]).length = 1 := fun n => rfl
  have hl12 : ∀ n : Int, lst (([] : List Int) ++ [n]) = n := fun n => rfl
  have hl0 : lst [] = 0 := rfl
  repeat' (intro hzz; (try (rename Two => hq; cases hq)); (try dsimp only at hzz); (try simp only [resTy, argTy, eqD, inR, big, wantOf, Bool.not_true, Bool.not_false, Bool.true_eq, decide_eq_true_eq, decide_eq_false_iff_not, Bool.not_eq_true', Bool.not_eq_false', Bool.and_eq_true, Prod.mk.injEq, and_true, true_and, Int.not_lt, Int.not_le, gt_iff_lt, ge_iff_le] at hzz); (try (first | contradiction | (exfalso; omega))); (try (revert hzz; intro _)))
  all_goals try (rename Unit => hq; clear hq)
  all_goals try ((with_reducible refine Held.mk ?_); (with_reducible (first | refine Frz.mk ?_ | refine And.intro (Frz.mk ?_) ?_ | refine And.intro ?_ (Frz.mk ?_))); repeat' first | exact True.intro | (change _ = _; with_reducible rfl) | refine And.intro ?_ ?_ | (with_reducible refine Frz.mk ?_))
  all_goals try (refine Held.mk ?_; (try dsimp only at *); (try simp only [resTy, argTy, eqD, inR, big, wantOf, Bool.not_true, Bool.not_false, Bool.true_eq, decide_eq_true_eq, decide_eq_false_iff_not, Bool.not_eq_true', Bool.not_eq_false', Bool.and_eq_true, Prod.mk.injEq, and_true, true_and, Int.not_lt, Int.not_le, gt_iff_lt, ge_iff_le] at *))
  all_goals try omega
  · exact (show (1 : Nat) ≤ 2147483648 by decide)
  · exact ⟨(show (0 : Nat) < 1 by decide), (show pLen 1 by decide)⟩
  · exact (show (-9223372036854775808 : Int) ≤ 1 + 0 ∧ (1 + 0 : Int) ≤ 9223372036854775807 by decide)
  · 
    refine GHeld.mk ?_
    refine Exists.intro 0 ?_
    refine And.intro (Leaf.mk ?_) ?_
    · repeat' first | exact True.intro | refine And.intro ?_ ?_
      all_goals try ((change _ = _ <;> try dsimp only) <;> try with_reducible rfl)
      all_goals try omega
      all_goals (rfl)
    refine ⟨Nat.zero_le _, ?_⟩
    show fmGo _ _ L [] (L.toNat - 0) (1 + ((0 : Nat) : Int)) = fmGo _ _ L [] (L - lst []).toNat (lst [] + 1)
    rw [hl0, show (L - 0).toNat = L.toNat by omega]; rfl
  · exact (show (1 : Nat) ≤ 2147483648 by decide)
  · rename_i k hk h4 h5
    exact ⟨gd_next hg (by rw [hl0]; omega) h5, by rw [hl11]; omega, by rw [hl12]; omega⟩
  · rename_i k hk h4 h5 h6
    rw [← hk.2, fmG_rs (by omega) h5 h6]
  · rename_i k hk h4 h5 h6
    have e := hk.2
    rw [fmG_rn (by omega) h5 h6] at e
    refine GHeld.mk ?_
    refine Exists.intro (k + 1) ?_
    refine And.intro (Leaf.mk ?_) ?_
    · repeat' first | exact True.intro | refine And.intro ?_ ?_
      all_goals try ((change _ = _ <;> try dsimp only) <;> try with_reducible rfl)
      all_goals try omega
      all_goals ((show 1 + (k : Int) + 1 = 1 + ((k + 1 : Nat) : Int); omega))
    refine ⟨⟨by show k + 1 ≤ L.toNat; omega, ?_⟩, by show L.toNat - (k + 1) < L.toNat - k; omega⟩
    rw [← e]
    show fmGo _ _ L [] (L.toNat - (k + 1)) (1 + ((k + 1 : Nat) : Int)) = fmGo _ _ L [] (L.toNat - k - 1) (1 + (k : Int) + 1)
    rw [show 1 + ((k + 1 : Nat) : Int) = 1 + (k : Int) + 1 by omega, show L.toNat - (k + 1) = L.toNat - k - 1 by omega]
  · rename_i k hk h4 h5
    rw [show 1 + (k : Int) = L by omega, hl11]
    exact ⟨gd_reg hg, by decide⟩
  · rename_i k hk h4 h5 h6
    have e := hk.2
    rw [fmG_in (by omega) (by omega) (fun hh => h6 (of_decide_eq_true hh))] at e
    refine GHeld.mk ?_
    refine Exists.intro (k + 1) ?_
    refine And.intro (Leaf.mk ?_) ?_
    · repeat' first | exact True.intro | refine And.intro ?_ ?_
      all_goals try ((change _ = _ <;> try dsimp only) <;> try with_reducible rfl)
      all_goals try omega
      all_goals ((show 1 + (k : Int) + 1 = 1 + ((k + 1 : Nat) : Int); omega))
    refine ⟨⟨by show k + 1 ≤ L.toNat; omega, ?_⟩, by show L.toNat - (k + 1) < L.toNat - k; omega⟩
    rw [← e]
    show fmGo _ _ L [] (L.toNat - (k + 1)) (1 + ((k + 1 : Nat) : Int)) = fmGo _ _ L [] (L.toNat - k - 1) (1 + (k : Int) + 1)
    rw [show 1 + ((k + 1 : Nat) : Int) = 1 + (k : Int) + 1 by omega, show L.toNat - (k + 1) = L.toNat - k - 1 by omega]
  · rw [hl11]; omega
  · rename_i k hk h4 h5 h6
    refine ⟨by rw [hl11]; omega, ?_⟩
    rw [← hk.2, fmG_is (by omega) (by omega) (decide_eq_true h6)]
  · rename_i k hk h4
    rw [← hk.2, show L.toNat - k = 0 by omega]; rfl

def inL (L : Int) : Bool := decide (2 ≤ L ∧ L ≤ 8)

@[reducible] def sPFM : Spec := { pats := [.dat I64], res := [{ t := Reg0 }, { t := .sl I64 }, { t := I64 }], pre := fun _ => True, f := fun x => ((bif inL x.1 then x.1 else (0 : Int), bif inL x.1 then bestT x.1 else [], ()), bif inL x.1 then prO (most x.1) else [], bif inL x.1 then 0 else (2 : Int), ()) }

/-- FirstMaximal -/
theorem h62 : Ok 62 sPFM := by
  refine mk (ctr := [(86, sWithin), (130, sFMN), (94, sFull), (129, sPrimes)]) ⟨h86, h130n, h94, h129, trivial⟩ (nt := 19) Try.func62 rfl rfl rfl rfl (by kernel_rfl) (by kernel_rfl) (fun _ => []) ?_
  rintro ⟨(L : Int), _⟩ _
  by_cases h : 2 ≤ L ∧ L ≤ 8
  · have tb := (tb_all h).1
    have hP := P2_in h
    have hm : most L = P2 L - 1 := rfl
    have hi : inL L = true := decide_eq_true h
    repeat' (intro hzz; (try (rename Two => hq; cases hq)); (try dsimp only at hzz); (try simp only [resTy, argTy, eqD, inR, big, wantOf, Bool.not_true, Bool.not_false, Bool.true_eq, decide_eq_true_eq, decide_eq_false_iff_not, Bool.not_eq_true', Bool.not_eq_false', Bool.and_eq_true, Prod.mk.injEq, and_true, true_and, Int.not_lt, Int.not_le, gt_iff_lt, ge_iff_le] at hzz); (try simp only [resTy, argTy, eqD, inR, big, wantOf, Bool.not_true, Bool.not_false, Bool.true_eq, decide_eq_true_eq, decide_eq_false_iff_not, Bool.not_eq_true', Bool.not_eq_false', Bool.and_eq_true, Prod.mk.injEq, and_true, true_and, Int.not_lt, Int.not_le, gt_iff_lt, ge_iff_le, fWithin, tb] at hzz); (try (first | contradiction | (exfalso; omega))); (try (revert hzz; intro _)))
    all_goals try (rename Unit => hq; clear hq)
    all_goals try ((with_reducible refine Held.mk ?_); (with_reducible (first | refine Frz.mk ?_ | refine And.intro (Frz.mk ?_) ?_ | refine And.intro ?_ (Frz.mk ?_))); repeat' first | exact True.intro | (change _ = _; with_reducible rfl) | refine And.intro ?_ ?_ | (with_reducible refine Frz.mk ?_))
    all_goals try (refine Held.mk ?_; (try dsimp only at *); (try simp only [resTy, argTy, eqD, inR, big, wantOf, Bool.not_true, Bool.not_false, Bool.true_eq, decide_eq_true_eq, decide_eq_false_iff_not, Bool.not_eq_true', Bool.not_eq_false', Bool.and_eq_true, Prod.mk.injEq, and_true, true_and, Int.not_lt, Int.not_le, gt_iff_lt, ge_iff_le] at *); (try simp only [resTy, argTy, eqD, inR, big, wantOf, Bool.not_true, Bool.not_false, Bool.true_eq, decide_eq_true_eq, decide_eq_false_iff_not, Bool.not_eq_true', Bool.not_eq_false', Bool.and_eq_true, Prod.mk.injEq, and_true, true_and, Int.not_lt, Int.not_le, gt_iff_lt, ge_iff_le, fWithin, tb] at *))
    all_goals try omega
    · exact ⟨(show (1 : Int) ≤ most L by omega), (show most L ≤ (2000 : Int) by omega)⟩
    · simp only [hi, cond_true]
      exact ⟨⟨trivial, rfl⟩, trivial, trivial⟩
  · have hi : inL L = false := decide_eq_false h
    repeat' (intro hzz; (try (rename Two => hq; cases hq)); (try dsimp only at hzz); (try simp only [resTy, argTy, eqD, inR, big, wantOf, Bool.not_true, Bool.not_false, Bool.true_eq, decide_eq_true_eq, decide_eq_false_iff_not, Bool.not_eq_true', Bool.not_eq_false', Bool.and_eq_true, Prod.mk.injEq, and_true, true_and, Int.not_lt, Int.not_le, gt_iff_lt, ge_iff_le] at hzz); (try simp only [resTy, argTy, eqD, inR, big, wantOf, Bool.not_true, Bool.not_false, Bool.true_eq, decide_eq_true_eq, decide_eq_false_iff_not, Bool.not_eq_true', Bool.not_eq_false', Bool.and_eq_true, Prod.mk.injEq, and_true, true_and, Int.not_lt, Int.not_le, gt_iff_lt, ge_iff_le, fWithin] at hzz); (try (first | contradiction | (exfalso; omega))); (try (revert hzz; intro _)))
    all_goals try (rename Unit => hq; clear hq)
    all_goals try ((with_reducible refine Held.mk ?_); (with_reducible (first | refine Frz.mk ?_ | refine And.intro (Frz.mk ?_) ?_ | refine And.intro ?_ (Frz.mk ?_))); repeat' first | exact True.intro | (change _ = _; with_reducible rfl) | refine And.intro ?_ ?_ | (with_reducible refine Frz.mk ?_))
    all_goals try (refine Held.mk ?_; (try dsimp only at *); (try simp only [resTy, argTy, eqD, inR, big, wantOf, Bool.not_true, Bool.not_false, Bool.true_eq, decide_eq_true_eq, decide_eq_false_iff_not, Bool.not_eq_true', Bool.not_eq_false', Bool.and_eq_true, Prod.mk.injEq, and_true, true_and, Int.not_lt, Int.not_le, gt_iff_lt, ge_iff_le] at *); (try simp only [resTy, argTy, eqD, inR, big, wantOf, Bool.not_true, Bool.not_false, Bool.true_eq, decide_eq_true_eq, decide_eq_false_iff_not, Bool.not_eq_true', Bool.not_eq_false', Bool.and_eq_true, Prod.mk.injEq, and_true, true_and, Int.not_lt, Int.not_le, gt_iff_lt, ge_iff_le, fWithin] at *))
    all_goals try omega
    · simp only [hi, cond_false]
      exact ⟨⟨trivial, trivial⟩, trivial, trivial⟩

end Go.Eng.Pu
