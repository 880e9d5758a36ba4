/- The law PulseTakes. Conditions: none. -/
import Derived.Test.YtcoimlnplaidiaaQ60
namespace Go.Eng.Pu
open Go.Eng Go.Proofs
set_option linter.all false
set_option maxRecDepth 100000
set_option maxHeartbeats 8000000

theorem avR_ok (ls : CLL) : okC (avR ls) := by
  unfold avR
  repeat' split
  all_goals first | exact tL_ok _ | exact okC_nil

theorem avR_len (ls : CLL) : (avR ls).length ≤ 1024 := by
  unfold avR
  split
  · exact Nat.zero_le _
  · split
    · exact Nat.zero_le _
    · split
      · rename_i h0 h1 h2
        have a := tL_len (avL ls)
        have b : (avL ls).length = avN ls := tab_len _ _
        have c : lE (ls.getD 0 []) = 0 := by
          have e := avF_step (ls := ls) (n := avN ls) (i := 0) (by omega)
          rw [List.drop_zero, h2] at e
          by_cases hc : lE (ls.getD 0 []) = 0
          · exact hc
          · rw [if_neg hc] at e; exact absurd e.symm hc
        have d : avN ls ≤ 1024 := (lE_ok c).2.1
        omega
      · exact Nat.zero_le _

theorem erR_len (xs : CL) (r : Int) : (erR xs r).1.2.1.length ≤ 1024 ∧ (erR xs r).2.1.2.1.length ≤ 1024 := by
  unfold erR
  split
  · rename_i h
    have c := lP_len h
    have d := (lE_ok h).2.1
    split
    · split
      · exact ⟨by show (tab _ _).length ≤ 1024; rw [tab_len]; omega, by show (tab _ _).length ≤ 1024; rw [tab_len]; omega⟩
      · exact ⟨Nat.zero_le _, Nat.zero_le _⟩
    · exact ⟨Nat.zero_le _, Nat.zero_le _⟩
  · exact ⟨Nat.zero_le _, Nat.zero_le _⟩

def takF (l : List RawL) (j : Nat) : CL := lsL (l.getD j [])

@[reducible] def sLaw10 : Spec := { pats := [.dat (.sl (.sl RawT)), .dat I64], res := [{ t := .bool }], pre := fun _ => True, f := fun _ => (true, ()) }

/-- PulseTakes -/
theorem h10 : Ok 10 sLaw10 := by
  refine mk (ctr := [(17, sAwake), (28, sFew), (30, sListW), (55, sEars), (56, sEars), (57, sSameResp), (58, sAver), (59, sAver), (34, sSameN)]) ⟨h17, h28n, h30n, h55, h56, h57, h58, h59, h34n, trivial⟩ (nt := 107) Try.func10 rfl rfl rfl rfl (by kernel_rfl) (by kernel_rfl) (fun x => [fun _ => { σ := Nat, pat := fun k => [sI 6 k] ++ rOwn 5 60005 44 (.sl C64) (tab (takF x.1) k), inv := fun k => k ≤ List.length (α := RawL) x.1, meas := fun k => List.length (α := RawL) x.1 - k }]) ?_
  rintro ⟨(l : List RawL), (r : Int), _⟩ _
  by_cases hl : 4 < l.length ∧ l.length ≤ 32 ∨ 34 < l.length
  · rcases hl with hl | hl
    · 
      repeat' (intro hzz; (try (rename Two => hq; cases hq)); (try dsimp only at hzz); (try simp only [resTy, argTy, eqD, inR, big, wantOf, Bool.not_true, Bool.not_false, Bool.true_eq, decide_eq_true_eq, decide_eq_false_iff_not, Bool.not_eq_true', Bool.not_eq_false', Bool.and_eq_true, Prod.mk.injEq, and_true, true_and, Int.not_lt, Int.not_le, gt_iff_lt, ge_iff_le] at hzz); (try (first | contradiction | (exfalso; omega))); (try (revert hzz; intro _)))
      all_goals try (rename Unit => hq; clear hq)
      all_goals try ((with_reducible refine Held.mk ?_); (with_reducible (first | refine Frz.mk ?_ | refine And.intro (Frz.mk ?_) ?_ | refine And.intro ?_ (Frz.mk ?_))); repeat' first | exact True.intro | (change _ = _; with_reducible rfl) | refine And.intro ?_ ?_ | (with_reducible refine Frz.mk ?_))
      all_goals try (refine Held.mk ?_; (try dsimp only at *); (try simp only [resTy, argTy, eqD, inR, big, wantOf, Bool.not_true, Bool.not_false, Bool.true_eq, decide_eq_true_eq, decide_eq_false_iff_not, Bool.not_eq_true', Bool.not_eq_false', Bool.and_eq_true, Prod.mk.injEq, and_true, true_and, Int.not_lt, Int.not_le, gt_iff_lt, ge_iff_le] at *))
      all_goals try omega
    · 
      repeat' (intro hzz; (try (rename Two => hq; cases hq)); (try dsimp only at hzz); (try simp only [resTy, argTy, eqD, inR, big, wantOf, Bool.not_true, Bool.not_false, Bool.true_eq, decide_eq_true_eq, decide_eq_false_iff_not, Bool.not_eq_true', Bool.not_eq_false', Bool.and_eq_true, Prod.mk.injEq, and_true, true_and, Int.not_lt, Int.not_le, gt_iff_lt, ge_iff_le] at hzz); (try (first | contradiction | (exfalso; omega))); (try (revert hzz; intro _)))
      all_goals try (rename Unit => hq; clear hq)
      all_goals try ((with_reducible refine Held.mk ?_); (with_reducible (first | refine Frz.mk ?_ | refine And.intro (Frz.mk ?_) ?_ | refine And.intro ?_ (Frz.mk ?_))); repeat' first | exact True.intro | (change _ = _; with_reducible rfl) | refine And.intro ?_ ?_ | (with_reducible refine Frz.mk ?_))
      all_goals try (refine Held.mk ?_; (try dsimp only at *); (try simp only [resTy, argTy, eqD, inR, big, wantOf, Bool.not_true, Bool.not_false, Bool.true_eq, decide_eq_true_eq, decide_eq_false_iff_not, Bool.not_eq_true', Bool.not_eq_false', Bool.and_eq_true, Prod.mk.injEq, and_true, true_and, Int.not_lt, Int.not_le, gt_iff_lt, ge_iff_le] at *))
      all_goals try omega
  · have hle : l.length ≤ 34 := by omega
    repeat' (intro hzz; (try (rename Two => hq; cases hq)); (try dsimp only at hzz); (try simp only [resTy, argTy, eqD, inR, big, wantOf, Bool.not_true, Bool.not_false, Bool.true_eq, decide_eq_true_eq, decide_eq_false_iff_not, Bool.not_eq_true', Bool.not_eq_false', Bool.and_eq_true, Prod.mk.injEq, and_true, true_and, Int.not_lt, Int.not_le, gt_iff_lt, ge_iff_le] at hzz); (try (first | contradiction | (exfalso; omega))); (try (revert hzz; intro _)))
    all_goals try (rename Unit => hq; clear hq)
    all_goals try ((with_reducible refine Held.mk ?_); (with_reducible (first | refine Frz.mk ?_ | refine And.intro (Frz.mk ?_) ?_ | refine And.intro ?_ (Frz.mk ?_))); repeat' first | exact True.intro | (change _ = _; with_reducible rfl) | refine And.intro ?_ ?_ | (with_reducible refine Frz.mk ?_))
    all_goals try (refine Held.mk ?_; (try dsimp only at *); (try simp only [resTy, argTy, eqD, inR, big, wantOf, Bool.not_true, Bool.not_false, Bool.true_eq, decide_eq_true_eq, decide_eq_false_iff_not, Bool.not_eq_true', Bool.not_eq_false', Bool.and_eq_true, Prod.mk.injEq, and_true, true_and, Int.not_lt, Int.not_le, gt_iff_lt, ge_iff_le] at *))
    all_goals try omega
    · 
      refine GHeld.mk ?_
      refine Exists.intro 0 ?_
      refine And.intro (Leaf.mk ?_) ?_
      · repeat' first | exact True.intro | refine And.intro ?_ ?_
        all_goals try ((change _ = _ <;> try dsimp only) <;> try with_reducible rfl)
        all_goals try omega
        all_goals (rfl)
      exact Nat.zero_le _
    · exact Nat.le_trans (few_le (by assumption)) (by decide)
    · rw [tab_len]; show _ + 1 ≤ 2147483648; omega
    · exact Nat.le_trans (few_le (by assumption)) (by decide)
    · exact Nat.le_trans (few_le (by assumption)) (by decide)
    · exact Nat.le_trans (erR_len _ _).1 (by decide)
    · exact Nat.le_trans (erR_len _ _).2 (by decide)
    · rename_i k hk hlt hf _ _ _
      refine GHeld.mk ?_
      refine Exists.intro (k + 1) ?_
      refine And.intro (Leaf.mk ?_) ?_
      · repeat' first | exact True.intro | refine And.intro ?_ ?_
        all_goals try ((change _ = _ <;> try dsimp only) <;> try with_reducible rfl)
        all_goals try omega
        all_goals (rfl)
      exact ⟨by show k + 1 ≤ l.length; omega, by show l.length - (k + 1) < l.length - k; omega⟩
    · exact ⟨Nat.le_trans (avR_len _) (by decide), avR_ok _⟩
    · 
      refine GHeld.mk ?_
      refine Exists.intro 0 ?_
      refine And.intro (Leaf.mk ?_) ?_
      · repeat' first | exact True.intro | refine And.intro ?_ ?_
        all_goals try ((change _ = _ <;> try dsimp only) <;> try with_reducible rfl)
        all_goals try omega
        all_goals (rfl)
      exact Nat.zero_le _
    · exact Nat.le_trans (few_le (by assumption)) (by decide)
    · rw [tab_len]; show _ + 1 ≤ 2147483648; omega
    · exact Nat.le_trans (few_le (by assumption)) (by decide)
    · exact Nat.le_trans (few_le (by assumption)) (by decide)
    · exact Nat.le_trans (erR_len _ _).1 (by decide)
    · exact Nat.le_trans (erR_len _ _).2 (by decide)
    · rename_i k hk hlt hf _ _ _
      refine GHeld.mk ?_
      refine Exists.intro (k + 1) ?_
      refine And.intro (Leaf.mk ?_) ?_
      · repeat' first | exact True.intro | refine And.intro ?_ ?_
        all_goals try ((change _ = _ <;> try dsimp only) <;> try with_reducible rfl)
        all_goals try omega
        all_goals (rfl)
      exact ⟨by show k + 1 ≤ l.length; omega, by show l.length - (k + 1) < l.length - k; omega⟩
    · exact ⟨Nat.le_trans (avR_len _) (by decide), avR_ok _⟩

end Go.Eng.Pu
