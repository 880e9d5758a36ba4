/- The law PulseTransforms. Conditions: none. -/
import Derived.Test.YtcoimlnplaidiaaQ35
namespace Go.Eng.Pu
open Go.Eng Go.Proofs
set_option linter.all false
set_option maxRecDepth 100000
set_option maxHeartbeats 8000000

theorem ofE_in {xs : List Int} {p w n : Int} (h : ofE xs p w n = 0) : inB xs = true ∧ xs.length ≤ 1024 := by
  rw [ofE_if] at h
  split at h
  · split at h
    · rename_i h1 h2; exact ⟨h2, h1⟩
    · cases h
  · cases h

theorem ofE_mk {xs : List Int} {p w n : Int} (h1 : cfE p w n = 0) (h2 : (xs.length : Int) = n) (h3 : inB xs = true) (h4 : xs.length ≤ 1024) : ofE xs p w n = 0 := by
  rw [ofE_if, if_pos h4, if_pos h3, if_pos h1, if_pos h2]

theorem inB_dft {p w n : Int} (hf : FOk p w n) (xs : List Int) : inB (dftL p w xs) = true := by
  unfold inB
  rw [List.all_eq_true]
  intro y hy
  obtain ⟨i, _, rfl⟩ := tab_mem hy
  have := dft_in hf.h1 w (at0 xs) xs.length i
  have := hf.h2
  exact decide_eq_true (by omega)

theorem inB_turn {xs : List Int} (h0 : 1 ≤ xs.length) (h : inB xs = true) : inB (turnL xs) = true := by
  unfold inB at *
  rw [List.all_eq_true] at *
  intro y hy
  unfold turnL at hy
  rcases List.mem_append.1 hy with h' | h'
  · rw [List.mem_singleton.1 h']
    exact h _ (getD_mem (by omega))
  · exact h y (List.mem_of_mem_take h')

@[reducible] def sLaw5 : Spec := { pats := [.dat (.sl I64), .dat Fld0], res := [{ t := .bool }], pre := fun _ => True, f := fun _ => (true, ()) }

/-- PulseTransforms -/
theorem h5 : Ok 5 sLaw5 := by
  refine mk (ctr := [(17, sAwake), (36, sCopyInts), (35, sPTrf), (37, sPBack), (38, sFErr), (39, sRTrf), (26, sInts), (40, sRBk), (41, sMod), (42, sRPow)]) ⟨h17, h36, h35, h37, h38, h39, h26, h40, h41, h42, trivial⟩ (nt := 173) Try.func5 rfl rfl rfl rfl (by kernel_rfl) (by kernel_rfl) (fun x => [fun _ => { σ := Nat, pat := fun k => [sI 15 k], inv := fun k => k ≤ List.length (α := Int) x.1, meas := fun k => List.length (α := Int) x.1 - k }]) ?_
  rintro ⟨(xs : List Int), ⟨(p : Int), (w : Int), (n : Int), _⟩, _⟩ _
  by_cases h12 : (40 < xs.length ∧ xs.length ≤ 1024) ∨ 1026 < xs.length
  · 
    repeat' (intro hzz; (try (rename Two => hq; cases hq)); (try dsimp only at hzz); (try simp only [resTy, argTy, eqD, inR, big, wantOf, Bool.not_true, Bool.not_false, Bool.true_eq, decide_eq_true_eq, decide_eq_false_iff_not, Bool.not_eq_true', Bool.not_eq_false', Bool.and_eq_true, Prod.mk.injEq, and_true, true_and, Int.not_lt, Int.not_le, gt_iff_lt, ge_iff_le] at hzz); (try (first | contradiction | (exfalso; omega))); (try (revert hzz; intro _)))
    all_goals try (rename Unit => hq; clear hq)
    all_goals try ((with_reducible refine Held.mk ?_); (with_reducible (first | refine Frz.mk ?_ | refine And.intro (Frz.mk ?_) ?_ | refine And.intro ?_ (Frz.mk ?_))); repeat' first | exact True.intro | (change _ = _; with_reducible rfl) | refine And.intro ?_ ?_ | (with_reducible refine Frz.mk ?_))
    all_goals try (refine Held.mk ?_; (try dsimp only at *); (try simp only [resTy, argTy, eqD, inR, big, wantOf, Bool.not_true, Bool.not_false, Bool.true_eq, decide_eq_true_eq, decide_eq_false_iff_not, Bool.not_eq_true', Bool.not_eq_false', Bool.and_eq_true, Prod.mk.injEq, and_true, true_and, Int.not_lt, Int.not_le, gt_iff_lt, ge_iff_le] at *))
    all_goals try omega
  · have hl : pLen xs.length := by unfold pLen; omega
    have hl2 : xs.length ≤ 2000000000 := by omega
    by_cases ho : ofE xs p w n = 0
    · obtain ⟨hf, hn, hc⟩ := ofE_zero ho
      obtain ⟨hb, hb2⟩ := ofE_in ho
      have hp1 := hf.h1
      have hp2 := hf.h2
      have hn1 := hf.h3
      have hn2 := fok_n hf
      have hlt := turnL_len (xs := xs) (by omega)
      have ho2 : ofE (dftL p w xs) p w n = 0 := ofE_mk hc (by rw [dftL_len]; exact hn) (inB_dft hf xs) (by rw [dftL_len]; exact hb2)
      have ho3 : ofE (turnL xs) p w n = 0 := ofE_mk hc (by rw [hlt]; exact hn) (inB_turn (by omega) hb) (by rw [hlt]; exact hb2)
      have u1 : trL xs p w n = dftL p w xs := if_pos ho
      have u2 : bkL xs p w n = backL p w n xs := if_pos ho
      have u3 : bkL (dftL p w xs) p w n = backL p w n (dftL p w xs) := if_pos ho2
      have u4 : trL (turnL xs) p w n = dftL p w (turnL xs) := if_pos ho3
      have et : [xs.getD ((xs.length : Int) - 1).toNat (Ty.dflt I64)] ++ xs.take ((xs.length : Int) - 1).toNat = turnL xs := by
        rw [show ((xs.length : Int) - 1).toNat = xs.length - 1 by omega]; rfl
      have hbl : ∀ ys, (backL p w n ys).length = ys.length := fun ys => tab_len _ _
      have hdl := dftL_len p w
      have hbk : ∀ k : Nat, k < xs.length → (backL p w n (dftL p w xs)).getD ((k : Int)).toNat (Ty.dflt I64) = fMod (xs.getD ((k : Int)).toNat (Ty.dflt I64)) p := fun k hk => back_ok hf hn hk
      have htn : ∀ k : Nat, k < xs.length → (dftL p w (turnL xs)).getD ((k : Int)).toNat (Ty.dflt I64) = ((dftL p w xs).getD ((k : Int)).toNat (Ty.dflt I64) * pw w k p).tmod p := fun k hk => turn_ok hf hn hk
      have hw1 := hf.h5
      have hw2 := hf.h6
      repeat' (intro hzz; (try (rename Two => hq; cases hq)); (try dsimp only at hzz); (try simp only [resTy, argTy, eqD, inR, big, wantOf, Bool.not_true, Bool.not_false, Bool.true_eq, decide_eq_true_eq, decide_eq_false_iff_not, Bool.not_eq_true', Bool.not_eq_false', Bool.and_eq_true, Prod.mk.injEq, and_true, true_and, Int.not_lt, Int.not_le, gt_iff_lt, ge_iff_le] at hzz); (try simp only [resTy, argTy, eqD, inR, big, wantOf, Bool.not_true, Bool.not_false, Bool.true_eq, decide_eq_true_eq, decide_eq_false_iff_not, Bool.not_eq_true', Bool.not_eq_false', Bool.and_eq_true, Prod.mk.injEq, and_true, true_and, Int.not_lt, Int.not_le, gt_iff_lt, ge_iff_le, ho, ho2, ho3, u1, u2, u3, u4, et, hbl, hdl, hlt] at hzz); (try (first | contradiction | (exfalso; omega))); (try (revert hzz; intro _)))
      all_goals try (rename Unit => hq; clear hq)
      all_goals try ((with_reducible refine Held.mk ?_); (with_reducible (first | refine Frz.mk ?_ | refine And.intro (Frz.mk ?_) ?_ | refine And.intro ?_ (Frz.mk ?_))); repeat' first | exact True.intro | (change _ = _; with_reducible rfl) | refine And.intro ?_ ?_ | (with_reducible refine Frz.mk ?_))
      all_goals try (refine Held.mk ?_; (try dsimp only at *); (try simp only [resTy, argTy, eqD, inR, big, wantOf, Bool.not_true, Bool.not_false, Bool.true_eq, decide_eq_true_eq, decide_eq_false_iff_not, Bool.not_eq_true', Bool.not_eq_false', Bool.and_eq_true, Prod.mk.injEq, and_true, true_and, Int.not_lt, Int.not_le, gt_iff_lt, ge_iff_le] at *); (try simp only [resTy, argTy, eqD, inR, big, wantOf, Bool.not_true, Bool.not_false, Bool.true_eq, decide_eq_true_eq, decide_eq_false_iff_not, Bool.not_eq_true', Bool.not_eq_false', Bool.and_eq_true, Prod.mk.injEq, and_true, true_and, Int.not_lt, Int.not_le, gt_iff_lt, ge_iff_le, ho, ho2, ho3, u1, u2, u3, u4, et, hbl, hdl, hlt] at *))
      all_goals try omega
      all_goals try (first | exact ⟨hl, hl2⟩ | exact ⟨hf, hn⟩ | exact ⟨hl, hl⟩)
      · show 1 + (List.take _ xs).length ≤ 2147483648
        rw [List.length_take]; omega
      · 
        refine GHeld.mk ?_
        refine Exists.intro 0 ?_
        refine And.intro (Leaf.mk ?_) ?_
        · repeat' first | exact True.intro | refine And.intro ?_ ?_
          all_goals try ((change _ = _ <;> try dsimp only) <;> try with_reducible rfl)
          all_goals try omega
          all_goals (rfl)
        exact Nat.zero_le _
      · exact ⟨(show (0 : Int) < p by omega), (show p ≤ (2000000000000000000 : Int) by omega)⟩
      · rename_i k hk hg h
        exact ⟨hp1, hp2, (show (0 : Int) ≤ (k : Int) by omega), (show (k : Int) ≤ (4000000000000000000 : Int) by omega), (show (0 : Int) ≤ w by omega), (show w < p by omega)⟩
      · rename_i k hk hg h
        have g1 := dft_in hp1 w (at0 xs) xs.length k
        have g2 : 0 ≤ pw w k p ∧ pw w k p < p := em_in hp1 _
        have g3 := pwI_mul hp2 g1.1 g1.2 g2.1 g2.2
        have e : (dftL p w xs).getD ((k : Int)).toNat (Ty.dflt I64) = dft p w (at0 xs) xs.length k := at_dftL (by omega)
        rw [e]
        omega
      · rename_i k hk hg h1 h
        exact absurd (htn k (by omega)) h
      · rename_i k hk hg h1 h
        refine GHeld.mk ?_
        refine Exists.intro (k + 1) ?_
        refine And.intro (Leaf.mk ?_) ?_
        · repeat' first | exact True.intro | refine And.intro ?_ ?_
          all_goals try ((change _ = _ <;> try dsimp only) <;> try with_reducible rfl)
          all_goals try omega
          all_goals (rfl)
        exact ⟨by show k + 1 ≤ xs.length; omega, by show xs.length - (k + 1) < xs.length - k; omega⟩
      · rename_i k hk hg h
        exact absurd (hbk k (by omega)) h
    · have u1 : trL xs p w n = [] := if_neg ho
      have u2 : bkL xs p w n = [] := if_neg ho
      repeat' (intro hzz; (try (rename Two => hq; cases hq)); (try dsimp only at hzz); (try simp only [resTy, argTy, eqD, inR, big, wantOf, Bool.not_true, Bool.not_false, Bool.true_eq, decide_eq_true_eq, decide_eq_false_iff_not, Bool.not_eq_true', Bool.not_eq_false', Bool.and_eq_true, Prod.mk.injEq, and_true, true_and, Int.not_lt, Int.not_le, gt_iff_lt, ge_iff_le] at hzz); (try simp only [resTy, argTy, eqD, inR, big, wantOf, Bool.not_true, Bool.not_false, Bool.true_eq, decide_eq_true_eq, decide_eq_false_iff_not, Bool.not_eq_true', Bool.not_eq_false', Bool.and_eq_true, Prod.mk.injEq, and_true, true_and, Int.not_lt, Int.not_le, gt_iff_lt, ge_iff_le, ho, u1, u2] at hzz); (try (first | contradiction | (exfalso; omega))); (try (revert hzz; intro _)))
      all_goals try (rename Unit => hq; clear hq)
      all_goals try ((with_reducible refine Held.mk ?_); (with_reducible (first | refine Frz.mk ?_ | refine And.intro (Frz.mk ?_) ?_ | refine And.intro ?_ (Frz.mk ?_))); repeat' first | exact True.intro | (change _ = _; with_reducible rfl) | refine And.intro ?_ ?_ | (with_reducible refine Frz.mk ?_))
      all_goals try (refine Held.mk ?_; (try dsimp only at *); (try simp only [resTy, argTy, eqD, inR, big, wantOf, Bool.not_true, Bool.not_false, Bool.true_eq, decide_eq_true_eq, decide_eq_false_iff_not, Bool.not_eq_true', Bool.not_eq_false', Bool.and_eq_true, Prod.mk.injEq, and_true, true_and, Int.not_lt, Int.not_le, gt_iff_lt, ge_iff_le] at *); (try simp only [resTy, argTy, eqD, inR, big, wantOf, Bool.not_true, Bool.not_false, Bool.true_eq, decide_eq_true_eq, decide_eq_false_iff_not, Bool.not_eq_true', Bool.not_eq_false', Bool.and_eq_true, Prod.mk.injEq, and_true, true_and, Int.not_lt, Int.not_le, gt_iff_lt, ge_iff_le, ho, u1, u2] at *))
      all_goals try omega
      all_goals (first | exact ⟨hl, hl2⟩ | decide)

end Go.Eng.Pu
