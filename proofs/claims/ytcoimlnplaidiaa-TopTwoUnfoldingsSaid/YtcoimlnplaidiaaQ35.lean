/- Transformed and Back; the law PulseTransforms. Conditions: each contract's own. -/
import Derived.Test.YtcoimlnplaidiaaQ34
import Derived.Test.YtcoimlnplaidiaaQ16
namespace Go.Eng.Pu
open Go.Eng Go.Proofs
set_option linter.all false
set_option maxRecDepth 100000
set_option maxHeartbeats 8000000

noncomputable def trL (xs : List Int) (p w n : Int) : List Int := if ofE xs p w n = 0 then dftL p w xs else []
noncomputable def bkL (xs : List Int) (p w n : Int) : List Int := if ofE xs p w n = 0 then backL p w n xs else []

@[reducible] noncomputable def sPTrf : Spec := { pats := [.dat (.sl I64), .dat Fld0], res := [{ t := .sl I64 }, { t := I64 }], pre := fun x => pLen (List.length (α := Int) x.1), f := fun x => (trL x.1 x.2.1.1 x.2.1.2.1 x.2.1.2.2.1, ofE x.1 x.2.1.1 x.2.1.2.1 x.2.1.2.2.1, ()) }
@[reducible] noncomputable def sPBack : Spec := { pats := [.dat (.sl I64), .dat Fld0], res := [{ t := .sl I64 }, { t := I64 }], pre := fun x => pLen (List.length (α := Int) x.1), f := fun x => (bkL x.1 x.2.1.1 x.2.1.2.1 x.2.1.2.2.1, ofE x.1 x.2.1.1 x.2.1.2.1 x.2.1.2.2.1, ()) }

/-- Transformed -/
theorem h35 : Ok 35 sPTrf := by
  refine mk (ctr := [(102, sOField), (103, sTrf)]) ⟨h102, h103, trivial⟩ (nt := 20) Try.func35 rfl rfl rfl rfl (by kernel_rfl) (by kernel_rfl) (fun _ => []) ?_
  rintro ⟨(xs : List Int), ⟨(p : Int), (w : Int), (n : Int), _⟩, _⟩ (h : pLen xs.length)
  by_cases ho : ofE xs p w n = 0
  · have hz := ofE_zero ho
    have u : trL xs p w n = dftL p w xs := if_pos ho
    repeat' (intro hzz; (try (rename Two => hq; cases hq)); (try dsimp only at hzz); (try simp only [resTy, argTy, eqD, inR, big, wantOf, Bool.not_true, Bool.not_false, Bool.true_eq, decide_eq_true_eq, decide_eq_false_iff_not, Bool.not_eq_true', Bool.not_eq_false', Bool.and_eq_true, Prod.mk.injEq, and_true, true_and, Int.not_lt, Int.not_le, gt_iff_lt, ge_iff_le] at hzz); (try simp only [resTy, argTy, eqD, inR, big, wantOf, Bool.not_true, Bool.not_false, Bool.true_eq, decide_eq_true_eq, decide_eq_false_iff_not, Bool.not_eq_true', Bool.not_eq_false', Bool.and_eq_true, Prod.mk.injEq, and_true, true_and, Int.not_lt, Int.not_le, gt_iff_lt, ge_iff_le, ho] at hzz); (try (first | contradiction | (exfalso; omega))); (try (revert hzz; intro _)))
    all_goals try (rename Unit => hq; clear hq)
    all_goals try ((with_reducible refine Held.mk ?_); (with_reducible (first | refine Frz.mk ?_ | refine And.intro (Frz.mk ?_) ?_ | refine And.intro ?_ (Frz.mk ?_))); repeat' first | exact True.intro | (change _ = _; with_reducible rfl) | refine And.intro ?_ ?_ | (with_reducible refine Frz.mk ?_))
    all_goals try (refine Held.mk ?_; (try dsimp only at *); (try simp only [resTy, argTy, eqD, inR, big, wantOf, Bool.not_true, Bool.not_false, Bool.true_eq, decide_eq_true_eq, decide_eq_false_iff_not, Bool.not_eq_true', Bool.not_eq_false', Bool.and_eq_true, Prod.mk.injEq, and_true, true_and, Int.not_lt, Int.not_le, gt_iff_lt, ge_iff_le] at *); (try simp only [resTy, argTy, eqD, inR, big, wantOf, Bool.not_true, Bool.not_false, Bool.true_eq, decide_eq_true_eq, decide_eq_false_iff_not, Bool.not_eq_true', Bool.not_eq_false', Bool.and_eq_true, Prod.mk.injEq, and_true, true_and, Int.not_lt, Int.not_le, gt_iff_lt, ge_iff_le, ho] at *))
    all_goals try omega
    · exact ⟨hz.1, hz.2.1⟩
    · exact u.symm
  · have u : trL xs p w n = [] := if_neg ho
    repeat' (intro hzz; (try (rename Two => hq; cases hq)); (try dsimp only at hzz); (try simp only [resTy, argTy, eqD, inR, big, wantOf, Bool.not_true, Bool.not_false, Bool.true_eq, decide_eq_true_eq, decide_eq_false_iff_not, Bool.not_eq_true', Bool.not_eq_false', Bool.and_eq_true, Prod.mk.injEq, and_true, true_and, Int.not_lt, Int.not_le, gt_iff_lt, ge_iff_le] at hzz); (try simp only [resTy, argTy, eqD, inR, big, wantOf, Bool.not_true, Bool.not_false, Bool.true_eq, decide_eq_true_eq, decide_eq_false_iff_not, Bool.not_eq_true', Bool.not_eq_false', Bool.and_eq_true, Prod.mk.injEq, and_true, true_and, Int.not_lt, Int.not_le, gt_iff_lt, ge_iff_le, ho] at hzz); (try (first | contradiction | (exfalso; omega))); (try (revert hzz; intro _)))
    all_goals try (rename Unit => hq; clear hq)
    all_goals try ((with_reducible refine Held.mk ?_); (with_reducible (first | refine Frz.mk ?_ | refine And.intro (Frz.mk ?_) ?_ | refine And.intro ?_ (Frz.mk ?_))); repeat' first | exact True.intro | (change _ = _; with_reducible rfl) | refine And.intro ?_ ?_ | (with_reducible refine Frz.mk ?_))
    all_goals try (refine Held.mk ?_; (try dsimp only at *); (try simp only [resTy, argTy, eqD, inR, big, wantOf, Bool.not_true, Bool.not_false, Bool.true_eq, decide_eq_true_eq, decide_eq_false_iff_not, Bool.not_eq_true', Bool.not_eq_false', Bool.and_eq_true, Prod.mk.injEq, and_true, true_and, Int.not_lt, Int.not_le, gt_iff_lt, ge_iff_le] at *); (try simp only [resTy, argTy, eqD, inR, big, wantOf, Bool.not_true, Bool.not_false, Bool.true_eq, decide_eq_true_eq, decide_eq_false_iff_not, Bool.not_eq_true', Bool.not_eq_false', Bool.and_eq_true, Prod.mk.injEq, and_true, true_and, Int.not_lt, Int.not_le, gt_iff_lt, ge_iff_le, ho] at *))
    all_goals try omega
    · exact u.symm

/-- Back -/
theorem h37 : Ok 37 sPBack := by
  refine mk (ctr := [(102, sOField), (104, sBk)]) ⟨h102, h104, trivial⟩ (nt := 20) Try.func37 rfl rfl rfl rfl (by kernel_rfl) (by kernel_rfl) (fun _ => []) ?_
  rintro ⟨(xs : List Int), ⟨(p : Int), (w : Int), (n : Int), _⟩, _⟩ (h : pLen xs.length)
  by_cases ho : ofE xs p w n = 0
  · have hz := ofE_zero ho
    have u : bkL xs p w n = backL p w n xs := if_pos ho
    repeat' (intro hzz; (try (rename Two => hq; cases hq)); (try dsimp only at hzz); (try simp only [resTy, argTy, eqD, inR, big, wantOf, Bool.not_true, Bool.not_false, Bool.true_eq, decide_eq_true_eq, decide_eq_false_iff_not, Bool.not_eq_true', Bool.not_eq_false', Bool.and_eq_true, Prod.mk.injEq, and_true, true_and, Int.not_lt, Int.not_le, gt_iff_lt, ge_iff_le] at hzz); (try simp only [resTy, argTy, eqD, inR, big, wantOf, Bool.not_true, Bool.not_false, Bool.true_eq, decide_eq_true_eq, decide_eq_false_iff_not, Bool.not_eq_true', Bool.not_eq_false', Bool.and_eq_true, Prod.mk.injEq, and_true, true_and, Int.not_lt, Int.not_le, gt_iff_lt, ge_iff_le, ho] at hzz); (try (first | contradiction | (exfalso; omega))); (try (revert hzz; intro _)))
    all_goals try (rename Unit => hq; clear hq)
    all_goals try ((with_reducible refine Held.mk ?_); (with_reducible (first | refine Frz.mk ?_ | refine And.intro (Frz.mk ?_) ?_ | refine And.intro ?_ (Frz.mk ?_))); repeat' first | exact True.intro | (change _ = _; with_reducible rfl) | refine And.intro ?_ ?_ | (with_reducible refine Frz.mk ?_))
    all_goals try (refine Held.mk ?_; (try dsimp only at *); (try simp only [resTy, argTy, eqD, inR, big, wantOf, Bool.not_true, Bool.not_false, Bool.true_eq, decide_eq_true_eq, decide_eq_false_iff_not, Bool.not_eq_true', Bool.not_eq_false', Bool.and_eq_true, Prod.mk.injEq, and_true, true_and, Int.not_lt, Int.not_le, gt_iff_lt, ge_iff_le] at *); (try simp only [resTy, argTy, eqD, inR, big, wantOf, Bool.not_true, Bool.not_false, Bool.true_eq, decide_eq_true_eq, decide_eq_false_iff_not, Bool.not_eq_true', Bool.not_eq_false', Bool.and_eq_true, Prod.mk.injEq, and_true, true_and, Int.not_lt, Int.not_le, gt_iff_lt, ge_iff_le, ho] at *))
    all_goals try omega
    · exact ⟨hz.1, hz.2.1⟩
    · exact u.symm
  · have u : bkL xs p w n = [] := if_neg ho
    repeat' (intro hzz; (try (rename Two => hq; cases hq)); (try dsimp only at hzz); (try simp only [resTy, argTy, eqD, inR, big, wantOf, Bool.not_true, Bool.not_false, Bool.true_eq, decide_eq_true_eq, decide_eq_false_iff_not, Bool.not_eq_true', Bool.not_eq_false', Bool.and_eq_true, Prod.mk.injEq, and_true, true_and, Int.not_lt, Int.not_le, gt_iff_lt, ge_iff_le] at hzz); (try simp only [resTy, argTy, eqD, inR, big, wantOf, Bool.not_true, Bool.not_false, Bool.true_eq, decide_eq_true_eq, decide_eq_false_iff_not, Bool.not_eq_true', Bool.not_eq_false', Bool.and_eq_true, Prod.mk.injEq, and_true, true_and, Int.not_lt, Int.not_le, gt_iff_lt, ge_iff_le, ho] at hzz); (try (first | contradiction | (exfalso; omega))); (try (revert hzz; intro _)))
    all_goals try (rename Unit => hq; clear hq)
    all_goals try ((with_reducible refine Held.mk ?_); (with_reducible (first | refine Frz.mk ?_ | refine And.intro (Frz.mk ?_) ?_ | refine And.intro ?_ (Frz.mk ?_))); repeat' first | exact True.intro | (change _ = _; with_reducible rfl) | refine And.intro ?_ ?_ | (with_reducible refine Frz.mk ?_))
    all_goals try (refine Held.mk ?_; (try dsimp only at *); (try simp only [resTy, argTy, eqD, inR, big, wantOf, Bool.not_true, Bool.not_false, Bool.true_eq, decide_eq_true_eq, decide_eq_false_iff_not, Bool.not_eq_true', Bool.not_eq_false', Bool.and_eq_true, Prod.mk.injEq, and_true, true_and, Int.not_lt, Int.not_le, gt_iff_lt, ge_iff_le] at *); (try simp only [resTy, argTy, eqD, inR, big, wantOf, Bool.not_true, Bool.not_false, Bool.true_eq, decide_eq_true_eq, decide_eq_false_iff_not, Bool.not_eq_true', Bool.not_eq_false', Bool.and_eq_true, Prod.mk.injEq, and_true, true_and, Int.not_lt, Int.not_le, gt_iff_lt, ge_iff_le, ho] at *))
    all_goals try omega
    · exact u.symm

theorem fok_n {p w n : Int} (h : FOk p w n) : n < p := by
  obtain ⟨h1, h2, h3, h4, h5, h6, h7, h8, h9⟩ := h
  have := Int.le_of_dvd (by omega) (Int.dvd_of_emod_eq_zero h8)
  omega

theorem at_dftL {p w : Int} {xs : List Int} {k : Nat} (h : k < xs.length) : (dftL p w xs).getD k 0 = dft p w (at0 xs) xs.length k := tab_get _ _ _ _ h

/-- There and back. -/
theorem back_ok {p w n : Int} {xs : List Int} (hf : FOk p w n) (hl : (xs.length : Int) = n) {i : Nat} (hi : i < xs.length) : (backL p w n (dftL p w xs)).getD i 0 = xs.getD i 0 % p := by
  have hn := fok_n hf
  obtain ⟨h1, h2, h3, h4, h5, h6, h7, h8, h9⟩ := hf
  have hlen : n.toNat = xs.length := by omega
  rw [hlen] at h9
  unfold backL
  rw [tab_get _ _ _ _ (by rw [dftL_len]; exact hi)]
  unfold backF
  rw [dftL_len]
  have e : dft p (inv w p) (at0 (dftL p w xs)) xs.length i = dft p (inv w p) (dft p w (at0 xs) xs.length) xs.length i := by
    refine congrArg (· % p) (sm_congr xs.length fun k hk => ?_)
    show at0 (dftL p w xs) k * _ = dft p w (at0 xs) xs.length k * _
    rw [show at0 (dftL p w xs) k = dft p w (at0 xs) xs.length k from at_dftL hk]
  rw [e]
  have hv := inv_mul h7 (root_unit h7 (by omega) h9.1)
  have hc : Cg p ((xs.length : Int) * inv n p) 1 := by
    rw [hl]
    exact inv_mul h7 (pr_small (by omega) hn)
  exact there_back h7 h9 hv hc (at0 xs) hi

def turnL (xs : List Int) : List Int := [xs.getD (xs.length - 1) 0] ++ xs.take (xs.length - 1)

theorem turnL_len {xs : List Int} (h : 1 ≤ xs.length) : (turnL xs).length = xs.length := by
  unfold turnL
  rw [List.length_append, List.length_take]
  simp; omega

theorem sm_head (f : Nat → Int) : ∀ n : Nat, sm f (n + 1) = f 0 + sm (fun i => f (i + 1)) n
  | 0 => by show 0 + f 0 = f 0 + 0; omega
  | n + 1 => by
    have e : sm f (n + 1 + 1) = sm f (n + 1) + f (n + 1) := rfl
    have e2 : sm (fun i => f (i + 1)) (n + 1) = sm (fun i => f (i + 1)) n + f (n + 1) := rfl
    rw [e, sm_head f n, e2]; omega

theorem turn_at {xs : List Int} {j : Nat} (h : j + 1 < xs.length) : at0 (turnL xs) (j + 1) = at0 xs j := by
  unfold at0 turnL
  simp only [List.getD]
  rw [List.getElem?_append_right (by simp)]
  simp only [List.length_singleton, Nat.add_sub_cancel]
  rw [List.getElem?_take_of_lt (by omega)]

/-- A list turned by one number. -/
theorem turn_ok {p w n : Int} {xs : List Int} (hf : FOk p w n) (hl : (xs.length : Int) = n) {k : Nat} (hk : k < xs.length) : (dftL p w (turnL xs)).getD k 0 = ((dftL p w xs).getD k 0 * pw w k p).tmod p := by
  obtain ⟨h1, h2, h3, h4, h5, h6, h7, h8, h9⟩ := hf
  have hlen : n.toNat = xs.length := by omega
  rw [hlen] at h9
  have hw := h9.1
  have ht := turnL_len (xs := xs) (by omega)
  rw [at_dftL (by omega), at_dftL hk, ht]
  have g1 := dft_in h1 w (at0 xs) xs.length k
  have g2 : 0 ≤ pw w k p ∧ pw w k p < p := em_in h1 _
  rw [Int.tmod_eq_emod_of_nonneg (Int.mul_nonneg g1.1 g2.1)]
  obtain ⟨m, hm⟩ : ∃ m, xs.length = m + 1 := ⟨xs.length - 1, by omega⟩
  have hr : Cg p (dft p w (at0 xs) xs.length k * pw w k p) (sm (fun j => at0 xs j * w ^ (j * k)) xs.length * w ^ k) := (Cg.mod p _).mul (Cg.mod p _)
  refine Cg.trans ?_ hr.symm
  rw [hm]
  rw [hm] at hw
  have e1 : sm (fun j => at0 (turnL xs) j * w ^ (j * k)) (m + 1) = at0 xs m + sm (fun j => at0 xs j * w ^ ((j + 1) * k)) m := by
    rw [sm_head]
    have a1 : at0 (turnL xs) 0 = at0 xs m := by
      unfold at0 turnL
      rw [hm]; rfl
    rw [a1, Nat.zero_mul, Int.pow_zero, Int.mul_one]
    refine congrArg (at0 xs m + ·) (sm_congr m fun j hj => ?_)
    show at0 (turnL xs) (j + 1) * _ = at0 xs j * _
    rw [turn_at (by omega)]
  rw [e1]
  have e2 : sm (fun j => at0 xs j * w ^ (j * k)) (m + 1) * w ^ k = at0 xs m * w ^ ((m + 1) * k) + sm (fun j => at0 xs j * w ^ ((j + 1) * k)) m := by
    have a2 : sm (fun j => at0 xs j * w ^ (j * k)) (m + 1) = sm (fun j => at0 xs j * w ^ (j * k)) m + at0 xs m * w ^ (m * k) := rfl
    rw [a2, Int.add_mul, Int.mul_comm (sm _ m), ← sm_mul, Int.add_comm]
    congr 1
    · rw [Int.mul_assoc, ← Int.pow_add, Nat.add_mul, Nat.one_mul]
    · refine sm_congr m fun j _ => ?_
      rw [Nat.add_mul, Nat.one_mul, Int.pow_add]
      generalize w ^ (j * k) = A
      generalize w ^ k = B
      grind
  rw [e2]
  have h := (Cg.refl p (at0 xs m)).mul (pow_one_mul hw k)
  rw [Int.mul_one] at h
  exact h.symm.add (Cg.refl p _)

end Go.Eng.Pu
