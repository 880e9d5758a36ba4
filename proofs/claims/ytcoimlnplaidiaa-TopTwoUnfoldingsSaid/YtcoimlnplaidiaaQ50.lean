/- The law PulseExcites. Conditions: none. -/
import Derived.Test.YtcoimlnplaidiaaQ49
namespace Go.Eng.Pu
open Go.Eng Go.Proofs
set_option linter.all false
set_option maxRecDepth 100000
set_option maxHeartbeats 8000000

abbrev RawL := List (Nat × Nat × Unit)
def few (n : Nat) : Bool := decide (n ≤ 40) || (decide (1024 < n) && decide (n ≤ 1026))

theorem few_le {n : Nat} (h : few n = true) : n ≤ 1026 := by
  unfold few at h
  simp at h
  omega

@[reducible] def sFew : Spec := { pats := [.dat (.sl RawT)], res := [{ t := .bool }], pre := fun _ => True, f := fun x => (few (List.length (α := Nat × Nat × Unit) x.1), ()) }

/-- Few -/
theorem h28n : Ok 28 sFew := by
  refine mk (ctr := []) trivial (nt := 16) Try.func28 rfl rfl rfl rfl (by kernel_rfl) (by kernel_rfl) (fun _ => []) ?_
  rintro ⟨(l : RawL), _⟩ _
  repeat' (intro hzz; (try (rename Two => hq; cases hq)); (try dsimp only at hzz); (try simp only [resTy, argTy, eqD, inR, big, wantOf, Bool.not_true, Bool.not_false, Bool.true_eq, decide_eq_true_eq, decide_eq_false_iff_not, Bool.not_eq_true', Bool.not_eq_false', Bool.and_eq_true, Prod.mk.injEq, and_true, true_and, Int.not_lt, Int.not_le, gt_iff_lt, ge_iff_le] at hzz); (try (first | contradiction | (exfalso; omega))); (try (revert hzz; intro _)))
  all_goals try (rename Unit => hq; clear hq)
  all_goals try ((with_reducible refine Held.mk ?_); (with_reducible (first | refine Frz.mk ?_ | refine And.intro (Frz.mk ?_) ?_ | refine And.intro ?_ (Frz.mk ?_))); repeat' first | exact True.intro | (change _ = _; with_reducible rfl) | refine And.intro ?_ ?_ | (with_reducible refine Frz.mk ?_))
  all_goals try (refine Held.mk ?_; (try dsimp only at *); (try simp only [resTy, argTy, eqD, inR, big, wantOf, Bool.not_true, Bool.not_false, Bool.true_eq, decide_eq_true_eq, decide_eq_false_iff_not, Bool.not_eq_true', Bool.not_eq_false', Bool.and_eq_true, Prod.mk.injEq, and_true, true_and, Int.not_lt, Int.not_le, gt_iff_lt, ge_iff_le] at *))
  all_goals try omega
  · rename_i h1 h2
    unfold few
    rw [decide_eq_false (p := l.length ≤ 40) (by omega), decide_eq_true (p := 1024 < l.length) (by omega), Bool.false_or, Bool.true_and, decide_eq_decide]
    omega
  · rename_i h1 h2
    unfold few
    rw [decide_eq_false (p := l.length ≤ 40) (by omega), decide_eq_false (p := 1024 < l.length) (by omega)]; rfl
  · rename_i h
    unfold few
    rw [decide_eq_true (p := l.length ≤ 40) (by omega)]; rfl

theorem lsL_len (l : RawL) : (lsL l).length = l.length := tab_len _ _

theorem fdL_ok (xs : CL) (p : Int) : okC (fdL xs p) := by
  unfold fdL
  split
  · split
    · exact tL_ok _
    · exact okC_nil
  · exact okC_nil

theorem fdL_len {xs : CL} {p : Int} : (fdL xs p).length ≤ 1024 := by
  unfold fdL
  split
  · split
    · rename_i h1
      have a := tL_len (flL (lP xs) p.toNat (lP xs).length)
      have b : (flL (lP xs) p.toNat (lP xs).length).length = p.toNat := tab_len _ _
      omega
    · exact Nat.zero_le _
  · exact Nat.zero_le _

theorem exR_len {xs : CL} {L : Int} {ts : List Int} {s : Int} (hts : pLen ts.length) : (exR xs L ts s).length ≤ 1024 := by
  unfold exR
  split
  · split
    · rename_i ho
      split
      · have a := tL_len (exL xs L ts s)
        have b : (exL xs L ts s).length = (most L).toNat := tab_len _ _
        have c := most_in (chk_zero (op_pSt hts ho).1.1).1
        omega
      · exact Nat.zero_le _
    · exact Nat.zero_le _
  · exact Nat.zero_le _

abbrev StartT : Ty := .cons Reg0 (.cons I64 .nil)
@[reducible] def sLaw4 : Spec := { pats := [.dat (.sl RawT), .dat StartT, .dat I64], res := [{ t := .bool }], pre := fun _ => True, f := fun _ => (true, ()) }

/-- PulseExcites -/
theorem h4 : Ok 4 sLaw4 := by
  refine mk (ctr := [(17, sAwake), (28, sFew), (30, sListW), (29, sFolded), (19, sCopy), (31, sExc), (32, sFolded), (33, sExc), (34, sSameN)]) ⟨h17, h28n, h30n, h29n, h19, h31n, h32n, h33n, h34n, trivial⟩ (nt := 88) Try.func4 rfl rfl rfl rfl (by kernel_rfl) (by kernel_rfl) (fun _ => []) ?_
  rintro ⟨(l : RawL), ⟨⟨(L : Int), (ts : List Int), _⟩, (s : Int), _⟩, (per : Int), _⟩ _
  by_cases hf : few l.length = true
  · have hle := few_le hf
    by_cases ht : ts.length ≤ 12
    · have htp : pLen ts.length := by unfold pLen; omega
      have e1 : okC (fdL (lsL l) per) := fdL_ok _ _
      have e2 : okC (exR (lsL l) L ts s) := exR_ok _ _ _ _
      have e3 := fdL_len (xs := lsL l) (p := per)
      have e4 := exR_len (xs := lsL l) (L := L) (s := s) htp
      repeat' (intro hzz; (try (rename Two => hq; cases hq)); (try dsimp only at hzz); (try simp only [resTy, argTy, eqD, inR, big, wantOf, Bool.not_true, Bool.not_false, Bool.true_eq, decide_eq_true_eq, decide_eq_false_iff_not, Bool.not_eq_true', Bool.not_eq_false', Bool.and_eq_true, Prod.mk.injEq, and_true, true_and, Int.not_lt, Int.not_le, gt_iff_lt, ge_iff_le] at hzz); (try simp only [resTy, argTy, eqD, inR, big, wantOf, Bool.not_true, Bool.not_false, Bool.true_eq, decide_eq_true_eq, decide_eq_false_iff_not, Bool.not_eq_true', Bool.not_eq_false', Bool.and_eq_true, Prod.mk.injEq, and_true, true_and, Int.not_lt, Int.not_le, gt_iff_lt, ge_iff_le, hf] at hzz); (try (first | contradiction | (exfalso; omega))); (try (revert hzz; intro _)))
      all_goals try (rename Unit => hq; clear hq)
      all_goals try ((with_reducible refine Held.mk ?_); (with_reducible (first | refine Frz.mk ?_ | refine And.intro (Frz.mk ?_) ?_ | refine And.intro ?_ (Frz.mk ?_))); repeat' first | exact True.intro | (change _ = _; with_reducible rfl) | refine And.intro ?_ ?_ | (with_reducible refine Frz.mk ?_))
      all_goals try (refine Held.mk ?_; (try dsimp only at *); (try simp only [resTy, argTy, eqD, inR, big, wantOf, Bool.not_true, Bool.not_false, Bool.true_eq, decide_eq_true_eq, decide_eq_false_iff_not, Bool.not_eq_true', Bool.not_eq_false', Bool.and_eq_true, Prod.mk.injEq, and_true, true_and, Int.not_lt, Int.not_le, gt_iff_lt, ge_iff_le] at *); (try simp only [resTy, argTy, eqD, inR, big, wantOf, Bool.not_true, Bool.not_false, Bool.true_eq, decide_eq_true_eq, decide_eq_false_iff_not, Bool.not_eq_true', Bool.not_eq_false', Bool.and_eq_true, Prod.mk.injEq, and_true, true_and, Int.not_lt, Int.not_le, gt_iff_lt, ge_iff_le, hf] at *))
      all_goals try omega
      all_goals first | exact (show l.length ≤ 1000000000 by omega) | exact ⟨htp, (show ts.length ≤ 2000000000 by omega)⟩ | exact ⟨(show (fdL (lsL l) per).length ≤ 2000000000 by omega), e1⟩ | exact ⟨(show (exR (lsL l) L ts s).length ≤ 2000000000 by omega), e2⟩
    · 
      repeat' (intro hzz; (try (rename Two => hq; cases hq)); (try dsimp only at hzz); (try simp only [resTy, argTy, eqD, inR, big, wantOf, Bool.not_true, Bool.not_false, Bool.true_eq, decide_eq_true_eq, decide_eq_false_iff_not, Bool.not_eq_true', Bool.not_eq_false', Bool.and_eq_true, Prod.mk.injEq, and_true, true_and, Int.not_lt, Int.not_le, gt_iff_lt, ge_iff_le] at hzz); (try simp only [resTy, argTy, eqD, inR, big, wantOf, Bool.not_true, Bool.not_false, Bool.true_eq, decide_eq_true_eq, decide_eq_false_iff_not, Bool.not_eq_true', Bool.not_eq_false', Bool.and_eq_true, Prod.mk.injEq, and_true, true_and, Int.not_lt, Int.not_le, gt_iff_lt, ge_iff_le, hf] at hzz); (try (first | contradiction | (exfalso; omega))); (try (revert hzz; intro _)))
      all_goals try (rename Unit => hq; clear hq)
      all_goals try ((with_reducible refine Held.mk ?_); (with_reducible (first | refine Frz.mk ?_ | refine And.intro (Frz.mk ?_) ?_ | refine And.intro ?_ (Frz.mk ?_))); repeat' first | exact True.intro | (change _ = _; with_reducible rfl) | refine And.intro ?_ ?_ | (with_reducible refine Frz.mk ?_))
      all_goals try (refine Held.mk ?_; (try dsimp only at *); (try simp only [resTy, argTy, eqD, inR, big, wantOf, Bool.not_true, Bool.not_false, Bool.true_eq, decide_eq_true_eq, decide_eq_false_iff_not, Bool.not_eq_true', Bool.not_eq_false', Bool.and_eq_true, Prod.mk.injEq, and_true, true_and, Int.not_lt, Int.not_le, gt_iff_lt, ge_iff_le] at *); (try simp only [resTy, argTy, eqD, inR, big, wantOf, Bool.not_true, Bool.not_false, Bool.true_eq, decide_eq_true_eq, decide_eq_false_iff_not, Bool.not_eq_true', Bool.not_eq_false', Bool.and_eq_true, Prod.mk.injEq, and_true, true_and, Int.not_lt, Int.not_le, gt_iff_lt, ge_iff_le, hf] at *))
      all_goals try omega
  · have hf : few l.length = false := by simpa using hf
    repeat' (intro hzz; (try (rename Two => hq; cases hq)); (try dsimp only at hzz); (try simp only [resTy, argTy, eqD, inR, big, wantOf, Bool.not_true, Bool.not_false, Bool.true_eq, decide_eq_true_eq, decide_eq_false_iff_not, Bool.not_eq_true', Bool.not_eq_false', Bool.and_eq_true, Prod.mk.injEq, and_true, true_and, Int.not_lt, Int.not_le, gt_iff_lt, ge_iff_le] at hzz); (try simp only [resTy, argTy, eqD, inR, big, wantOf, Bool.not_true, Bool.not_false, Bool.true_eq, decide_eq_true_eq, decide_eq_false_iff_not, Bool.not_eq_true', Bool.not_eq_false', Bool.and_eq_true, Prod.mk.injEq, and_true, true_and, Int.not_lt, Int.not_le, gt_iff_lt, ge_iff_le, hf] at hzz); (try (first | contradiction | (exfalso; omega))); (try (revert hzz; intro _)))
    all_goals try (rename Unit => hq; clear hq)
    all_goals try ((with_reducible refine Held.mk ?_); (with_reducible (first | refine Frz.mk ?_ | refine And.intro (Frz.mk ?_) ?_ | refine And.intro ?_ (Frz.mk ?_))); repeat' first | exact True.intro | (change _ = _; with_reducible rfl) | refine And.intro ?_ ?_ | (with_reducible refine Frz.mk ?_))
    all_goals try (refine Held.mk ?_; (try dsimp only at *); (try simp only [resTy, argTy, eqD, inR, big, wantOf, Bool.not_true, Bool.not_false, Bool.true_eq, decide_eq_true_eq, decide_eq_false_iff_not, Bool.not_eq_true', Bool.not_eq_false', Bool.and_eq_true, Prod.mk.injEq, and_true, true_and, Int.not_lt, Int.not_le, gt_iff_lt, ge_iff_le] at *); (try simp only [resTy, argTy, eqD, inR, big, wantOf, Bool.not_true, Bool.not_false, Bool.true_eq, decide_eq_true_eq, decide_eq_false_iff_not, Bool.not_eq_true', Bool.not_eq_false', Bool.and_eq_true, Prod.mk.injEq, and_true, true_and, Int.not_lt, Int.not_le, gt_iff_lt, ge_iff_le, hf] at *))
    all_goals try omega

end Go.Eng.Pu
