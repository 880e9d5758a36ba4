/- Contracts: Unfolded, of the program and of the reference; the law PulseUnfolds. Conditions: each contract's own. Maximal registers: the sum of the signs, and their correlation with themselves. Plain laws. Conditions: the register is right and maximal. Maximal registers: what is excited is unfolded to the response; numbers read back. Plain laws. Conditions: the register is right and maximal. Contracts: transforms, there and back. Conditions: each contract's own. Contracts: opened fields, transforms there and back, of the program and of the reference. Conditions: each contract's own. -/
import Derived.Test.YtcoimlnplaidiaaDoorWC9
import Derived.Test.YtcoimlnplaidiaaDoorWC11
import Derived.Test.YtcoimlnplaidiaaDoorWC10
import Derived.Test.YtcoimlnplaidiaaDoorWC8
namespace Go.Eng.Pu
open Go.Eng Go.Proofs
set_option linter.all false
set_option maxRecDepth 100000
set_option maxHeartbeats 8000000

/-- What is unfolded at a place, times the period and 1 more. -/
def ufV (xs : CL) (L : Int) (ts : List Int) (s : Int) (k : Nat) : IP := lessP (trV (lP xs) (sgL L ts s) k (-1) (lP xs).length) (flV (lP xs) 1 0 (lP xs).length)
def dvB (n : Int) (p : IP) : Bool := decide (p.1 % n = 0) && decide (p.2.1 % n = 0)
def qoP (n : Int) (p : IP) : IP := (p.1 / n, p.2.1 / n, ())
def ufQ (xs : CL) (L : Int) (ts : List Int) (s : Int) (k : Nat) : IP := qoP (most L + 1) (ufV xs L ts s k)
def ufL (xs : CL) (L : Int) (ts : List Int) (s : Int) : List IP := tab (ufQ xs L ts s) (most L).toNat
def ufB (xs : CL) (L : Int) (ts : List Int) (s : Int) : Bool := (tab (ufV xs L ts s) (most L).toNat).all (dvB (most L + 1))

def ufE (xs : CL) (L : Int) (ts : List Int) (s : Int) : Int :=
  if lE xs = 0 then (if opErr L ts s = 0 then (if (per L ts 1 : Int) = most L then (if (xs.length : Int) = most L then (if ufB xs L ts s = true then tE (ufL xs L ts s) else 20) else 13) else 22) else opErr L ts s) else lE xs
def ufR (xs : CL) (L : Int) (ts : List Int) (s : Int) : CL :=
  if lE xs = 0 then (if opErr L ts s = 0 then (if (per L ts 1 : Int) = most L then (if (xs.length : Int) = most L then (if ufB xs L ts s = true then tL (ufL xs L ts s) else []) else []) else []) else []) else []

theorem ufB_no {xs : CL} {L : Int} {ts : List Int} {s : Int} {k : Nat} (hk : k < (most L).toNat) (h : dvB (most L + 1) (ufV xs L ts s k) = false) : ufB xs L ts s = false := by
  unfold ufB
  rw [List.all_eq_false]
  exact ⟨_, mem_tab' hk, by rw [h]; exact Bool.false_ne_true⟩

theorem ufB_yes {xs : CL} {L : Int} {ts : List Int} {s : Int} (h : ∀ k, k < (most L).toNat → dvB (most L + 1) (ufV xs L ts s k) = true) : ufB xs L ts s = true := by
  unfold ufB
  rw [List.all_eq_true]
  intro p hp
  obtain ⟨i, hi, rfl⟩ := tab_mem' hp
  exact h i hi

theorem ufV_in {xs : CL} {L : Int} {ts : List Int} {s : Int} (h : lE xs = 0) (hst : pSt L ts s) (hn : (xs.length : Int) = most L) (k : Nat) : (-8600000000 ≤ (ufV xs L ts s k).1 ∧ (ufV xs L ts s k).1 ≤ 8600000000) ∧ (-8600000000 ≤ (ufV xs L ts s k).2.1 ∧ (ufV xs L ts s k).2.1 ≤ 8600000000) := by
  have hm := most_in (chk_zero hst.1).1
  have hl := lP_len h
  have a := trV_in (a := k) (way := -1) (lP_okL h) (sgL_ok hst) (lP xs).length
  have b := flV_in (p := 1) (lP_okL h) 0 (lP xs).length
  have hl2 : ((lP xs).length : Int) ≤ 255 := by omega
  show (_ ≤ (trV (lP xs) (sgL L ts s) k (-1) (lP xs).length).1 - (flV (lP xs) 1 0 (lP xs).length).1 ∧ (trV (lP xs) (sgL L ts s) k (-1) (lP xs).length).1 - (flV (lP xs) 1 0 (lP xs).length).1 ≤ _) ∧ (_ ≤ (trV (lP xs) (sgL L ts s) k (-1) (lP xs).length).2.1 - (flV (lP xs) 1 0 (lP xs).length).2.1 ∧ (trV (lP xs) (sgL L ts s) k (-1) (lP xs).length).2.1 - (flV (lP xs) 1 0 (lP xs).length).2.1 ≤ _)
  omega

@[reducible] def sUnf : Spec := { pats := [.dat (.sl C64), .dat Reg0, .dat I64], res := [{ own := some 48, t := .sl C64 }, { t := I64 }], pre := fun x => pLen (List.length (α := Int) x.2.1.2.1), f := fun x => (ufR x.1 x.2.1.1 x.2.1.2.1 x.2.2.1, ufE x.1 x.2.1.1 x.2.1.2.1 x.2.2.1, ()) }

/-- Unfolded -/
theorem h53n : Ok 20 sUnf := by
  refine mk (ctr := [(43, sRecdD), (44, sOpen), (50, sIsMax), (46, sFull), (37, sPlus), (47, sSignsD), (48, sTurned), (40, sLess), (30, sTold)]) ⟨h91d, h83, h121, h94, h122, h95d, h96n, h123, h93n, trivial⟩ (nt := 103) Tryd.func20 rfl rfl rfl rfl (by kernel_rfl) (by kernel_rfl) (fun x => [fun _ => { σ := Nat, pat := fun k => [sI 49 k, .cell 11 0 (.d I64 (flV (lP x.1) 1 0 k).1), .cell 11 1 (.d I64 (flV (lP x.1) 1 0 k).2.1)], inv := fun k => k ≤ (List.length (α := IP) (lP x.1)), meas := fun k => (List.length (α := IP) (lP x.1)) - k }, fun _ => { σ := Nat, pat := fun k => [sI 65 k] ++ rOwn 16 60016 69 PairT (tab (ufQ x.1 x.2.1.1 x.2.1.2.1 x.2.2.1) k), inv := fun k => k ≤ (most x.2.1.1).toNat ∧ ∀ j, j < k → dvB (most x.2.1.1 + 1) (ufV x.1 x.2.1.1 x.2.1.2.1 x.2.2.1 j) = true, meas := fun k => (most x.2.1.1).toNat - k }]) ?_
  rintro ⟨(xs : CL), ⟨(L : Int), (ts : List Int), _⟩, (s : Int), _⟩ (hts : pLen ts.length)
  by_cases h : lE xs = 0
  · have hp := lP_okL h
    have hl := lP_len h
    have hl2 := (lE_ok h).2.1
    by_cases ho : opErr L ts s = 0
    · obtain ⟨hst, hs1⟩ := op_pSt hts ho
      have hL := (chk_zero hst.1).1
      have hm := most_in hL
      by_cases hx : (per L ts 1 : Int) = most L
      · have hxd := decide_eq_true hx
        by_cases hn : (xs.length : Int) = most L
        · have u : ufE xs L ts s = (if ufB xs L ts s = true then tE (ufL xs L ts s) else 20) := by unfold ufE; rw [if_pos h, if_pos ho, if_pos hx, if_pos hn]
          have v : ufR xs L ts s = (if ufB xs L ts s = true then tL (ufL xs L ts s) else []) := by unfold ufR; rw [if_pos h, if_pos ho, if_pos hx, if_pos hn]
          have hln : ((lP xs).length : Int) = most L := by omega
          have hsl := sgL_len L ts s
          have hsg : tab (sgI L ts s) (most L).toNat = sgL L ts s := rfl
          have hin := ufV_in h hst hn
          have hso := sgL_ok hst
          have hbd : ∀ a : Int, -8600000000 ≤ a → a ≤ 8600000000 → most L + 1 ≠ 0 ∧ -9223372036854775808 ≤ a.tdiv (most L + 1) ∧ a.tdiv (most L + 1) ≤ 9223372036854775807 := fun a h1 h2 => by
            have := tdiv_in (n := a) (b := most L + 1) (by omega) (by omega)
            omega
          repeat' (intro hzz; (try (rename Two => hq; cases hq)); (try dsimp only at hzz); (try simp only [resTy, argTy, eqD, inR, big, wantOf, Bool.not_true, Bool.not_false, Bool.true_eq, decide_eq_true_eq, decide_eq_false_iff_not, Bool.not_eq_true', Bool.not_eq_false', Bool.and_eq_true, Prod.mk.injEq, and_true, true_and, Int.not_lt, Int.not_le, gt_iff_lt, ge_iff_le] at hzz); (try simp only [resTy, argTy, eqD, inR, big, wantOf, Bool.not_true, Bool.not_false, Bool.true_eq, decide_eq_true_eq, decide_eq_false_iff_not, Bool.not_eq_true', Bool.not_eq_false', Bool.and_eq_true, Prod.mk.injEq, and_true, true_and, Int.not_lt, Int.not_le, gt_iff_lt, ge_iff_le, h, ho, hxd, hln, hsg] at hzz); (try (first | contradiction | (exfalso; omega))); (try (revert hzz; intro _)))
          all_goals try (rename Unit => hq; clear hq)
          all_goals try ((with_reducible refine Held.mk ?_); (with_reducible (first | refine Frz.mk ?_ | refine And.intro (Frz.mk ?_) ?_ | refine And.intro ?_ (Frz.mk ?_))); repeat' first | exact True.intro | (change _ = _; with_reducible rfl) | refine And.intro ?_ ?_ | (with_reducible refine Frz.mk ?_))
          all_goals try (refine Held.mk ?_; (try dsimp only at *); (try simp only [resTy, argTy, eqD, inR, big, wantOf, Bool.not_true, Bool.not_false, Bool.true_eq, decide_eq_true_eq, decide_eq_false_iff_not, Bool.not_eq_true', Bool.not_eq_false', Bool.and_eq_true, Prod.mk.injEq, and_true, true_and, Int.not_lt, Int.not_le, gt_iff_lt, ge_iff_le] at *); (try simp only [resTy, argTy, eqD, inR, big, wantOf, Bool.not_true, Bool.not_false, Bool.true_eq, decide_eq_true_eq, decide_eq_false_iff_not, Bool.not_eq_true', Bool.not_eq_false', Bool.and_eq_true, Prod.mk.injEq, and_true, true_and, Int.not_lt, Int.not_le, gt_iff_lt, ge_iff_le, h, ho, hxd, hln, hsg] at *))
          all_goals try omega
          · exact ⟨hst.1, hts⟩
          · 
            refine GHeld.mk ?_
            refine Exists.intro 0 ?_
            refine And.intro (Leaf.mk ?_) ?_
            · repeat' first | exact True.intro | refine And.intro ?_ ?_
              all_goals try ((change _ = _ <;> try dsimp only) <;> try with_reducible rfl)
              all_goals try omega
              all_goals (rfl)
            exact Nat.zero_le _
          · rename_i k hk hlt _
            have a := flV_in (p := 1) hp 0 k
            have b := hp k
            exact ⟨by unfold okI; omega, by unfold okI; omega, (show okI ((lP xs).getD k (0, 0, ())).1 by unfold okI; omega), (show okI ((lP xs).getD k (0, 0, ())).2.1 by unfold okI; omega)⟩
          · rename_i k hk hlt
            have e1 := flV1 (lP xs) k
            refine GHeld.mk ?_
            refine Exists.intro (k + 1) ?_
            refine And.intro (Leaf.mk ?_) ?_
            · repeat' first | exact True.intro | refine And.intro ?_ ?_
              all_goals try ((change _ = _ <;> try dsimp only) <;> try with_reducible rfl)
              all_goals try omega
              all_goals (first | exact (congrArg (fun z : IP => z.1) e1).symm | exact (congrArg (fun z : IP => z.2.1) e1).symm | rfl)
            exact ⟨by show k + 1 ≤ (lP xs).length; omega, by show (lP xs).length - (k + 1) < (lP xs).length - k; omega⟩
          · rename_i k hk hge
            refine GHeld.mk ?_
            refine Exists.intro 0 ?_
            refine And.intro (Leaf.mk ?_) ?_
            · repeat' first | exact True.intro | refine And.intro ?_ ?_
              all_goals try ((change _ = _ <;> try dsimp only) <;> try with_reducible rfl)
              all_goals try omega
              all_goals (rfl)
            exact ⟨Nat.zero_le _, fun j hj => by omega⟩
          · rename_i m hm1 hm2 k hk hlt _
            exact ⟨(show (lP xs).length ≤ 1024 by omega), hp, ⟨(show 1 ≤ (sgL L ts s).length by omega), (show (sgL L ts s).length ≤ 1024 by omega)⟩, hso, ⟨(show (0 : Int) ≤ (k : Int) by omega), (show (k : Int) ≤ 1024 by omega)⟩, .inr True.intro⟩
          · rename_i m hm1 hm2 k hk hlt _
            have a := flV_in (p := 1) hp 0 m
            have b := trV_in (a := k) (way := -1) hp hso (lP xs).length
            exact ⟨by unfold okI; omega, by unfold okI; omega, by unfold okI; omega, by unfold okI; omega⟩
          · rename_i m hm1 hm2 k hk hlt q1 q2 _
            have hme : m = (lP xs).length := by omega
            subst hme
            have hf := ufB_no (xs := xs) (s := s) (ts := ts) (L := L) (k := k) (by omega) (by
              unfold dvB
              rw [decide_eq_false (p := (ufV xs L ts s k).2.1 % (most L + 1) = 0) (fun hh => q2 ((tmod_zero (by omega)).2 hh)), Bool.and_false])
            rw [u, v, hf]; exact ⟨rfl, rfl⟩
          · rename_i m hm1 hm2 k hk hlt q1 q2 _
            have hme : m = (lP xs).length := by omega
            subst hme
            have := hin k
            exact hbd _ this.1.1 this.1.2
          · rename_i m hm1 hm2 k hk hlt q1 q2 _
            have hme : m = (lP xs).length := by omega
            subst hme
            have := hin k
            exact hbd _ this.2.1 this.2.2
          · rename_i m hm1 hm2 k hk hlt q1 q2 _
            rw [tab_len]; show k + 1 ≤ 2147483648; omega
          · rename_i m hm1 hm2 k hk hlt q1 q2
            have hme : m = (lP xs).length := by omega
            subst hme
            have d1 : (ufV xs L ts s k).1 % (most L + 1) = 0 := (tmod_zero (by omega)).1 q1
            have d2 : (ufV xs L ts s k).2.1 % (most L + 1) = 0 := (tmod_zero (by omega)).1 q2
            have e : tab (ufQ xs L ts s) k ++ [((ufV xs L ts s k).1.tdiv (most L + 1), (ufV xs L ts s k).2.1.tdiv (most L + 1), ())] = tab (ufQ xs L ts s) (k + 1) := by
              rw [tdiv_of d1, tdiv_of d2]; rfl
            refine GHeld.mk ?_
            refine Exists.intro (k + 1) ?_
            refine And.intro (Leaf.mk ?_) ?_
            · repeat' first | exact True.intro | refine And.intro ?_ ?_
              all_goals try ((change _ = _ <;> try dsimp only) <;> try with_reducible rfl)
              all_goals try omega
              all_goals (first | exact e | exact congrArg List.length e)
            refine ⟨⟨by show k + 1 ≤ (most L).toNat; omega, fun j hj => ?_⟩, by show (most L).toNat - (k + 1) < (most L).toNat - k; omega⟩
            by_cases he : j = k
            · rw [he]
              show (decide ((ufV xs L ts s k).1 % (most L + 1) = 0) && decide ((ufV xs L ts s k).2.1 % (most L + 1) = 0)) = true
              rw [decide_eq_true d1, decide_eq_true d2]; rfl
            · exact hk.2 j (by omega)
          · rename_i m hm1 hm2 k hk hlt q1 _
            have hme : m = (lP xs).length := by omega
            subst hme
            have hf := ufB_no (xs := xs) (s := s) (ts := ts) (L := L) (k := k) (by omega) (by
              unfold dvB
              rw [decide_eq_false (p := (ufV xs L ts s k).1 % (most L + 1) = 0) (fun hh => q1 ((tmod_zero (by omega)).2 hh)), Bool.false_and])
            rw [u, v, hf]; exact ⟨rfl, rfl⟩
          · rename_i m hm1 hm2 k hk hge _
            rw [tab_len]; omega
          · rename_i m hm1 hm2 k hk hge _
            have hf := ufB_yes (xs := xs) (s := s) (ts := ts) (L := L) (fun j hj => hk.2 j (by omega))
            rw [u, v, hf, show k = (most L).toNat by omega]; exact ⟨rfl, rfl⟩
        · have u : ufE xs L ts s = 13 := by unfold ufE; rw [if_pos h, if_pos ho, if_pos hx, if_neg hn]
          have v : ufR xs L ts s = [] := by unfold ufR; rw [if_pos h, if_pos ho, if_pos hx, if_neg hn]
          have hln : ¬ ((lP xs).length : Int) = most L := by omega
          repeat' (intro hzz; (try (rename Two => hq; cases hq)); (try dsimp only at hzz); (try simp only [resTy, argTy, eqD, inR, big, wantOf, Bool.not_true, Bool.not_false, Bool.true_eq, decide_eq_true_eq, decide_eq_false_iff_not, Bool.not_eq_true', Bool.not_eq_false', Bool.and_eq_true, Prod.mk.injEq, and_true, true_and, Int.not_lt, Int.not_le, gt_iff_lt, ge_iff_le] at hzz); (try simp only [resTy, argTy, eqD, inR, big, wantOf, Bool.not_true, Bool.not_false, Bool.true_eq, decide_eq_true_eq, decide_eq_false_iff_not, Bool.not_eq_true', Bool.not_eq_false', Bool.and_eq_true, Prod.mk.injEq, and_true, true_and, Int.not_lt, Int.not_le, gt_iff_lt, ge_iff_le, h, ho, hxd, u, v] at hzz); (try (first | contradiction | (exfalso; omega))); (try (revert hzz; intro _)))
          all_goals try (rename Unit => hq; clear hq)
          all_goals try ((with_reducible refine Held.mk ?_); (with_reducible (first | refine Frz.mk ?_ | refine And.intro (Frz.mk ?_) ?_ | refine And.intro ?_ (Frz.mk ?_))); repeat' first | exact True.intro | (change _ = _; with_reducible rfl) | refine And.intro ?_ ?_ | (with_reducible refine Frz.mk ?_))
          all_goals try (refine Held.mk ?_; (try dsimp only at *); (try simp only [resTy, argTy, eqD, inR, big, wantOf, Bool.not_true, Bool.not_false, Bool.true_eq, decide_eq_true_eq, decide_eq_false_iff_not, Bool.not_eq_true', Bool.not_eq_false', Bool.and_eq_true, Prod.mk.injEq, and_true, true_and, Int.not_lt, Int.not_le, gt_iff_lt, ge_iff_le] at *); (try simp only [resTy, argTy, eqD, inR, big, wantOf, Bool.not_true, Bool.not_false, Bool.true_eq, decide_eq_true_eq, decide_eq_false_iff_not, Bool.not_eq_true', Bool.not_eq_false', Bool.and_eq_true, Prod.mk.injEq, and_true, true_and, Int.not_lt, Int.not_le, gt_iff_lt, ge_iff_le, h, ho, hxd, u, v] at *))
          all_goals try omega
          all_goals exact ⟨hst.1, hts⟩
      · have hxd := decide_eq_false hx
        have u : ufE xs L ts s = 22 := by unfold ufE; rw [if_pos h, if_pos ho, if_neg hx]
        have v : ufR xs L ts s = [] := by unfold ufR; rw [if_pos h, if_pos ho, if_neg hx]
        repeat' (intro hzz; (try (rename Two => hq; cases hq)); (try dsimp only at hzz); (try simp only [resTy, argTy, eqD, inR, big, wantOf, Bool.not_true, Bool.not_false, Bool.true_eq, decide_eq_true_eq, decide_eq_false_iff_not, Bool.not_eq_true', Bool.not_eq_false', Bool.and_eq_true, Prod.mk.injEq, and_true, true_and, Int.not_lt, Int.not_le, gt_iff_lt, ge_iff_le] at hzz); (try simp only [resTy, argTy, eqD, inR, big, wantOf, Bool.not_true, Bool.not_false, Bool.true_eq, decide_eq_true_eq, decide_eq_false_iff_not, Bool.not_eq_true', Bool.not_eq_false', Bool.and_eq_true, Prod.mk.injEq, and_true, true_and, Int.not_lt, Int.not_le, gt_iff_lt, ge_iff_le, h, ho, hxd, u, v] at hzz); (try (first | contradiction | (exfalso; omega))); (try (revert hzz; intro _)))
        all_goals try (rename Unit => hq; clear hq)
        all_goals try ((with_reducible refine Held.mk ?_); (with_reducible (first | refine Frz.mk ?_ | refine And.intro (Frz.mk ?_) ?_ | refine And.intro ?_ (Frz.mk ?_))); repeat' first | exact True.intro | (change _ = _; with_reducible rfl) | refine And.intro ?_ ?_ | (with_reducible refine Frz.mk ?_))
        all_goals try (refine Held.mk ?_; (try dsimp only at *); (try simp only [resTy, argTy, eqD, inR, big, wantOf, Bool.not_true, Bool.not_false, Bool.true_eq, decide_eq_true_eq, decide_eq_false_iff_not, Bool.not_eq_true', Bool.not_eq_false', Bool.and_eq_true, Prod.mk.injEq, and_true, true_and, Int.not_lt, Int.not_le, gt_iff_lt, ge_iff_le] at *); (try simp only [resTy, argTy, eqD, inR, big, wantOf, Bool.not_true, Bool.not_false, Bool.true_eq, decide_eq_true_eq, decide_eq_false_iff_not, Bool.not_eq_true', Bool.not_eq_false', Bool.and_eq_true, Prod.mk.injEq, and_true, true_and, Int.not_lt, Int.not_le, gt_iff_lt, ge_iff_le, h, ho, hxd, u, v] at *))
        all_goals try omega
        all_goals exact ⟨hst.1, hts⟩
    · have u : ufE xs L ts s = opErr L ts s := by unfold ufE; rw [if_pos h, if_neg ho]
      have v : ufR xs L ts s = [] := by unfold ufR; rw [if_pos h, if_neg ho]
      repeat' (intro hzz; (try (rename Two => hq; cases hq)); (try dsimp only at hzz); (try simp only [resTy, argTy, eqD, inR, big, wantOf, Bool.not_true, Bool.not_false, Bool.true_eq, decide_eq_true_eq, decide_eq_false_iff_not, Bool.not_eq_true', Bool.not_eq_false', Bool.and_eq_true, Prod.mk.injEq, and_true, true_and, Int.not_lt, Int.not_le, gt_iff_lt, ge_iff_le] at hzz); (try simp only [resTy, argTy, eqD, inR, big, wantOf, Bool.not_true, Bool.not_false, Bool.true_eq, decide_eq_true_eq, decide_eq_false_iff_not, Bool.not_eq_true', Bool.not_eq_false', Bool.and_eq_true, Prod.mk.injEq, and_true, true_and, Int.not_lt, Int.not_le, gt_iff_lt, ge_iff_le, h, u, v] at hzz); (try (first | contradiction | (exfalso; omega))); (try (revert hzz; intro _)))
      all_goals try (rename Unit => hq; clear hq)
      all_goals try ((with_reducible refine Held.mk ?_); (with_reducible (first | refine Frz.mk ?_ | refine And.intro (Frz.mk ?_) ?_ | refine And.intro ?_ (Frz.mk ?_))); repeat' first | exact True.intro | (change _ = _; with_reducible rfl) | refine And.intro ?_ ?_ | (with_reducible refine Frz.mk ?_))
      all_goals try (refine Held.mk ?_; (try dsimp only at *); (try simp only [resTy, argTy, eqD, inR, big, wantOf, Bool.not_true, Bool.not_false, Bool.true_eq, decide_eq_true_eq, decide_eq_false_iff_not, Bool.not_eq_true', Bool.not_eq_false', Bool.and_eq_true, Prod.mk.injEq, and_true, true_and, Int.not_lt, Int.not_le, gt_iff_lt, ge_iff_le] at *); (try simp only [resTy, argTy, eqD, inR, big, wantOf, Bool.not_true, Bool.not_false, Bool.true_eq, decide_eq_true_eq, decide_eq_false_iff_not, Bool.not_eq_true', Bool.not_eq_false', Bool.and_eq_true, Prod.mk.injEq, and_true, true_and, Int.not_lt, Int.not_le, gt_iff_lt, ge_iff_le, h, u, v] at *))
      all_goals try omega
  · have u : ufE xs L ts s = lE xs := by unfold ufE; rw [if_neg h]
    have v : ufR xs L ts s = [] := by unfold ufR; rw [if_neg h]
    repeat' (intro hzz; (try (rename Two => hq; cases hq)); (try dsimp only at hzz); (try simp only [resTy, argTy, eqD, inR, big, wantOf, Bool.not_true, Bool.not_false, Bool.true_eq, decide_eq_true_eq, decide_eq_false_iff_not, Bool.not_eq_true', Bool.not_eq_false', Bool.and_eq_true, Prod.mk.injEq, and_true, true_and, Int.not_lt, Int.not_le, gt_iff_lt, ge_iff_le] at hzz); (try simp only [resTy, argTy, eqD, inR, big, wantOf, Bool.not_true, Bool.not_false, Bool.true_eq, decide_eq_true_eq, decide_eq_false_iff_not, Bool.not_eq_true', Bool.not_eq_false', Bool.and_eq_true, Prod.mk.injEq, and_true, true_and, Int.not_lt, Int.not_le, gt_iff_lt, ge_iff_le, u, v] at hzz); (try (first | contradiction | (exfalso; omega))); (try (revert hzz; intro _)))
    all_goals try (rename Unit => hq; clear hq)
    all_goals try ((with_reducible refine Held.mk ?_); (with_reducible (first | refine Frz.mk ?_ | refine And.intro (Frz.mk ?_) ?_ | refine And.intro ?_ (Frz.mk ?_))); repeat' first | exact True.intro | (change _ = _; with_reducible rfl) | refine And.intro ?_ ?_ | (with_reducible refine Frz.mk ?_))
    all_goals try (refine Held.mk ?_; (try dsimp only at *); (try simp only [resTy, argTy, eqD, inR, big, wantOf, Bool.not_true, Bool.not_false, Bool.true_eq, decide_eq_true_eq, decide_eq_false_iff_not, Bool.not_eq_true', Bool.not_eq_false', Bool.and_eq_true, Prod.mk.injEq, and_true, true_and, Int.not_lt, Int.not_le, gt_iff_lt, ge_iff_le] at *); (try simp only [resTy, argTy, eqD, inR, big, wantOf, Bool.not_true, Bool.not_false, Bool.true_eq, decide_eq_true_eq, decide_eq_false_iff_not, Bool.not_eq_true', Bool.not_eq_false', Bool.and_eq_true, Prod.mk.injEq, and_true, true_and, Int.not_lt, Int.not_le, gt_iff_lt, ge_iff_le, u, v] at *))
    all_goals try omega

/-- The rows when the loop has come to k. -/
def ufG (xs : CL) (L : Int) (ts : List Int) (s : Int) (k i : Nat) : IP := if i < k then ufQ xs L ts s i else trV (lP xs) (sgL L ts s) i (-1) (lP xs).length

theorem ufL_ok {xs : CL} {L : Int} {ts : List Int} {s : Int} (h : lE xs = 0) (hst : pSt L ts s) (hn : (xs.length : Int) = most L) : okL 4000000000000000000 (ufL xs L ts s) := okL_tab (by omega) fun i _ => by
  have hm := most_in (chk_zero hst.1).1
  have a := ufV_in h hst hn i
  have b := div_in (n := (ufV xs L ts s i).1) (b := most L + 1) (by omega) (by omega) (by omega)
  have c := div_in (n := (ufV xs L ts s i).2.1) (b := most L + 1) (by omega) (by omega) (by omega)
  have d1 := Int.natAbs_ediv_le_natAbs (ufV xs L ts s i).1 (most L + 1)
  have d2 := Int.natAbs_ediv_le_natAbs (ufV xs L ts s i).2.1 (most L + 1)
  show (_ ≤ (ufV xs L ts s i).1 / (most L + 1) ∧ (ufV xs L ts s i).1 / (most L + 1) ≤ _) ∧ (_ ≤ (ufV xs L ts s i).2.1 / (most L + 1) ∧ (ufV xs L ts s i).2.1 / (most L + 1) ≤ _)
  omega

theorem ufG_one {xs : CL} {L : Int} {ts : List Int} {s : Int} {k : Nat} (hk : k < (most L).toNat) :
    ((tab (ufG xs L ts s k) (most L).toNat).getD k (0, 0, ())).1 - ((flL (lP xs) (Int.toNat 1) (lP xs).length).getD (Int.toNat 0) (0, 0, ())).1 = (ufV xs L ts s k).1 := by
  rw [tab_get _ _ _ _ hk]
  unfold ufG
  rw [if_neg (by omega)]; rfl

theorem ufG_two {xs : CL} {L : Int} {ts : List Int} {s : Int} {k : Nat} {v : Int} (hk : k < (most L).toNat) :
    (((tab (ufG xs L ts s k) (most L).toNat).set k (v, ((tab (ufG xs L ts s k) (most L).toNat).getD k (0, 0, ())).2)).getD k (0, 0, ())).2.1 - ((flL (lP xs) (Int.toNat 1) (lP xs).length).getD (Int.toNat 0) (0, 0, ())).2.1 = (ufV xs L ts s k).2.1 := by
  rw [getD_set_self (by rw [tab_len]; exact hk), tab_get _ _ _ _ hk]
  unfold ufG
  rw [if_neg (by omega)]; rfl

theorem ufG_next {xs : CL} {L : Int} {ts : List Int} {s : Int} {k : Nat} {v w : Int} (hk : k < (most L).toNat) (hv : v = (ufV xs L ts s k).1 / (most L + 1)) (hw : w = (ufV xs L ts s k).2.1 / (most L + 1)) :
    ((tab (ufG xs L ts s k) (most L).toNat).set k (v, ((tab (ufG xs L ts s k) (most L).toNat).getD k (0, 0, ())).2)).set k ((((tab (ufG xs L ts s k) (most L).toNat).set k (v, ((tab (ufG xs L ts s k) (most L).toNat).getD k (0, 0, ())).2)).getD k (0, 0, ())).1, w, (((tab (ufG xs L ts s k) (most L).toNat).set k (v, ((tab (ufG xs L ts s k) (most L).toNat).getD k (0, 0, ())).2)).getD k (0, 0, ())).2.2) = tab (ufG xs L ts s (k + 1)) (most L).toNat := by
  rw [getD_set_self (by rw [tab_len]; exact hk), List.set_set, tab_set]
  refine tab_congr _ fun i hi => ?_
  unfold ufG
  by_cases he : i = k
  · subst he
    rw [if_pos rfl, if_pos (by omega), hv, hw]; rfl
  · rw [if_neg he]
    by_cases h2 : i < k
    · rw [if_pos h2, if_pos (by omega)]
    · rw [if_neg h2, if_neg (by omega)]

theorem ufR_ok (xs : CL) (L : Int) (ts : List Int) (s : Int) : okC (ufR xs L ts s) := by
  unfold ufR
  repeat' split
  all_goals first | exact tL_ok _ | exact okC_nil

theorem ufR_len {xs : CL} {L : Int} {ts : List Int} {s : Int} (hts : pLen ts.length) : (ufR xs L ts s).length ≤ 1024 := by
  unfold ufR
  split
  · split
    · rename_i ho
      have c := most_in (chk_zero (op_pSt hts ho).1.1).1
      have a := tL_len (ufL xs L ts s)
      have b : (ufL xs L ts s).length = (most L).toNat := tab_len _ _
      repeat' split
      all_goals first | exact Nat.zero_le _ | omega
    · exact Nat.zero_le _
  · exact Nat.zero_le _

@[reducible] def sLaw9 : Spec := { pats := [.dat (.sl RawT), .dat StartT], res := [{ t := .bool }], pre := fun _ => True, f := fun _ => (true, ()) }

end Go.Eng.Pu

namespace Go.Eng.Pu
open Go.Eng Go.Proofs
set_option linter.all false
set_option maxRecDepth 100000
set_option maxHeartbeats 8000000

section
variable {L : Int} {xs : List Int} {s : Int}

theorem sgI_add (s : Int) (k i : Nat) : sgI L xs (stI L xs s k) i = sgI L xs s (k + i) := by
  unfold sgI; rw [bitI_add]

theorem sgI_per (h : pSt L xs s) (i : Nat) : sgI L xs s (i + per L xs s) = sgI L xs s i := by
  rw [Nat.add_comm, ← sgI_add, (per_spec h).1]

theorem sgI_turns (h : pSt L xs s) (q i : Nat) : sgI L xs s (per L xs s * q + i) = sgI L xs s i := by
  rw [← sgI_add, per_turns h]

theorem sgI_mod (h : pSt L xs s) (m : Nat) : sgI L xs s (m % per L xs s) = sgI L xs s m := by
  have e := sgI_turns h (m / per L xs s) (m % per L xs s)
  rw [Nat.div_add_mod] at e
  exact e.symm

/-- The sum of the signs of a start. -/
def sumS (L : Int) (xs : List Int) (s : Int) : Int := sm (sgI L xs s) (per L xs 1)
def corS (L : Int) (xs : List Int) (s : Int) (k : Nat) : Int := sm (fun i => sgI L xs s i * sgI L xs s (i + k)) (per L xs 1)

theorem sumS_one (hc : chk L xs = 0) (hl : pLen xs.length) (hM : Maxi L xs) (h : pSt L xs s) (hs : 1 ≤ s) : sumS L xs s = sumS L xs 1 := by
  have h1 := one_pSt hc hl
  obtain ⟨j, hj⟩ := on_way hc hl hM h hs
  have e := sm_turn (f := sgI L xs 1) (n := per L xs 1) (fun i => sgI_per h1 i) j
  unfold sumS
  rw [← e, ← hj]
  exact sm_congr _ fun i _ => by rw [sgI_add, Nat.add_comm]

theorem cor_zero (h : pSt L xs s) (hp : per L xs s = per L xs 1) {k : Nat} (hk : k % per L xs 1 = 0) : corS L xs s k = per L xs 1 := by
  have e : ∀ i, i < per L xs 1 → sgI L xs s i * sgI L xs s (i + k) = 1 := by
    intro i _
    have e1 : sgI L xs s (i + k) = sgI L xs s i := by
      have := sgI_turns h (k / per L xs s) i
      rw [hp, Nat.mul_div_cancel' (Nat.dvd_of_mod_eq_zero hk), Nat.add_comm] at this
      exact this
    rw [e1]
    have := bit_01 (L := L) (xs := xs) (s := s) i
    unfold sgI
    rcases (show bitI L xs s i = 0 ∨ bitI L xs s i = 1 from by omega) with h0 | h0 <;> (rw [h0]; rfl)
  unfold corS
  rw [sm_congr _ e, sm_const]
  omega

/-- Shifted and added, the signs are the signs of another start. -/
theorem cor_shift (hc : chk L xs = 0) (hl : pLen xs.length) (hM : Maxi L xs) (h : pSt L xs s) (hs : 1 ≤ s) {k : Nat} (hk : ¬ k % per L xs 1 = 0) : corS L xs s k = sumS L xs 1 := by
  have hp := per_max hc hl hM h hs
  have hz := regE_zero (chk_zero hc).2.2.1
  have b := fun i => bit_01 (L := L) (xs := xs) (s := s) i
  obtain ⟨c, hcd⟩ : ∃ c : Nat → Int, c = fun i => (bitI L xs s i + bitI L xs s (i + k)) % 2 := ⟨_, rfl⟩
  have ce : ∀ i, c i = (bitI L xs s i + bitI L xs s (i + k)) % 2 := fun i => by rw [hcd]
  have h01 : ∀ i, 0 ≤ c i ∧ c i ≤ 1 := fun i => by rw [ce]; omega
  have hr : ∀ t : Nat, L ≤ (t : Int) → c t = sm (fun j => c (t - (xs.getD j 0).toNat)) xs.length % 2 := by
    intro t ht
    have e1 := bit_tail h ht
    have e2 := bit_tail h (t := t + k) (by omega)
    have e3 : tapSum L xs s (t + k) xs.length = sm (fun j => bitI L xs s (t - (xs.getD j 0).toNat + k)) xs.length := by
      refine sm_congr _ fun j hj => ?_
      have := hz j (by omega) (by omega)
      rw [show t + k - (xs.getD j 0).toNat = t - (xs.getD j 0).toNat + k from by omega]
    have e4 := sm_mod (fun j => bitI L xs s (t - (xs.getD j 0).toNat)) (fun j => bitI L xs s (t - (xs.getD j 0).toNat + k)) xs.length
    have e5 : sm (fun j => c (t - (xs.getD j 0).toNat)) xs.length = sm (fun j => (bitI L xs s (t - (xs.getD j 0).toNat) + bitI L xs s (t - (xs.getD j 0).toNat + k)) % 2) xs.length := sm_congr _ fun j _ => ce _
    have e6 : tapSum L xs s t xs.length = sm (fun j => bitI L xs s (t - (xs.getD j 0).toNat)) xs.length := rfl
    rw [ce, e1, e2, e3, e5, e4, e6]
    omega
  obtain ⟨hu, hub⟩ := uniq hc hl h01 hr
  have hu1 : 1 ≤ startOf c L.toNat := by
    have := hu.2.2
    by_cases h0 : startOf c L.toNat = 0
    · exfalso
      have h00 : pSt L xs 0 := by rw [← h0]; exact hu
      have z : ∀ i, bitI L xs 0 i = 0 := by
        have st0 : ∀ i, stI L xs 0 i = 0 := by
          intro i
          induction i with
          | zero => rfl
          | succ i ih =>
            have hpz : ∀ m, parK L xs 0 m = 0 := by
              intro m
              induction m with
              | zero => rfl
              | succ m ihm => simp only [parK, ihm, tapBit, Int.zero_ediv]; rfl
            simp only [stI, ih, nxt, hpz]
            simp
        intro i
        unfold bitI
        rw [st0]; rfl
      have e : s = stI L xs s k := bits_inj h (stI_pSt h k) fun i => by
        have e1 := hub i
        rw [h0, z i, ce] at e1
        rw [bitI_add, Nat.add_comm]
        have := b i
        have := b (i + k)
        omega
      have := per_dvd h e.symm
      rw [hp] at this
      exact hk this
    · omega
  rw [← sumS_one hc hl hM hu hu1]
  unfold corS sumS
  refine sm_congr _ fun i _ => ?_
  unfold sgI
  rw [hub, ce]
  have b1 := b i
  have b2 := b (i + k)
  rcases (show bitI L xs s i = 0 ∨ bitI L xs s i = 1 from by omega) with e1 | e1 <;> rcases (show bitI L xs s (i + k) = 0 ∨ bitI L xs s (i + k) = 1 from by omega) with e2 | e2 <;> (rw [e1, e2]; rfl)

theorem sm_first (a b : Int) : ∀ n : Nat, sm (fun k => if k = 0 then a else b) (n + 1) = a + n * b
  | 0 => by simp [sm]
  | n + 1 => by
    have ih := sm_first a b n
    have e : sm (fun k => if k = 0 then a else b) (n + 1 + 1) = sm (fun k => if k = 0 then a else b) (n + 1) + (if n + 1 = 0 then a else b) := rfl
    rw [e, ih, if_neg (by omega), Int.natCast_add, Int.add_mul]
    simp
    omega

theorem sm_nonneg_zero {f : Nat → Int} (h : ∀ i, 0 ≤ f i) : ∀ {n : Nat}, sm f n = 0 → ∀ i, i < n → f i = 0
  | 0, _, i, hi => by omega
  | n + 1, hz, i, hi => by
    have hn : ∀ m, 0 ≤ sm f m := by
      intro m
      induction m with
      | zero => exact Int.le_refl _
      | succ m ih => have := h m; simp only [sm]; omega
    simp only [sm] at hz
    have h1 := hn n
    have h2 := h n
    by_cases he : i = n
    · subst he; omega
    · exact sm_nonneg_zero h (n := n) (by omega) i (by omega)

/-- The signs of a maximal register add up to -1. -/
theorem sum_max (hc : chk L xs = 0) (hl : pLen xs.length) (hM : Maxi L xs) : sumS L xs 1 = -1 := by
  have h1 := one_pSt hc hl
  have hL := (chk_zero hc).1
  obtain ⟨p1, p2, p3, p4⟩ := per_spec h1
  obtain ⟨n, hn⟩ : ∃ n, per L xs 1 = n + 1 := ⟨per L xs 1 - 1, by omega⟩
  obtain ⟨S, hS⟩ : ∃ S, S = sumS L xs 1 := ⟨_, rfl⟩
  -- all correlations, added up
  have e1 : sm (fun k => corS L xs 1 k) (per L xs 1) = (n + 1 : Int) + n * S := by
    have : sm (fun k => corS L xs 1 k) (per L xs 1) = sm (fun k => if k = 0 then ((n + 1 : Nat) : Int) else S) (n + 1) := by
      rw [← hn]
      refine sm_congr _ fun k hk => ?_
      by_cases h0 : k = 0
      · rw [if_pos h0, cor_zero h1 rfl (by rw [h0]; exact Nat.zero_mod _)]
      · rw [if_neg h0, cor_shift hc hl hM h1 (by omega) (by rw [Nat.mod_eq_of_lt hk]; exact h0), hS]
    rw [this, sm_first]
    simp
  have e2 : sm (fun k => corS L xs 1 k) (per L xs 1) = S * S := by
    have f1 : sm (fun k => corS L xs 1 k) (per L xs 1) = sm (fun i => sm (fun k => sgI L xs 1 i * sgI L xs 1 (i + k)) (per L xs 1)) (per L xs 1) := (sm_comm (fun i k => sgI L xs 1 i * sgI L xs 1 (i + k)) (per L xs 1) (per L xs 1)).symm
    rw [f1]
    have f2 : ∀ i, i < per L xs 1 → sm (fun k => sgI L xs 1 i * sgI L xs 1 (i + k)) (per L xs 1) = S * sgI L xs 1 i := by
      intro i _
      rw [sm_mul]
      have f3 := sm_turn (f := sgI L xs 1) (n := per L xs 1) (fun i => sgI_per h1 i) i
      have f4 : sm (fun k => sgI L xs 1 (i + k)) (per L xs 1) = sm (fun k => sgI L xs 1 (k + i)) (per L xs 1) := sm_congr _ fun k _ => by rw [Nat.add_comm]
      rw [f4, f3, Int.mul_comm, hS]; rfl
    rw [sm_congr _ f2, sm_mul, hS]; rfl
  have e3 : (S - (n + 1 : Int)) * (S + 1) = 0 := by
    have e := e1.symm.trans e2
    have : (S - (n + 1 : Int)) * (S + 1) = S * S - ((n + 1 : Int) + n * S) := by
      rw [Int.sub_mul, Int.mul_add, Int.mul_add, Int.mul_one, Int.mul_one, Int.add_mul, Int.one_mul]
      omega
    rw [this, ← e]; omega
  rcases Int.mul_eq_zero.1 e3 with h | h
  · exfalso
    -- all bits would be 0
    have e4 : S = (n + 1 : Int) - 2 * sm (bitI L xs 1) (per L xs 1) := by
      rw [hS]
      unfold sumS
      have : sm (sgI L xs 1) (per L xs 1) = sm (fun i => 1 + (-2) * bitI L xs 1 i) (per L xs 1) := sm_congr _ fun i _ => by unfold sgI; omega
      rw [this, sm_add, sm_const, sm_mul, hn]
      simp
      omega
    have hz : sm (bitI L xs 1) (per L xs 1) = 0 := by omega
    have := sm_nonneg_zero (fun i => (bit_01 (L := L) (xs := xs) (s := 1) i).1) hz 0 (by omega)
    rw [bit_head h1 (by omega)] at this
    simp at this
  · rw [← hS]; omega

end

end Go.Eng.Pu

namespace Go.Eng.Pu
open Go.Eng Go.Proofs
set_option linter.all false
set_option maxRecDepth 100000

/-! ### Numbers read back -/

theorem pE_int {n : Int} (h1 : -16777216 ≤ n) (h2 : n ≤ 16777216) : pE (floatOfInt .f32 n) = 0 ∧ fT .f32 (floatOfInt .f32 n) = n := by
  obtain ⟨a, b⟩ := foi_num h1 h2
  have h0 := fS_pos .f32
  have ht : fT .f32 (floatOfInt .f32 n) = n := by
    unfold fT; rw [b, Int.mul_tdiv_cancel _ (by omega)]
  have hw : fWh .f32 (floatOfInt .f32 n) = true := by
    unfold fWh; rw [ht, b]; exact decide_eq_true rfl
  refine ⟨?_, ht⟩
  unfold pE M32
  rw [if_pos a, b, hw, if_neg ?_, if_pos rfl]
  generalize fS .f32 = S at *
  rintro (h | h)
  · have := Int.mul_le_mul_of_nonneg_right h2 (show 0 ≤ S by omega); omega
  · have := Int.mul_le_mul_of_nonneg_right h1 (show 0 ≤ S by omega); omega

theorem tab_getD {α : Type} (d : α) (l : List α) : tab (fun i => l.getD i d) l.length = l := by
  apply List.ext_getElem
  · exact tab_len _ _
  · intro i h1 h2
    have h3 := tab_get (fun i => l.getD i d) d l.length i h2
    have e1 : (tab (fun i => l.getD i d) l.length).getD i d = (tab (fun i => l.getD i d) l.length)[i] := by
      rw [List.getD_eq_getElem?_getD, List.getElem?_eq_getElem h1]; rfl
    have e2 : l.getD i d = l[i] := by
      rw [List.getD_eq_getElem?_getD, List.getElem?_eq_getElem h2]; rfl
    rw [← e1, h3, e2]

theorem lF_zero {xs : CL} (h : ∀ i, i < xs.length → eE (xs.getD i (0, 0)) = 0) : lF xs = 0 := by
  have key : ∀ k, k ≤ xs.length → lF (xs.drop (xs.length - k)) = 0 := by
    intro k
    induction k with
    | zero => intro _; rw [List.drop_eq_nil_of_le (by omega)]; rfl
    | succ k ih =>
      intro hk
      rw [lF_step (by omega), if_pos (h _ (by omega)), show xs.length - (k + 1) + 1 = xs.length - k by omega]
      exact ih (by omega)
  have := key xs.length (Nat.le_refl _)
  rwa [Nat.sub_self, List.drop_zero] at this

theorem nm_eE {ps : List IP} (hf : allFit ps = true) (i : Nat) : eE (nmF ps i) = 0 ∧ prT (nmF ps i) = ps.getD i (0, 0, ()) := by
  have h := allFit_at hf i
  have a := pE_int h.1.1 h.1.2
  have b := pE_int h.2.1 h.2.2
  refine ⟨eE_c a.1 b.1, ?_⟩
  show (fT .f32 (floatOfInt .f32 _), fT .f32 (floatOfInt .f32 _), ()) = _
  rw [a.2, b.2]

/-- Numbers that fit are read back. -/
theorem tL_read {ps : List IP} (hf : allFit ps = true) (h1 : 1 ≤ ps.length) (h2 : ps.length ≤ 1024) : lE (tL ps) = 0 ∧ lP (tL ps) = ps ∧ (tL ps).length = ps.length := by
  have e : tL ps = tab (nmF ps) ps.length := by unfold tL; rw [if_pos hf]
  have hl : (tL ps).length = ps.length := by rw [e]; exact tab_len _ _
  have hg : ∀ i, i < ps.length → (tL ps).getD i (0, 0) = nmF ps i := fun i hi => by rw [e, tab_get _ _ _ _ hi]
  have hE : lE (tL ps) = 0 := by
    unfold lE
    rw [if_neg (by omega), if_neg (by omega)]
    exact lF_zero fun i hi => by rw [hg i (by omega)]; exact (nm_eE hf i).1
  refine ⟨hE, ?_, hl⟩
  unfold lP
  rw [if_pos hE, hl]
  refine Eq.trans (tab_congr _ fun i hi => ?_) (tab_getD (0, 0, ()) ps)
  rw [hg i hi]; exact (nm_eE hf i).2

/-! ### Sums by parts -/

theorem trV_1 (ps : List IP) (sg : List Int) (a way : Int) : ∀ n : Nat, (trV ps sg a way n).1 = sm (fun k => (ps.getD k (0, 0, ())).1 * sgA sg (way * (a - k))) n
  | 0 => rfl
  | n + 1 => by
    show (trV ps sg a way n).1 + _ = sm _ n + _
    rw [trV_1 ps sg a way n]; rfl
theorem trV_2 (ps : List IP) (sg : List Int) (a way : Int) : ∀ n : Nat, (trV ps sg a way n).2.1 = sm (fun k => (ps.getD k (0, 0, ())).2.1 * sgA sg (way * (a - k))) n
  | 0 => rfl
  | n + 1 => by
    show (trV ps sg a way n).2.1 + _ = sm _ n + _
    rw [trV_2 ps sg a way n]; rfl
theorem flV_1 (ps : List IP) : ∀ n : Nat, (flV ps 1 0 n).1 = sm (fun k => (ps.getD k (0, 0, ())).1) n
  | 0 => rfl
  | n + 1 => by rw [flV1]; show (flV ps 1 0 n).1 + _ = sm _ n + _; rw [flV_1 ps n]
theorem flV_2 (ps : List IP) : ∀ n : Nat, (flV ps 1 0 n).2.1 = sm (fun k => (ps.getD k (0, 0, ())).2.1) n
  | 0 => rfl
  | n + 1 => by rw [flV1]; show (flV ps 1 0 n).2.1 + _ = sm _ n + _; rw [flV_2 ps n]

/-! ### Signs of a maximal register -/

structure Mx (L : Int) (ts : List Int) (s : Int) : Prop where
  hst : pSt L ts s
  hs : 1 ≤ s
  hM : (per L ts 1 : Int) = most L

theorem Mx.N {L : Int} {ts : List Int} {s : Int} (m : Mx L ts s) : per L ts 1 = (most L).toNat := by have := m.hM; omega
theorem Mx.per {L : Int} {ts : List Int} {s : Int} (m : Mx L ts s) : per L ts s = (most L).toNat := (per_max m.hst.1 m.hst.2.1 m.hM m.hst m.hs).trans m.N
theorem Mx.pos {L : Int} {ts : List Int} {s : Int} (m : Mx L ts s) : 3 ≤ most L ∧ most L ≤ 255 := most_in (chk_zero m.hst.1).1

theorem sgA_nat {L : Int} {ts : List Int} {s : Int} (m : Mx L ts s) (i : Nat) : sgA (sgL L ts s) (i : Int) = sgI L ts s i := by
  have hp := m.pos
  unfold sgA
  rw [sgL_len]
  have e : (fMod (i : Int) ((most L).toNat : Nat)).toNat = i % (most L).toNat := by
    show ((i : Int) % ((most L).toNat : Nat)).toNat = _
    rw [← Int.natCast_emod]; rfl
  rw [e]
  unfold sgL
  rw [tab_get _ _ _ _ (Nat.mod_lt _ (by omega)), ← m.per, sgI_mod m.hst]

theorem sgA_diff {L : Int} {ts : List Int} {s : Int} (m : Mx L ts s) {t j : Nat} (hj : j ≤ (most L).toNat) : sgA (sgL L ts s) ((t : Int) - j) = sgI L ts s (t + ((most L).toNat - j)) := by
  rw [← sgA_nat m]
  have hp := m.pos
  unfold sgA
  rw [sgL_len]
  have e : fMod ((t : Int) - j) ((most L).toNat : Nat) = fMod ((t + ((most L).toNat - j) : Nat) : Int) ((most L).toNat : Nat) := by
    show ((t : Int) - j) % _ = ((t + ((most L).toNat - j) : Nat) : Int) % _
    rw [show ((t + ((most L).toNat - j) : Nat) : Int) = (t : Int) - j + ((most L).toNat : Nat) by omega, Int.add_emod_right]
  rw [e]

theorem sgI_turn {L : Int} {ts : List Int} {s : Int} (m : Mx L ts s) (i : Nat) : sgI L ts s (i + (most L).toNat) = sgI L ts s i := by
  have := sgI_per m.hst i
  rwa [m.per] at this

theorem sum_signs {L : Int} {ts : List Int} {s : Int} (m : Mx L ts s) (j : Nat) (hj : j ≤ (most L).toNat) : sm (fun t => sgA (sgL L ts s) ((t : Int) - j)) (most L).toNat = -1 := by
  rw [sm_congr _ fun t _ => sgA_diff m hj, sm_turn (sgI_turn m)]
  have a := sumS_one m.hst.1 m.hst.2.1 m.hM m.hst m.hs
  rw [sum_max m.hst.1 m.hst.2.1 m.hM] at a
  unfold sumS at a
  rwa [m.N] at a

theorem cor_le {L : Int} {ts : List Int} {s : Int} (m : Mx L ts s) {a b : Nat} (hab : a ≤ b) (hb : b < a + (most L).toNat) : sm (fun t => sgI L ts s (t + a) * sgI L ts s (t + b)) (most L).toNat = if a = b then most L else -1 := by
  have hp := m.pos
  have e : sm (fun t => sgI L ts s (t + a) * sgI L ts s (t + b)) (most L).toNat = corS L ts s (b - a) := by
    unfold corS
    rw [m.N]
    have h := sm_turn (f := fun i => sgI L ts s i * sgI L ts s (i + (b - a))) (n := (most L).toNat) (fun i => by
      show sgI L ts s (i + (most L).toNat) * sgI L ts s (i + (most L).toNat + (b - a)) = _
      rw [sgI_turn m, show i + (most L).toNat + (b - a) = i + (b - a) + (most L).toNat by omega, sgI_turn m]) a
    rw [← h]
    refine sm_congr _ fun t _ => ?_
    show _ = sgI L ts s (t + a) * sgI L ts s (t + a + (b - a))
    rw [show t + a + (b - a) = t + b by omega]
  rw [e]
  by_cases h : a = b
  · rw [if_pos h, cor_zero m.hst (m.per.trans m.N.symm) (by rw [show b - a = 0 by omega, Nat.zero_mod])]; exact m.hM
  · rw [if_neg h, cor_shift m.hst.1 m.hst.2.1 m.hM m.hst m.hs (by rw [m.N, Nat.mod_eq_of_lt (by omega)]; omega), sum_max m.hst.1 m.hst.2.1 m.hM]

theorem cor_two {L : Int} {ts : List Int} {s : Int} (m : Mx L ts s) {j k : Nat} (hj : j < (most L).toNat) (hk : k < (most L).toNat) :
    sm (fun t => sgA (sgL L ts s) ((t : Int) - j) * sgA (sgL L ts s) ((t : Int) - k)) (most L).toNat = if j = k then most L else -1 := by
  rw [sm_congr _ fun t _ => by rw [sgA_diff m (Nat.le_of_lt hj), sgA_diff m (Nat.le_of_lt hk)]]
  rcases Nat.le_total j k with h | h
  · have := cor_le m (a := (most L).toNat - k) (b := (most L).toNat - j) (by omega) (by omega)
    rw [sm_congr _ fun t _ => Int.mul_comm _ _, this]
    by_cases e : j = k
    · rw [if_pos (by omega), if_pos e]
    · rw [if_neg (by omega), if_neg e]
  · have := cor_le m (a := (most L).toNat - j) (b := (most L).toNat - k) (by omega) (by omega)
    rw [this]
    by_cases e : j = k
    · rw [if_pos (by omega), if_pos e]
    · rw [if_neg (by omega), if_neg e]

theorem sm_pick (c d : Int) (f : Nat → Int) (k : Nat) : ∀ n : Nat, sm (fun j => f j * (if j = k then c else d)) n = d * sm f n + (if k < n then (c - d) * f k else 0)
  | 0 => by simp [sm]
  | n + 1 => by
    show sm _ n + f n * (if n = k then c else d) = d * (sm f n + f n) + _
    rw [sm_pick c d f k n]
    by_cases h : n = k
    · subst h
      rw [if_pos rfl, if_neg (by omega), if_pos (by omega)]; grind
    · rw [if_neg h]
      by_cases h2 : k < n
      · rw [if_pos h2, if_pos (by omega)]; grind
      · rw [if_neg h2, if_neg (by omega)]; grind

/-- What is excited, correlated with the signs, less its sum, is N + 1 times the response. -/
theorem back_sum {L : Int} {ts : List Int} {s : Int} (m : Mx L ts s) (h : Nat → Int) {k : Nat} (hk : k < (most L).toNat) :
    sm (fun t => sm (fun j => h j * sgA (sgL L ts s) ((t : Int) - j)) (most L).toNat * sgA (sgL L ts s) ((t : Int) - k)) (most L).toNat - sm (fun t => sm (fun j => h j * sgA (sgL L ts s) ((t : Int) - j)) (most L).toNat) (most L).toNat = (most L + 1) * h k := by
  have e1 : sm (fun t => sm (fun j => h j * sgA (sgL L ts s) ((t : Int) - j)) (most L).toNat * sgA (sgL L ts s) ((t : Int) - k)) (most L).toNat = sm (fun j => h j * (if j = k then most L else -1)) (most L).toNat := by
    have : ∀ t, t < (most L).toNat → sm (fun j => h j * sgA (sgL L ts s) ((t : Int) - j)) (most L).toNat * sgA (sgL L ts s) ((t : Int) - k) = sm (fun j => h j * (sgA (sgL L ts s) ((t : Int) - j) * sgA (sgL L ts s) ((t : Int) - k))) (most L).toNat := fun t _ => by
      rw [Int.mul_comm, ← sm_mul]
      refine sm_congr _ fun j _ => ?_
      rw [Int.mul_comm, Int.mul_assoc]
    rw [sm_congr _ this, sm_comm]
    refine sm_congr _ fun j hj => ?_
    rw [sm_mul, cor_two m hj hk]
  have e2 : sm (fun t => sm (fun j => h j * sgA (sgL L ts s) ((t : Int) - j)) (most L).toNat) (most L).toNat = sm (fun j => h j * -1) (most L).toNat := by
    rw [sm_comm]
    refine sm_congr _ fun j hj => ?_
    rw [sm_mul, sum_signs m j (Nat.le_of_lt hj)]
  have e3 : sm (fun j => h j * -1) (most L).toNat = -1 * sm h (most L).toNat := by
    rw [← sm_mul]; exact sm_congr _ fun j _ => Int.mul_comm _ _
  rw [e1, e2, e3, sm_pick, if_pos hk]
  grind

end Go.Eng.Pu

namespace Go.Eng.Pu
open Go.Eng Go.Proofs
set_option linter.all false
set_option maxRecDepth 100000
set_option maxHeartbeats 8000000

def pwn (w p : Int) (i : Nat) : Int := w ^ i % p

/-- A list as a function. -/
def at0 (xs : List Int) (j : Nat) : Int := xs.getD j 0

/-- What the sum is behind j numbers. -/
def dfs (p w : Int) (xs : List Int) (k j : Nat) : Int := sm (fun j => at0 xs j * w ^ (j * k)) j % p

/-- The transform of a list. -/
def dftL (p w : Int) (xs : List Int) : List Int := tab (dft p w (at0 xs) xs.length) xs.length

theorem em_in {p : Int} (hp : 2 ≤ p) (x : Int) : 0 ≤ x % p ∧ x % p < p := ⟨Int.emod_nonneg _ (by omega), Int.emod_lt_of_pos _ (by omega)⟩

theorem pwn_in {p : Int} (hp : 2 ≤ p) (w : Int) (i : Nat) : 0 ≤ pwn w p i ∧ pwn w p i < p := em_in hp _
theorem dfs_in {p : Int} (hp : 2 ≤ p) (w : Int) (xs : List Int) (k j : Nat) : 0 ≤ dfs p w xs k j ∧ dfs p w xs k j < p := em_in hp _

theorem tmodN (j k n : Nat) : ((j : Int) * (k : Int)).tmod (n : Int) = ((j * k % n : Nat) : Int) := by
  rw [← Int.natCast_mul, Int.tmod_eq_emod_of_nonneg (Int.natCast_nonneg _), ← Int.natCast_emod]

theorem pwn_last (r p : Int) (k : Nat) : (tab (pwn r p) (k + 1)).getD (((k + 1 : Nat) : Int) - 1).toNat (Ty.dflt I64) = pwn r p k := by
  rw [show (((k + 1 : Nat) : Int) - 1).toNat = k by omega]
  exact tab_get _ _ _ _ (by omega)

theorem pwn_at (r p : Int) {m : Nat} {i : Int} {j k n : Nat} (hi : i = ((j * k % n : Nat) : Int)) (hn : 0 < n) (hm : n ≤ m + 1) : (tab (pwn r p) (m + 1)).getD i.toNat (Ty.dflt I64) = pwn r p (j * k % n) := by
  have := Nat.mod_lt (j * k) hn
  rw [hi, Int.toNat_natCast]
  exact tab_get _ _ _ _ (by omega)

theorem pwn_step {p : Int} (hp : 2 ≤ p) {r : Int} (hr : 0 ≤ r) (k : Nat) : (pwn r p k * r).tmod p = pwn r p (k + 1) := by
  have := pwn_in hp r k
  rw [Int.tmod_eq_emod_of_nonneg (Int.mul_nonneg this.1 hr)]
  show _ = r ^ (k + 1) % p
  rw [Int.pow_succ]
  exact (Cg.mod p _).mul (Cg.refl p r)

theorem dfs_next {p : Int} (hp : 2 ≤ p) {r : Int} {xs : List Int} {k j m : Nat} (h : Cg p (pwn r p m) (r ^ (j * k))) : (dfs p r xs k j + xs.getD j 0 % p * pwn r p m).tmod p = dfs p r xs k (j + 1) := by
  have h1 := dfs_in hp r xs k j
  have h2 := pwn_in hp r m
  have h3 := em_in hp (xs.getD j 0)
  rw [Int.tmod_eq_emod_of_nonneg (Int.add_nonneg h1.1 (Int.mul_nonneg h3.1 h2.1))]
  exact (Cg.mod p _).add ((Cg.mod p _).mul h)

theorem dfs_end (p r : Int) (xs : List Int) (k : Nat) : dfs p r xs k xs.length = dft p r (at0 xs) xs.length k := rfl

@[reducible] def sSums : Spec := { pats := [.dat Fld, .dat (.sl I64), .dat I64], res := [{ own := some 3, t := .sl I64 }], pre := fun x => (2 ≤ x.1.1.1 ∧ x.1.1.1 ≤ (2147483647 : Int)) ∧ (1 ≤ List.length (α := Int) x.2.1 ∧ List.length (α := Int) x.2.1 ≤ 1024) ∧ ((0 : Int) ≤ x.2.2.1 ∧ x.2.2.1 < (show Int from x.1.1.1)) ∧ Cg x.1.1.1 ((show Int from x.2.2.1) ^ List.length (α := Int) x.2.1) 1, f := fun x => (dftL x.1.1.1 x.2.2.1 x.2.1, ()) }

/-- field.sums -/
theorem h153 : Ok 77 sSums := by
  refine mk (ctr := [(68, sMod)]) ⟨h109, trivial⟩ (nt := 79) Tryd.func77 rfl rfl rfl rfl (by kernel_rfl) (by kernel_rfl) (fun x => [fun _ => { σ := Nat, pat := fun k => [sI 21 k, .slot 17 (.one .u)] ++ sOwn 7 17 3 (tab (pwn x.2.2.1 x.1.1.1) (k + 1)), inv := fun k => k + 1 ≤ List.length (α := Int) x.2.1, meas := fun k => List.length (α := Int) x.2.1 - k }, fun _ => { σ := Nat, pat := fun k => [sI 41 k] ++ sOwn 8 60008 3 (tab (dft x.1.1.1 x.2.2.1 (at0 x.2.1) (List.length (α := Int) x.2.1)) k), inv := fun k => k ≤ List.length (α := Int) x.2.1, meas := fun k => List.length (α := Int) x.2.1 - k }, fun st => withI 9 st fun c => { σ := Nat, pat := fun j => [sI 46 j, sI 10 (dfs x.1.1.1 x.2.2.1 x.2.1 c.toNat j)], inv := fun j => j ≤ List.length (α := Int) x.2.1, meas := fun j => List.length (α := Int) x.2.1 - j }]) ?_
  rintro ⟨⟨⟨(p : Int), (w : Int), (n : Int), _⟩, _⟩, (xs : List Int), (r : Int), _⟩ ⟨⟨(h1 : 2 ≤ p), (h2 : p ≤ 2147483647)⟩, ⟨(h3 : 1 ≤ xs.length), (h4 : xs.length ≤ 1024)⟩, ⟨(h5 : 0 ≤ r), (h6 : r < p)⟩, (h7 : Cg p (r ^ xs.length) 1)⟩
  have hpw := pwn_in h1 r
  have hdf := dfs_in h1 r xs
  have hem := em_in h1
  repeat' (intro hzz; (try (rename Two => hq; cases hq)); (try dsimp only at hzz); (try simp only [resTy, argTy, eqD, inR, big, wantOf, Bool.not_true, Bool.not_false, Bool.true_eq, decide_eq_true_eq, decide_eq_false_iff_not, Bool.not_eq_true', Bool.not_eq_false', Bool.and_eq_true, Prod.mk.injEq, and_true, true_and, Int.not_lt, Int.not_le, gt_iff_lt, ge_iff_le] at hzz); (try simp only [resTy, argTy, eqD, inR, big, wantOf, Bool.not_true, Bool.not_false, Bool.true_eq, decide_eq_true_eq, decide_eq_false_iff_not, Bool.not_eq_true', Bool.not_eq_false', Bool.and_eq_true, Prod.mk.injEq, and_true, true_and, Int.not_lt, Int.not_le, gt_iff_lt, ge_iff_le, fMod, getD_i, tab_len, pwn_last] at hzz); (try (first | contradiction | (exfalso; omega))); (try (revert hzz; intro _)))
  all_goals try (rename Unit => hq; clear hq)
  all_goals try ((with_reducible refine Held.mk ?_); (with_reducible (first | refine Frz.mk ?_ | refine And.intro (Frz.mk ?_) ?_ | refine And.intro ?_ (Frz.mk ?_))); repeat' first | exact True.intro | (change _ = _; with_reducible rfl) | refine And.intro ?_ ?_ | (with_reducible refine Frz.mk ?_))
  all_goals try (refine Held.mk ?_; (try dsimp only at *); (try simp only [resTy, argTy, eqD, inR, big, wantOf, Bool.not_true, Bool.not_false, Bool.true_eq, decide_eq_true_eq, decide_eq_false_iff_not, Bool.not_eq_true', Bool.not_eq_false', Bool.and_eq_true, Prod.mk.injEq, and_true, true_and, Int.not_lt, Int.not_le, gt_iff_lt, ge_iff_le] at *); (try simp only [resTy, argTy, eqD, inR, big, wantOf, Bool.not_true, Bool.not_false, Bool.true_eq, decide_eq_true_eq, decide_eq_false_iff_not, Bool.not_eq_true', Bool.not_eq_false', Bool.and_eq_true, Prod.mk.injEq, and_true, true_and, Int.not_lt, Int.not_le, gt_iff_lt, ge_iff_le, fMod, getD_i, tab_len, pwn_last] at *))
  all_goals try omega
  · have e0 : [(1 : Int).tmod p] = tab (pwn r p) 1 := by
      show [(1 : Int).tmod p] = [r ^ 0 % p]
      rw [Int.pow_zero, Int.tmod_eq_emod_of_nonneg (by omega)]
    refine GHeld.mk ?_
    refine Exists.intro 0 ?_
    refine And.intro (Leaf.mk ?_) ?_
    · repeat' first | exact True.intro | refine And.intro ?_ ?_
      all_goals try ((change _ = _ <;> try dsimp only) <;> try with_reducible rfl)
      all_goals try omega
      all_goals ((first | exact e0 | exact congrArg List.length e0 | rfl))
    exact h3
  · rename_i k hk hg
    have := pwI_mul h2 (hpw k).1 (hpw k).2 h5 h6
    omega
  · rename_i k hk hg
    show k + 1 + 1 ≤ 2147483648
    omega
  · rename_i k hk hg
    have e := pwn_step h1 h5 k
    have e' : tab (pwn r p) (k + 1) ++ [((tab (pwn r p) (k + 1)).getD (((tab (pwn r p) (k + 1)).length : Int) - 1).toNat (Ty.dflt I64) * r).tmod p] = tab (pwn r p) (k + 1 + 1) := by
      rw [tab_len, pwn_last, e]; rfl
    refine GHeld.mk ?_
    refine Exists.intro (k + 1) ?_
    refine And.intro (Leaf.mk ?_) ?_
    · repeat' first | exact True.intro | refine And.intro ?_ ?_
      all_goals try ((change _ = _ <;> try dsimp only) <;> try with_reducible rfl)
      all_goals try omega
      all_goals ((first | exact e' | exact congrArg List.length e' | rfl))
    exact ⟨by show k + 1 + 1 ≤ xs.length; omega, by show xs.length - (k + 1) < xs.length - k; omega⟩
  · rename_i k hk hg
    refine GHeld.mk ?_
    refine Exists.intro 0 ?_
    refine And.intro (Leaf.mk ?_) ?_
    · repeat' first | exact True.intro | refine And.intro ?_ ?_
      all_goals try ((change _ = _ <;> try dsimp only) <;> try with_reducible rfl)
      all_goals try omega
      all_goals (rfl)
    exact Nat.zero_le _
  · rename_i m hm hg c hc hg2
    refine GHeld.mk ?_
    refine Exists.intro 0 ?_
    refine And.intro (Leaf.mk ?_) ?_
    · repeat' first | exact True.intro | refine And.intro ?_ ?_
      all_goals try ((change _ = _ <;> try dsimp only) <;> try with_reducible rfl)
      all_goals try omega
      all_goals ((first | rfl | skip))
    exact Nat.zero_le _
  · exact ⟨(show (0 : Int) < p by omega), (show p ≤ (2000000000000000000 : Int) by omega)⟩
  · rename_i m hm hg c hc hg2 j hj hg3
    have := Int.mul_le_mul (show (j : Int) ≤ 1024 by omega) (show (c : Int) ≤ 1024 by omega) (by omega) (by omega)
    have := Int.mul_nonneg (show 0 ≤ (j : Int) by omega) (show 0 ≤ (c : Int) by omega)
    omega
  · rename_i m hm hg c hc hg2 j hj hg3
    have := Nat.mod_lt (j * c) (show 0 < xs.length by omega)
    rw [tmodN]; omega
  · rename_i m hm hg c hc hg2 j hj hg3
    have := Nat.mod_lt (j * c) (show 0 < xs.length by omega)
    rw [tmodN]; omega
  · rename_i m hm hg c hc hg2 j hj hg3
    rw [pwn_at r p (tmodN j c xs.length) (by omega) (by omega)]
    have h8 := hpw (j * c % xs.length)
    have h9 := hem (xs.getD j 0)
    have := pwI_mul h2 h9.1 h9.2 h8.1 h8.2
    omega
  · rename_i m hm hg c hc hg2 j hj hg3
    rw [pwn_at r p (tmodN j c xs.length) (by omega) (by omega)]
    have h8 := hpw (j * c % xs.length)
    have h9 := hem (xs.getD j 0)
    have := pwI_mul h2 h9.1 h9.2 h8.1 h8.2
    have := hdf c j
    show _ ≤ dfs p r xs c j + _ ∧ dfs p r xs c j + _ ≤ _
    omega
  · rename_i m hm hg c hc hg2 j hj hg3
    have e : (dfs p r xs c j + xs.getD j 0 % p * (tab (pwn r p) (m + 1)).getD (((j : Int) * (c : Int)).tmod (xs.length : Int)).toNat (Ty.dflt I64)).tmod p = dfs p r xs c (j + 1) := by
      rw [pwn_at r p (tmodN j c xs.length) (by omega) (by omega)]
      exact dfs_next h1 ((Cg.mod p _).trans (pow_modN h7 (j * c)))
    refine GHeld.mk ?_
    refine Exists.intro (j + 1) ?_
    refine And.intro (Leaf.mk ?_) ?_
    · repeat' first | exact True.intro | refine And.intro ?_ ?_
      all_goals try ((change _ = _ <;> try dsimp only) <;> try with_reducible rfl)
      all_goals try omega
      all_goals ((first | exact e | rfl))
    exact ⟨by show j + 1 ≤ xs.length; omega, by show xs.length - (j + 1) < xs.length - j; omega⟩
  · rename_i m hm hg c hc hg2 j hj hg3
    show c + 1 ≤ 2147483648
    omega
  · rename_i m hm hg c hc hg2 j hj hg3
    have hj' : j = xs.length := by omega
    subst hj'
    refine GHeld.mk ?_
    refine Exists.intro (c + 1) ?_
    refine And.intro (Leaf.mk ?_) ?_
    · repeat' first | exact True.intro | refine And.intro ?_ ?_
      all_goals try ((change _ = _ <;> try dsimp only) <;> try with_reducible rfl)
      all_goals try omega
      all_goals ((first | rfl | skip))
    exact ⟨by show c + 1 ≤ xs.length; omega, by show xs.length - (c + 1) < xs.length - c; omega⟩
  · rename_i m hm hg c hc hg2
    have hc' : c = xs.length := by omega
    subst hc'; rfl

@[reducible] def sRSums : Spec := { pats := [.dat (.sl I64), .dat I64, .dat I64], res := [{ own := some 3, t := .sl I64 }], pre := fun x => (2 ≤ x.2.2.1 ∧ x.2.2.1 ≤ (2147483647 : Int)) ∧ (1 ≤ List.length (α := Int) x.1 ∧ List.length (α := Int) x.1 ≤ 1024) ∧ ((0 : Int) ≤ x.2.1 ∧ x.2.1 < (show Int from x.2.2.1)), f := fun x => (dftL x.2.2.1 x.2.1 x.1, ()) }

end Go.Eng.Pu

namespace Go.Eng.Pu
open Go.Eng Go.Proofs
set_option linter.all false
set_option maxRecDepth 100000
set_option maxHeartbeats 8000000

theorem rtE_all {p w n : Int} : ∀ {m i : Nat}, rtE p w n m i = true → ∀ j, i ≤ j → j < i + m → ¬ pw w (n / (prO n).getD j 0) p = 1
  | 0, i, _, j, h1, h2 => by omega
  | m + 1, i, h, j, h1, h2 => by
    rw [rtE] at h
    split at h
    · cases h
    · rename_i hn
      by_cases he : j = i
      · rw [he]; exact hn
      · exact rtE_all h j (by omega) (by omega)

theorem mem_getD {xs : List Int} {q : Int} (h : q ∈ xs) : ∃ j, j < xs.length ∧ xs.getD j 0 = q := by
  obtain ⟨j, hj, e⟩ := List.mem_iff_getElem.1 h
  exact ⟨j, hj, by simp only [List.getD, List.getElem?_eq_getElem hj, Option.getD_some]; exact e⟩

theorem pw_one {p : Int} (hp : 2 ≤ p) (w e : Int) : pw w e p = 1 ↔ Cg p (w ^ e.toNat) 1 := by
  unfold pw Cg
  rw [Int.emod_eq_of_lt (a := 1) (by omega) (by omega)]

/-- What a right field is. -/
structure FOk (p w n : Int) : Prop where
  h1 : 2 ≤ p
  h2 : p ≤ 2147483647
  h3 : 1 ≤ n
  h4 : n ≤ 1024
  h5 : 1 ≤ w
  h6 : w ≤ p - 1
  pr : Pr p
  dv : (p - 1) % n = 0
  rt : Root p w n.toNat

theorem cf_zero {p w n : Int} (h : cfE p w n = 0) : FOk p w n := by
  unfold cfE at h
  split at h
  · rename_i ha
    obtain ⟨⟨a1, a2⟩, ⟨a3, a4⟩, a5, a6⟩ := ha
    split at h
    · rename_i hb
      split at h
      · rename_i hc
        split at h
        · rename_i hd
          unfold rootB at hd
          rw [Bool.and_eq_true] at hd
          have hw := (pw_one a1 w n).1 (of_decide_eq_true hd.1)
          refine ⟨a1, a2, a3, a4, a5, a6, isP_pr hb, hc, root_of (isP_pr hb) a3 (by omega) hw fun q hq hk => ?_⟩
          obtain ⟨j, hj, e⟩ := mem_getD hq
          exact rtE_all hd.2 j (Nat.zero_le _) (by omega) (by rw [e]; exact (pw_one a1 w _).2 hk)
        · cases h
      · cases h
    · cases h
  · cases h

/-- The inverse. -/
def inv (a p : Int) : Int := pw a (p - 2) p

theorem inv_mod (a p : Int) : inv (a % p) p = inv a p := by
  unfold inv pw
  exact (Cg.mod p a).pow _

theorem inv_in {p : Int} (hp : 2 ≤ p) (a : Int) : 0 ≤ inv a p ∧ inv a p < p := em_in hp _

theorem inv_mul {p a : Int} (hp : Pr p) (ha : ¬ p ∣ a) : Cg p (a * inv a p) 1 := by
  unfold inv pw
  exact ((Cg.refl p a).mul (Cg.mod p _)).trans (inverse_eq hp ha)

@[reducible] def sInv : Spec := { pats := [.dat Fld, .dat I64], res := [{ t := I64 }], pre := fun x => 2 ≤ x.1.1.1 ∧ x.1.1.1 ≤ (2147483647 : Int), f := fun x => (inv x.2.1 x.1.1.1, ()) }

@[reducible] def sRInv : Spec := { pats := [.dat I64, .dat I64], res := [{ t := I64 }], pre := fun x => (2 ≤ x.2.1 ∧ x.2.1 ≤ (2147483647 : Int)) ∧ (0 : Int) ≤ x.1, f := fun x => (inv x.1 x.2.1, ()) }

def inB (xs : List Int) : Bool := xs.all fun n => fPrm n

@[reducible] def sRange : Spec := { pats := [.dat (.sl I64), .dat I64], res := [{ t := I64 }], pre := fun x => pLen (List.length (α := Int) x.1) ∧ x.2.1 = (2147483647 : Int), f := fun x => ((bif inB x.1 then 0 else 2 : Int), ()) }

/-- The error of a list in a field. -/
noncomputable def ofE (xs : List Int) (p w n : Int) : Int := firstI [bif decide ((xs.length : Int) ≤ 1024) then 0 else 8, bif inB xs then 0 else 2, cfE p w n, bif decide ((xs.length : Int) = n) then 0 else 13]

theorem ofE_if (xs : List Int) (p w n : Int) : ofE xs p w n = if xs.length ≤ 1024 then (if inB xs = true then (if cfE p w n = 0 then (if (xs.length : Int) = n then 0 else 13) else cfE p w n) else 2) else 8 := by
  unfold ofE
  simp only [firstI]
  by_cases h1 : xs.length ≤ 1024
  · have e1 : decide ((xs.length : Int) ≤ 1024) = true := decide_eq_true (by omega)
    rw [if_pos h1, e1]
    cases hb : inB xs with
    | false => simp
    | true =>
      by_cases h2 : cfE p w n = 0
      · by_cases h3 : (xs.length : Int) = n
        · simp [h2, h3]
        · simp [h2, h3]
      · simp [h2]
  · have e1 : decide ((xs.length : Int) ≤ 1024) = false := decide_eq_false (by omega)
    rw [if_neg h1, e1]; simp

theorem ofE_zero {xs : List Int} {p w n : Int} (h : ofE xs p w n = 0) : FOk p w n ∧ (xs.length : Int) = n ∧ cfE p w n = 0 := by
  rw [ofE_if] at h
  split at h
  · split at h
    · split at h
      · rename_i hc
        split at h
        · rename_i hl
          exact ⟨cf_zero hc, hl, hc⟩
        · cases h
      · rename_i hc; exact absurd h hc
    · cases h
  · cases h

@[reducible] noncomputable def sOField : Spec := { pats := [.dat (.sl I64), .dat Fld0], res := [{ t := Fld }, { t := I64 }], pre := fun x => pLen (List.length (α := Int) x.1), f := fun x => ((x.2.1, ()), ofE x.1 x.2.1.1 x.2.1.2.1 x.2.1.2.2.1, ()) }

/-- openField -/
theorem h102 : Ok 56 sOField := by
  refine mk (ctr := [(73, sAllP), (52, sUnless), (76, sCField), (51, sFirst)]) ⟨h116P, h85, h45, h84, trivial⟩ (nt := 27) Tryd.func56 rfl rfl rfl rfl (by kernel_rfl) (by kernel_rfl) (fun _ => []) ?_
  rintro ⟨(xs : List Int), ⟨(p : Int), (w : Int), (n : Int), _⟩, _⟩ (h : pLen xs.length)
  repeat' (intro hzz; (try (rename Two => hq; cases hq)); (try dsimp only at hzz); (try simp only [resTy, argTy, eqD, inR, big, wantOf, Bool.not_true, Bool.not_false, Bool.true_eq, decide_eq_true_eq, decide_eq_false_iff_not, Bool.not_eq_true', Bool.not_eq_false', Bool.and_eq_true, Prod.mk.injEq, and_true, true_and, Int.not_lt, Int.not_le, gt_iff_lt, ge_iff_le] at hzz); (try (first | contradiction | (exfalso; omega))); (try (revert hzz; intro _)))
  all_goals try (rename Unit => hq; clear hq)
  all_goals try ((with_reducible refine Held.mk ?_); (with_reducible (first | refine Frz.mk ?_ | refine And.intro (Frz.mk ?_) ?_ | refine And.intro ?_ (Frz.mk ?_))); repeat' first | exact True.intro | (change _ = _; with_reducible rfl) | refine And.intro ?_ ?_ | (with_reducible refine Frz.mk ?_))
  all_goals try (refine Held.mk ?_; (try dsimp only at *); (try simp only [resTy, argTy, eqD, inR, big, wantOf, Bool.not_true, Bool.not_false, Bool.true_eq, decide_eq_true_eq, decide_eq_false_iff_not, Bool.not_eq_true', Bool.not_eq_false', Bool.and_eq_true, Prod.mk.injEq, and_true, true_and, Int.not_lt, Int.not_le, gt_iff_lt, ge_iff_le] at *))
  all_goals try omega
  · exact (show pLen 4 by decide)
  · rfl

@[reducible] noncomputable def sTrf : Spec := { pats := [.dat Fld, .dat (.sl I64)], res := [{ own := some 3, t := .sl I64 }], pre := fun x => FOk x.1.1.1 x.1.1.2.1 x.1.1.2.2.1 ∧ (List.length (α := Int) x.2.1 : Int) = x.1.1.2.2.1, f := fun x => (dftL x.1.1.1 x.1.1.2.1 x.2.1, ()) }

/-- field.transformed -/
theorem h103 : Ok 57 sTrf := by
  refine mk (ctr := [(77, sSums)]) ⟨h153, trivial⟩ (nt := 11) Tryd.func57 rfl rfl rfl rfl (by kernel_rfl) (by kernel_rfl) (fun _ => []) ?_
  rintro ⟨⟨⟨(p : Int), (w : Int), (n : Int), _⟩, _⟩, (xs : List Int), _⟩ ⟨(hf : FOk p w n), (hl : (xs.length : Int) = n)⟩
  obtain ⟨h1, h2, h3, h4, h5, h6, h7, h8, h9⟩ := hf
  have hlen : n.toNat = xs.length := by omega
  repeat' (intro hzz; (try (rename Two => hq; cases hq)); (try dsimp only at hzz); (try simp only [resTy, argTy, eqD, inR, big, wantOf, Bool.not_true, Bool.not_false, Bool.true_eq, decide_eq_true_eq, decide_eq_false_iff_not, Bool.not_eq_true', Bool.not_eq_false', Bool.and_eq_true, Prod.mk.injEq, and_true, true_and, Int.not_lt, Int.not_le, gt_iff_lt, ge_iff_le] at hzz); (try (first | contradiction | (exfalso; omega))); (try (revert hzz; intro _)))
  all_goals try (rename Unit => hq; clear hq)
  all_goals try ((with_reducible refine Held.mk ?_); (with_reducible (first | refine Frz.mk ?_ | refine And.intro (Frz.mk ?_) ?_ | refine And.intro ?_ (Frz.mk ?_))); repeat' first | exact True.intro | (change _ = _; with_reducible rfl) | refine And.intro ?_ ?_ | (with_reducible refine Frz.mk ?_))
  all_goals try (refine Held.mk ?_; (try dsimp only at *); (try simp only [resTy, argTy, eqD, inR, big, wantOf, Bool.not_true, Bool.not_false, Bool.true_eq, decide_eq_true_eq, decide_eq_false_iff_not, Bool.not_eq_true', Bool.not_eq_false', Bool.and_eq_true, Prod.mk.injEq, and_true, true_and, Int.not_lt, Int.not_le, gt_iff_lt, ge_iff_le] at *))
  all_goals try omega
  · refine ⟨⟨h1, h2⟩, ⟨(show 1 ≤ xs.length by omega), (show xs.length ≤ 1024 by omega)⟩, ⟨(show (0 : Int) ≤ w by omega), (show w < p by omega)⟩, ?_⟩
    rw [← hlen]; exact h9.1

theorem inv_root {p w : Int} {n : Nat} (hp : Pr p) (hn : 0 < n) (h : Cg p (w ^ n) 1) : Cg p (inv w p ^ n) 1 := by
  have h1 := (inv_mul hp (root_unit hp hn h)).pow n
  rw [Int.mul_pow, Int.one_pow] at h1
  have h2 := h.mul (Cg.refl p (inv w p ^ n))
  rw [Int.one_mul] at h2
  exact h2.symm.trans h1

theorem dftL_len (p w : Int) (xs : List Int) : (dftL p w xs).length = xs.length := tab_len _ _
theorem dft_in {p : Int} (hp : 2 ≤ p) (w : Int) (x : Nat → Int) (n k : Nat) : 0 ≤ dft p w x n k ∧ dft p w x n k < p := em_in hp _

def backF (p w n : Int) (xs : List Int) (i : Nat) : Int := dft p (inv w p) (at0 xs) xs.length i * inv n p % p
def backL (p w n : Int) (xs : List Int) : List Int := tab (backF p w n xs) xs.length

end Go.Eng.Pu
