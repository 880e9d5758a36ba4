/- Contracts: Unfolded, of the program and of the reference; the law PulseUnfolds. Conditions: each contract's own. -/
import Derived.Test.YtcoimlnplaidiaaQ51A
import Derived.Test.YtcoimlnplaidiaaQ2A
import Derived.Test.YtcoimlnplaidiaaQ10A
namespace Go.Eng.Pu
open Go.Eng Go.Proofs
set_option linter.all false
set_option maxRecDepth 100000
set_option maxHeartbeats 8000000

/-- What is unfolded at a place, times the period and 1 more. -/
def ufV (xs : CL) (L : Int) (ts : List Int) (s : Int) (k : Nat) : IP := lessP (trV (lP xs) (sgL L ts s) k (-1) (lP xs).length) (flV (lP xs) 1 0 (lP xs).length)
def dvB (n : Int) (p : IP) : Bool := decide (p.1 % n = 0) && decide (p.2.1 % n = 0)
def qoP (n : Int) (p : IP) : IP := (p.1 / n, p.2.1 / n, ())
def ufQ (xs : CL) (L : Int) (ts : List Int) (s : Int) (k : Nat) : IP := qoP (most L + 1) (ufV xs L ts s k)
def ufL (xs : CL) (L : Int) (ts : List Int) (s : Int) : List IP := tab (ufQ xs L ts s) (most L).toNat
def ufB (xs : CL) (L : Int) (ts : List Int) (s : Int) : Bool := (tab (ufV xs L ts s) (most L).toNat).all (dvB (most L + 1))

def ufE (xs : CL) (L : Int) (ts : List Int) (s : Int) : Int :=
  if lE xs = 0 then (if opErr L ts s = 0 then (if (per L ts 1 : Int) = most L then (if (xs.length : Int) = most L then (if ufB xs L ts s = true then tE (ufL xs L ts s) else 20) else 13) else 22) else opErr L ts s) else lE xs
def ufR (xs : CL) (L : Int) (ts : List Int) (s : Int) : CL :=
  if lE xs = 0 then (if opErr L ts s = 0 then (if (per L ts 1 : Int) = most L then (if (xs.length : Int) = most L then (if ufB xs L ts s = true then tL (ufL xs L ts s) else []) else []) else []) else []) else []

theorem ufB_no {xs : CL} {L : Int} {ts : List Int} {s : Int} {k : Nat} (hk : k < (most L).toNat) (h : dvB (most L + 1) (ufV xs L ts s k) = false) : ufB xs L ts s = false := by
  unfold ufB
  rw [List.all_eq_false]
  exact ⟨_, mem_tab' hk, by rw [h]; exact Bool.false_ne_true⟩

theorem ufB_yes {xs : CL} {L : Int} {ts : List Int} {s : Int} (h : ∀ k, k < (most L).toNat → dvB (most L + 1) (ufV xs L ts s k) = true) : ufB xs L ts s = true := by
  unfold ufB
  rw [List.all_eq_true]
  intro p hp
  obtain ⟨i, hi, rfl⟩ := tab_mem' hp
  exact h i hi

theorem ufV_in {xs : CL} {L : Int} {ts : List Int} {s : Int} (h : lE xs = 0) (hst : pSt L ts s) (hn : (xs.length : Int) = most L) (k : Nat) : (-8600000000 ≤ (ufV xs L ts s k).1 ∧ (ufV xs L ts s k).1 ≤ 8600000000) ∧ (-8600000000 ≤ (ufV xs L ts s k).2.1 ∧ (ufV xs L ts s k).2.1 ≤ 8600000000) := by
  have hm := most_in (chk_zero hst.1).1
  have hl := lP_len h
  have a := trV_in (a := k) (way := -1) (lP_okL h) (sgL_ok hst) (lP xs).length
  have b := flV_in (p := 1) (lP_okL h) 0 (lP xs).length
  have hl2 : ((lP xs).length : Int) ≤ 255 := by omega
  show (_ ≤ (trV (lP xs) (sgL L ts s) k (-1) (lP xs).length).1 - (flV (lP xs) 1 0 (lP xs).length).1 ∧ (trV (lP xs) (sgL L ts s) k (-1) (lP xs).length).1 - (flV (lP xs) 1 0 (lP xs).length).1 ≤ _) ∧ (_ ≤ (trV (lP xs) (sgL L ts s) k (-1) (lP xs).length).2.1 - (flV (lP xs) 1 0 (lP xs).length).2.1 ∧ (trV (lP xs) (sgL L ts s) k (-1) (lP xs).length).2.1 - (flV (lP xs) 1 0 (lP xs).length).2.1 ≤ _)
  omega

@[reducible] def sUnf : Spec := { pats := [.dat (.sl C64), .dat Reg0, .dat I64], res := [{ own := some 136, t := .sl C64 }, { t := I64 }], pre := fun x => pLen (List.length (α := Int) x.2.1.2.1), f := fun x => (ufR x.1 x.2.1.1 x.2.1.2.1 x.2.2.1, ufE x.1 x.2.1.1 x.2.1.2.1 x.2.2.1, ()) }

/-- Unfolded -/
theorem h53n : Ok 53 sUnf := by
  refine mk (ctr := [(91, sRecdD), (83, sOpen), (121, sIsMax), (94, sFull), (122, sPlus), (95, sSignsD), (96, sTurned), (123, sLess), (93, sTold)]) ⟨h91d, h83, h121, h94, h122, h95d, h96n, h123, h93n, trivial⟩ (nt := 103) Try.func53 rfl rfl rfl rfl (by kernel_rfl) (by kernel_rfl) (fun x => [fun _ => { σ := Nat, pat := fun k => [sI 49 k, .cell 11 0 (.d I64 (flV (lP x.1) 1 0 k).1), .cell 11 1 (.d I64 (flV (lP x.1) 1 0 k).2.1)], inv := fun k => k ≤ (List.length (α := IP) (lP x.1)), meas := fun k => (List.length (α := IP) (lP x.1)) - k }, fun _ => { σ := Nat, pat := fun k => [sI 65 k] ++ rOwn 16 60016 139 PairT (tab (ufQ x.1 x.2.1.1 x.2.1.2.1 x.2.2.1) k), inv := fun k => k ≤ (most x.2.1.1).toNat ∧ ∀ j, j < k → dvB (most x.2.1.1 + 1) (ufV x.1 x.2.1.1 x.2.1.2.1 x.2.2.1 j) = true, meas := fun k => (most x.2.1.1).toNat - k }]) ?_
  rintro ⟨(xs : CL), ⟨(L : Int), (ts : List Int), _⟩, (s : Int), _⟩ (hts : pLen ts.length)
  by_cases h : lE xs = 0
  · have hp := lP_okL h
    have hl := lP_len h
    have hl2 := (lE_ok h).2.1
    by_cases ho : opErr L ts s = 0
    · obtain ⟨hst, hs1⟩ := op_pSt hts ho
      have hL := (chk_zero hst.1).1
      have hm := most_in hL
      by_cases hx : (per L ts 1 : Int) = most L
      · have hxd := decide_eq_true hx
        by_cases hn : (xs.length : Int) = most L
        · have u : ufE xs L ts s = (if ufB xs L ts s = true then tE (ufL xs L ts s) else 20) := by unfold ufE; rw [if_pos h, if_pos ho, if_pos hx, if_pos hn]
          have v : ufR xs L ts s = (if ufB xs L ts s = true then tL (ufL xs L ts s) else []) := by unfold ufR; rw [if_pos h, if_pos ho, if_pos hx, if_pos hn]
          have hln : ((lP xs).length : Int) = most L := by omega
          have hsl := sgL_len L ts s
          have hsg : tab (sgI L ts s) (most L).toNat = sgL L ts s := rfl
          have hin := ufV_in h hst hn
          have hso := sgL_ok hst
          have hbd : ∀ a : Int, -8600000000 ≤ a → a ≤ 8600000000 → most L + 1 ≠ 0 ∧ -9223372036854775808 ≤ a.tdiv (most L + 1) ∧ a.tdiv (most L + 1) ≤ 9223372036854775807 := fun a h1 h2 => by
            have := tdiv_in (n := a) (b := most L + 1) (by omega) (by omega)
            omega
          repeat' (intro hzz; (try (rename Two => hq; cases hq)); (try dsimp only at hzz); (try simp only [resTy, argTy, eqD, inR, big, wantOf, Bool.not_true, Bool.not_false, Bool.true_eq, decide_eq_true_eq, decide_eq_false_iff_not, Bool.not_eq_true', Bool.not_eq_false', Bool.and_eq_true, Prod.mk.injEq, and_true, true_and, Int.not_lt, Int.not_le, gt_iff_lt, ge_iff_le] at hzz); (try simp only [resTy, argTy, eqD, inR, big, wantOf, Bool.not_true, Bool.not_false, Bool.true_eq, decide_eq_true_eq, decide_eq_false_iff_not, Bool.not_eq_true', Bool.not_eq_false', Bool.and_eq_true, Prod.mk.injEq, and_true, true_and, Int.not_lt, Int.not_le, gt_iff_lt, ge_iff_le, h, ho, hxd, hln, hsg] at hzz); (try (first | contradiction | (exfalso; omega))); (try (revert hzz; intro _)))
          all_goals try (rename Unit => hq; clear hq)
          all_goals try ((with_reducible refine Held.mk ?_); (with_reducible (first | refine Frz.mk ?_ | refine And.intro (Frz.mk ?_) ?_ | refine And.intro ?_ (Frz.mk ?_))); repeat' first | exact True.intro | (change _ = _; with_reducible rfl) | refine And.intro ?_ ?_ | (with_reducible refine Frz.mk ?_))
          all_goals try (refine Held.mk ?_; (try dsimp only at *); (try simp only [resTy, argTy, eqD, inR, big, wantOf, Bool.not_true, Bool.not_false, Bool.true_eq, decide_eq_true_eq, decide_eq_false_iff_not, Bool.not_eq_true', Bool.not_eq_false', Bool.and_eq_true, Prod.mk.injEq, and_true, true_and, Int.not_lt, Int.not_le, gt_iff_lt, ge_iff_le] at *); (try simp only [resTy, argTy, eqD, inR, big, wantOf, Bool.not_true, Bool.not_false, Bool.true_eq, decide_eq_true_eq, decide_eq_false_iff_not, Bool.not_eq_true', Bool.not_eq_false', Bool.and_eq_true, Prod.mk.injEq, and_true, true_and, Int.not_lt, Int.not_le, gt_iff_lt, ge_iff_le, h, ho, hxd, hln, hsg] at *))
          all_goals try omega
          · exact ⟨hst.1, hts⟩
          · 
            refine GHeld.mk ?_
            refine Exists.intro 0 ?_
            refine And.intro (Leaf.mk ?_) ?_
            · repeat' first | exact True.intro | refine And.intro ?_ ?_
              all_goals try ((change _ = _ <;> try dsimp only) <;> try with_reducible rfl)
              all_goals try omega
              all_goals (rfl)
            exact Nat.zero_le _
          · rename_i k hk hlt _
            have a := flV_in (p := 1) hp 0 k
            have b := hp k
            exact ⟨by unfold okI; omega, by unfold okI; omega, (show okI ((lP xs).getD k (0, 0, ())).1 by unfold okI; omega), (show okI ((lP xs).getD k (0, 0, ())).2.1 by unfold okI; omega)⟩
          · rename_i k hk hlt
            have e1 := flV1 (lP xs) k
            refine GHeld.mk ?_
            refine Exists.intro (k + 1) ?_
            refine And.intro (Leaf.mk ?_) ?_
            · repeat' first | exact True.intro | refine And.intro ?_ ?_
              all_goals try ((change _ = _ <;> try dsimp only) <;> try with_reducible rfl)
              all_goals try omega
              all_goals (first | exact (congrArg (fun z : IP => z.1) e1).symm | exact (congrArg (fun z : IP => z.2.1) e1).symm | rfl)
            exact ⟨by show k + 1 ≤ (lP xs).length; omega, by show (lP xs).length - (k + 1) < (lP xs).length - k; omega⟩
          · rename_i k hk hge
            refine GHeld.mk ?_
            refine Exists.intro 0 ?_
            refine And.intro (Leaf.mk ?_) ?_
            · repeat' first | exact True.intro | refine And.intro ?_ ?_
              all_goals try ((change _ = _ <;> try dsimp only) <;> try with_reducible rfl)
              all_goals try omega
              all_goals (rfl)
            exact ⟨Nat.zero_le _, fun j hj => by omega⟩
          · rename_i m hm1 hm2 k hk hlt _
            exact ⟨(show (lP xs).length ≤ 1024 by omega), hp, ⟨(show 1 ≤ (sgL L ts s).length by omega), (show (sgL L ts s).length ≤ 1024 by omega)⟩, hso, ⟨(show (0 : Int) ≤ (k : Int) by omega), (show (k : Int) ≤ 1024 by omega)⟩, .inr True.intro⟩
          · rename_i m hm1 hm2 k hk hlt _
            have a := flV_in (p := 1) hp 0 m
            have b := trV_in (a := k) (way := -1) hp hso (lP xs).length
            exact ⟨by unfold okI; omega, by unfold okI; omega, by unfold okI; omega, by unfold okI; omega⟩
          · rename_i m hm1 hm2 k hk hlt q1 q2 _
            have hme : m = (lP xs).length := by omega
            subst hme
            have hf := ufB_no (xs := xs) (s := s) (ts := ts) (L := L) (k := k) (by omega) (by
              unfold dvB
              rw [decide_eq_false (p := (ufV xs L ts s k).2.1 % (most L + 1) = 0) (fun hh => q2 ((tmod_zero (by omega)).2 hh)), Bool.and_false])
            rw [u, v, hf]; exact ⟨rfl, rfl⟩
          · rename_i m hm1 hm2 k hk hlt q1 q2 _
            have hme : m = (lP xs).length := by omega
            subst hme
            have := hin k
            exact hbd _ this.1.1 this.1.2
          · rename_i m hm1 hm2 k hk hlt q1 q2 _
            have hme : m = (lP xs).length := by omega
            subst hme
            have := hin k
            exact hbd _ this.2.1 this.2.2
          · rename_i m hm1 hm2 k hk hlt q1 q2 _
            rw [tab_len]; show k + 1 ≤ 2147483648; omega
          · rename_i m hm1 hm2 k hk hlt q1 q2
            have hme : m = (lP xs).length := by omega
            subst hme
            have d1 : (ufV xs L ts s k).1 % (most L + 1) = 0 := (tmod_zero (by omega)).1 q1
            have d2 : (ufV xs L ts s k).2.1 % (most L + 1) = 0 := (tmod_zero (by omega)).1 q2
            have e : tab (ufQ xs L ts s) k ++ [((ufV xs L ts s k).1.tdiv (most L + 1), (ufV xs L ts s k).2.1.tdiv (most L + 1), ())] = tab (ufQ xs L ts s) (k + 1) := by
              rw [tdiv_of d1, tdiv_of d2]; rfl
            refine GHeld.mk ?_
            refine Exists.intro (k + 1) ?_
            refine And.intro (Leaf.mk ?_) ?_
            · repeat' first | exact True.intro | refine And.intro ?_ ?_
              all_goals try ((change _ = _ <;> try dsimp only) <;> try with_reducible rfl)
              all_goals try omega
              all_goals (first | exact e | exact congrArg List.length e)
            refine ⟨⟨by show k + 1 ≤ (most L).toNat; omega, fun j hj => ?_⟩, by show (most L).toNat - (k + 1) < (most L).toNat - k; omega⟩
            by_cases he : j = k
            · rw [he]
              show (decide ((ufV xs L ts s k).1 % (most L + 1) = 0) && decide ((ufV xs L ts s k).2.1 % (most L + 1) = 0)) = true
              rw [decide_eq_true d1, decide_eq_true d2]; rfl
            · exact hk.2 j (by omega)
          · rename_i m hm1 hm2 k hk hlt q1 _
            have hme : m = (lP xs).length := by omega
            subst hme
            have hf := ufB_no (xs := xs) (s := s) (ts := ts) (L := L) (k := k) (by omega) (by
              unfold dvB
              rw [decide_eq_false (p := (ufV xs L ts s k).1 % (most L + 1) = 0) (fun hh => q1 ((tmod_zero (by omega)).2 hh)), Bool.false_and])
            rw [u, v, hf]; exact ⟨rfl, rfl⟩
          · rename_i m hm1 hm2 k hk hge _
            rw [tab_len]; omega
          · rename_i m hm1 hm2 k hk hge _
            have hf := ufB_yes (xs := xs) (s := s) (ts := ts) (L := L) (fun j hj => hk.2 j (by omega))
            rw [u, v, hf, show k = (most L).toNat by omega]; exact ⟨rfl, rfl⟩
        · have u : ufE xs L ts s = 13 := by unfold ufE; rw [if_pos h, if_pos ho, if_pos hx, if_neg hn]
          have v : ufR xs L ts s = [] := by unfold ufR; rw [if_pos h, if_pos ho, if_pos hx, if_neg hn]
          have hln : ¬ ((lP xs).length : Int) = most L := by omega
          repeat' (intro hzz; (try (rename Two => hq; cases hq)); (try dsimp only at hzz); (try simp only [resTy, argTy, eqD, inR, big, wantOf, Bool.not_true, Bool.not_false, Bool.true_eq, decide_eq_true_eq, decide_eq_false_iff_not, Bool.not_eq_true', Bool.not_eq_false', Bool.and_eq_true, Prod.mk.injEq, and_true, true_and, Int.not_lt, Int.not_le, gt_iff_lt, ge_iff_le] at hzz); (try simp only [resTy, argTy, eqD, inR, big, wantOf, Bool.not_true, Bool.not_false, Bool.true_eq, decide_eq_true_eq, decide_eq_false_iff_not, Bool.not_eq_true', Bool.not_eq_false', Bool.and_eq_true, Prod.mk.injEq, and_true, true_and, Int.not_lt, Int.not_le, gt_iff_lt, ge_iff_le, h, ho, hxd, u, v] at hzz); (try (first | contradiction | (exfalso; omega))); (try (revert hzz; intro _)))
          all_goals try (rename Unit => hq; clear hq)
          all_goals try ((with_reducible refine Held.mk ?_); (with_reducible (first | refine Frz.mk ?_ | refine And.intro (Frz.mk ?_) ?_ | refine And.intro ?_ (Frz.mk ?_))); repeat' first | exact True.intro | (change _ = _; with_reducible rfl) | refine And.intro ?_ ?_ | (with_reducible refine Frz.mk ?_))
          all_goals try (refine Held.mk ?_; (try dsimp only at *); (try simp only [resTy, argTy, eqD, inR, big, wantOf, Bool.not_true, Bool.not_false, Bool.true_eq, decide_eq_true_eq, decide_eq_false_iff_not, Bool.not_eq_true', Bool.not_eq_false', Bool.and_eq_true, Prod.mk.injEq, and_true, true_and, Int.not_lt, Int.not_le, gt_iff_lt, ge_iff_le] at *); (try simp only [resTy, argTy, eqD, inR, big, wantOf, Bool.not_true, Bool.not_false, Bool.true_eq, decide_eq_true_eq, decide_eq_false_iff_not, Bool.not_eq_true', Bool.not_eq_false', Bool.and_eq_true, Prod.mk.injEq, and_true, true_and, Int.not_lt, Int.not_le, gt_iff_lt, ge_iff_le, h, ho, hxd, u, v] at *))
          all_goals try omega
          all_goals exact ⟨hst.1, hts⟩
      · have hxd := decide_eq_false hx
        have u : ufE xs L ts s = 22 := by unfold ufE; rw [if_pos h, if_pos ho, if_neg hx]
        have v : ufR xs L ts s = [] := by unfold ufR; rw [if_pos h, if_pos ho, if_neg hx]
        repeat' (intro hzz; (try (rename Two => hq; cases hq)); (try dsimp only at hzz); (try simp only [resTy, argTy, eqD, inR, big, wantOf, Bool.not_true, Bool.not_false, Bool.true_eq, decide_eq_true_eq, decide_eq_false_iff_not, Bool.not_eq_true', Bool.not_eq_false', Bool.and_eq_true, Prod.mk.injEq, and_true, true_and, Int.not_lt, Int.not_le, gt_iff_lt, ge_iff_le] at hzz); (try simp only [resTy, argTy, eqD, inR, big, wantOf, Bool.not_true, Bool.not_false, Bool.true_eq, decide_eq_true_eq, decide_eq_false_iff_not, Bool.not_eq_true', Bool.not_eq_false', Bool.and_eq_true, Prod.mk.injEq, and_true, true_and, Int.not_lt, Int.not_le, gt_iff_lt, ge_iff_le, h, ho, hxd, u, v] at hzz); (try (first | contradiction | (exfalso; omega))); (try (revert hzz; intro _)))
        all_goals try (rename Unit => hq; clear hq)
        all_goals try ((with_reducible refine Held.mk ?_); (with_reducible (first | refine Frz.mk ?_ | refine And.intro (Frz.mk ?_) ?_ | refine And.intro ?_ (Frz.mk ?_))); repeat' first | exact True.intro | (change _ = _; with_reducible rfl) | refine And.intro ?_ ?_ | (with_reducible refine Frz.mk ?_))
        all_goals try (refine Held.mk ?_; (try dsimp only at *); (try simp only [resTy, argTy, eqD, inR, big, wantOf, Bool.not_true, Bool.not_false, Bool.true_eq, decide_eq_true_eq, decide_eq_false_iff_not, Bool.not_eq_true', Bool.not_eq_false', Bool.and_eq_true, Prod.mk.injEq, and_true, true_and, Int.not_lt, Int.not_le, gt_iff_lt, ge_iff_le] at *); (try simp only [resTy, argTy, eqD, inR, big, wantOf, Bool.not_true, Bool.not_false, Bool.true_eq, decide_eq_true_eq, decide_eq_false_iff_not, Bool.not_eq_true', Bool.not_eq_false', Bool.and_eq_true, Prod.mk.injEq, and_true, true_and, Int.not_lt, Int.not_le, gt_iff_lt, ge_iff_le, h, ho, hxd, u, v] at *))
        all_goals try omega
        all_goals exact ⟨hst.1, hts⟩
    · have u : ufE xs L ts s = opErr L ts s := by unfold ufE; rw [if_pos h, if_neg ho]
      have v : ufR xs L ts s = [] := by unfold ufR; rw [if_pos h, if_neg ho]
      repeat' (intro hzz; (try (rename Two => hq; cases hq)); (try dsimp only at hzz); (try simp only [resTy, argTy, eqD, inR, big, wantOf, Bool.not_true, Bool.not_false, Bool.true_eq, decide_eq_true_eq, decide_eq_false_iff_not, Bool.not_eq_true', Bool.not_eq_false', Bool.and_eq_true, Prod.mk.injEq, and_true, true_and, Int.not_lt, Int.not_le, gt_iff_lt, ge_iff_le] at hzz); (try simp only [resTy, argTy, eqD, inR, big, wantOf, Bool.not_true, Bool.not_false, Bool.true_eq, decide_eq_true_eq, decide_eq_false_iff_not, Bool.not_eq_true', Bool.not_eq_false', Bool.and_eq_true, Prod.mk.injEq, and_true, true_and, Int.not_lt, Int.not_le, gt_iff_lt, ge_iff_le, h, u, v] at hzz); (try (first | contradiction | (exfalso; omega))); (try (revert hzz; intro _)))
      all_goals try (rename Unit => hq; clear hq)
      all_goals try ((with_reducible refine Held.mk ?_); (with_reducible (first | refine Frz.mk ?_ | refine And.intro (Frz.mk ?_) ?_ | refine And.intro ?_ (Frz.mk ?_))); repeat' first | exact True.intro | (change _ = _; with_reducible rfl) | refine And.intro ?_ ?_ | (with_reducible refine Frz.mk ?_))
      all_goals try (refine Held.mk ?_; (try dsimp only at *); (try simp only [resTy, argTy, eqD, inR, big, wantOf, Bool.not_true, Bool.not_false, Bool.true_eq, decide_eq_true_eq, decide_eq_false_iff_not, Bool.not_eq_true', Bool.not_eq_false', Bool.and_eq_true, Prod.mk.injEq, and_true, true_and, Int.not_lt, Int.not_le, gt_iff_lt, ge_iff_le] at *); (try simp only [resTy, argTy, eqD, inR, big, wantOf, Bool.not_true, Bool.not_false, Bool.true_eq, decide_eq_true_eq, decide_eq_false_iff_not, Bool.not_eq_true', Bool.not_eq_false', Bool.and_eq_true, Prod.mk.injEq, and_true, true_and, Int.not_lt, Int.not_le, gt_iff_lt, ge_iff_le, h, u, v] at *))
      all_goals try omega
  · have u : ufE xs L ts s = lE xs := by unfold ufE; rw [if_neg h]
    have v : ufR xs L ts s = [] := by unfold ufR; rw [if_neg h]
    repeat' (intro hzz; (try (rename Two => hq; cases hq)); (try dsimp only at hzz); (try simp only [resTy, argTy, eqD, inR, big, wantOf, Bool.not_true, Bool.not_false, Bool.true_eq, decide_eq_true_eq, decide_eq_false_iff_not, Bool.not_eq_true', Bool.not_eq_false', Bool.and_eq_true, Prod.mk.injEq, and_true, true_and, Int.not_lt, Int.not_le, gt_iff_lt, ge_iff_le] at hzz); (try simp only [resTy, argTy, eqD, inR, big, wantOf, Bool.not_true, Bool.not_false, Bool.true_eq, decide_eq_true_eq, decide_eq_false_iff_not, Bool.not_eq_true', Bool.not_eq_false', Bool.and_eq_true, Prod.mk.injEq, and_true, true_and, Int.not_lt, Int.not_le, gt_iff_lt, ge_iff_le, u, v] at hzz); (try (first | contradiction | (exfalso; omega))); (try (revert hzz; intro _)))
    all_goals try (rename Unit => hq; clear hq)
    all_goals try ((with_reducible refine Held.mk ?_); (with_reducible (first | refine Frz.mk ?_ | refine And.intro (Frz.mk ?_) ?_ | refine And.intro ?_ (Frz.mk ?_))); repeat' first | exact True.intro | (change _ = _; with_reducible rfl) | refine And.intro ?_ ?_ | (with_reducible refine Frz.mk ?_))
    all_goals try (refine Held.mk ?_; (try dsimp only at *); (try simp only [resTy, argTy, eqD, inR, big, wantOf, Bool.not_true, Bool.not_false, Bool.true_eq, decide_eq_true_eq, decide_eq_false_iff_not, Bool.not_eq_true', Bool.not_eq_false', Bool.and_eq_true, Prod.mk.injEq, and_true, true_and, Int.not_lt, Int.not_le, gt_iff_lt, ge_iff_le] at *); (try simp only [resTy, argTy, eqD, inR, big, wantOf, Bool.not_true, Bool.not_false, Bool.true_eq, decide_eq_true_eq, decide_eq_false_iff_not, Bool.not_eq_true', Bool.not_eq_false', Bool.and_eq_true, Prod.mk.injEq, and_true, true_and, Int.not_lt, Int.not_le, gt_iff_lt, ge_iff_le, u, v] at *))
    all_goals try omega

/-- The rows when the loop has come to k. -/
def ufG (xs : CL) (L : Int) (ts : List Int) (s : Int) (k i : Nat) : IP := if i < k then ufQ xs L ts s i else trV (lP xs) (sgL L ts s) i (-1) (lP xs).length

theorem ufL_ok {xs : CL} {L : Int} {ts : List Int} {s : Int} (h : lE xs = 0) (hst : pSt L ts s) (hn : (xs.length : Int) = most L) : okL 4000000000000000000 (ufL xs L ts s) := okL_tab (by omega) fun i _ => by
  have hm := most_in (chk_zero hst.1).1
  have a := ufV_in h hst hn i
  have b := div_in (n := (ufV xs L ts s i).1) (b := most L + 1) (by omega) (by omega) (by omega)
  have c := div_in (n := (ufV xs L ts s i).2.1) (b := most L + 1) (by omega) (by omega) (by omega)
  have d1 := Int.natAbs_ediv_le_natAbs (ufV xs L ts s i).1 (most L + 1)
  have d2 := Int.natAbs_ediv_le_natAbs (ufV xs L ts s i).2.1 (most L + 1)
  show (_ ≤ (ufV xs L ts s i).1 / (most L + 1) ∧ (ufV xs L ts s i).1 / (most L + 1) ≤ _) ∧ (_ ≤ (ufV xs L ts s i).2.1 / (most L + 1) ∧ (ufV xs L ts s i).2.1 / (most L + 1) ≤ _)
  omega

theorem ufG_one {xs : CL} {L : Int} {ts : List Int} {s : Int} {k : Nat} (hk : k < (most L).toNat) :
    ((tab (ufG xs L ts s k) (most L).toNat).getD k (0, 0, ())).1 - ((flL (lP xs) (Int.toNat 1) (lP xs).length).getD (Int.toNat 0) (0, 0, ())).1 = (ufV xs L ts s k).1 := by
  rw [tab_get _ _ _ _ hk]
  unfold ufG
  rw [if_neg (by omega)]; rfl

theorem ufG_two {xs : CL} {L : Int} {ts : List Int} {s : Int} {k : Nat} {v : Int} (hk : k < (most L).toNat) :
    (((tab (ufG xs L ts s k) (most L).toNat).set k (v, ((tab (ufG xs L ts s k) (most L).toNat).getD k (0, 0, ())).2)).getD k (0, 0, ())).2.1 - ((flL (lP xs) (Int.toNat 1) (lP xs).length).getD (Int.toNat 0) (0, 0, ())).2.1 = (ufV xs L ts s k).2.1 := by
  rw [getD_set_self (by rw [tab_len]; exact hk), tab_get _ _ _ _ hk]
  unfold ufG
  rw [if_neg (by omega)]; rfl

theorem ufG_next {xs : CL} {L : Int} {ts : List Int} {s : Int} {k : Nat} {v w : Int} (hk : k < (most L).toNat) (hv : v = (ufV xs L ts s k).1 / (most L + 1)) (hw : w = (ufV xs L ts s k).2.1 / (most L + 1)) :
    ((tab (ufG xs L ts s k) (most L).toNat).set k (v, ((tab (ufG xs L ts s k) (most L).toNat).getD k (0, 0, ())).2)).set k ((((tab (ufG xs L ts s k) (most L).toNat).set k (v, ((tab (ufG xs L ts s k) (most L).toNat).getD k (0, 0, ())).2)).getD k (0, 0, ())).1, w, (((tab (ufG xs L ts s k) (most L).toNat).set k (v, ((tab (ufG xs L ts s k) (most L).toNat).getD k (0, 0, ())).2)).getD k (0, 0, ())).2.2) = tab (ufG xs L ts s (k + 1)) (most L).toNat := by
  rw [getD_set_self (by rw [tab_len]; exact hk), List.set_set, tab_set]
  refine tab_congr _ fun i hi => ?_
  unfold ufG
  by_cases he : i = k
  · subst he
    rw [if_pos rfl, if_pos (by omega), hv, hw]; rfl
  · rw [if_neg he]
    by_cases h2 : i < k
    · rw [if_pos h2, if_pos (by omega)]
    · rw [if_neg h2, if_neg (by omega)]

/-- ref.Unfolded -/
theorem h54n : Ok 54 sUnf := by
  refine mkU (X := x4) (unr := [1]) (hX := x4_ok) (ctr := [(76, sListE), (23, sStartR), (64, sRIsMax), (68, sMost), (99, sPairs), (98, sRFold), (51, sRSigns), (100, sRTurnB), (41, sMod), (124, sFloor), (97, sToldR)]) ⟨h76n, h23, h64, h68, h99n, h98n, h51, h100b, h41, h124, h97n, trivial⟩ (nt := 85) Try.func54 rfl rfl rfl rfl (by kernel_rfl) (by kernel_rfl) (fun x => [fun _ => { σ := Nat, pat := fun k => [sI 14 k, .row 47 158 PairT (tab (ufG x.1 x.2.1.1 x.2.1.2.1 x.2.2.1 k) (most x.2.1.1).toNat)], inv := fun k => k ≤ (most x.2.1.1).toNat ∧ ∀ j, j < k → dvB (most x.2.1.1 + 1) (ufV x.1 x.2.1.1 x.2.1.2.1 x.2.2.1 j) = true, meas := fun k => (most x.2.1.1).toNat - k }]) ?_
  rintro ⟨(xs : CL), ⟨(L : Int), (ts : List Int), _⟩, (s : Int), _⟩ (hts : pLen ts.length)
  by_cases h : lE xs = 0
  · have hp := lP_okL h
    have hl := lP_len h
    have hl2 := (lE_ok h).2.1
    by_cases ho : opErr L ts s = 0
    · obtain ⟨hst, hs1⟩ := op_pSt hts ho
      have hL := (chk_zero hst.1).1
      have hm := most_in hL
      by_cases hx : (per L ts 1 : Int) = most L
      · have hxd := decide_eq_true hx
        by_cases hn : (xs.length : Int) = most L
        · have u : ufE xs L ts s = (if ufB xs L ts s = true then tE (ufL xs L ts s) else 20) := by unfold ufE; rw [if_pos h, if_pos ho, if_pos hx, if_pos hn]
          have v : ufR xs L ts s = (if ufB xs L ts s = true then tL (ufL xs L ts s) else []) := by unfold ufR; rw [if_pos h, if_pos ho, if_pos hx, if_pos hn]
          have hln : ((lP xs).length : Int) = most L := by omega
          have hsl := sgL_len L ts s
          have hsg : tab (sgI L ts s) (most L).toNat = sgL L ts s := rfl
          have hin := ufV_in h hst hn
          have hso := sgL_ok hst
          have hmN : (((most L).toNat : Nat) : Int) = most L := by omega
          have hok := ufL_ok h hst hn
          repeat' (intro hzz; (try (rename Two => hq; cases hq)); (try dsimp only at hzz); (try simp only [resTy, argTy, eqD, inR, big, wantOf, Bool.not_true, Bool.not_false, Bool.true_eq, decide_eq_true_eq, decide_eq_false_iff_not, Bool.not_eq_true', Bool.not_eq_false', Bool.and_eq_true, Prod.mk.injEq, and_true, true_and, Int.not_lt, Int.not_le, gt_iff_lt, ge_iff_le] at hzz); (try simp only [resTy, argTy, eqD, inR, big, wantOf, Bool.not_true, Bool.not_false, Bool.true_eq, decide_eq_true_eq, decide_eq_false_iff_not, Bool.not_eq_true', Bool.not_eq_false', Bool.and_eq_true, Prod.mk.injEq, and_true, true_and, Int.not_lt, Int.not_le, gt_iff_lt, ge_iff_le, h, ho, hxd, hn, hsg, tab_len, Int.toNat_natCast, List.length_set] at hzz); (try (first | contradiction | (exfalso; omega))); (try (revert hzz; intro _)))
          all_goals try (rename Unit => hq; clear hq)
          all_goals try ((with_reducible refine Held.mk ?_); (with_reducible (first | refine Frz.mk ?_ | refine And.intro (Frz.mk ?_) ?_ | refine And.intro ?_ (Frz.mk ?_))); repeat' first | exact True.intro | (change _ = _; with_reducible rfl) | refine And.intro ?_ ?_ | (with_reducible refine Frz.mk ?_))
          all_goals try (refine Held.mk ?_; (try dsimp only at *); (try simp only [resTy, argTy, eqD, inR, big, wantOf, Bool.not_true, Bool.not_false, Bool.true_eq, decide_eq_true_eq, decide_eq_false_iff_not, Bool.not_eq_true', Bool.not_eq_false', Bool.and_eq_true, Prod.mk.injEq, and_true, true_and, Int.not_lt, Int.not_le, gt_iff_lt, ge_iff_le] at *); (try simp only [resTy, argTy, eqD, inR, big, wantOf, Bool.not_true, Bool.not_false, Bool.true_eq, decide_eq_true_eq, decide_eq_false_iff_not, Bool.not_eq_true', Bool.not_eq_false', Bool.and_eq_true, Prod.mk.injEq, and_true, true_and, Int.not_lt, Int.not_le, gt_iff_lt, ge_iff_le, h, ho, hxd, hn, hsg, tab_len, Int.toNat_natCast, List.length_set] at *))
          all_goals try omega
          all_goals try exact ⟨hst.1, hts⟩
          all_goals try (first | exact ⟨(show (0 : Int) < most L + 1 by omega), (show most L + 1 ≤ (2000000000000000000 : Int) by omega)⟩)
          · exact ⟨(show (lP xs).length ≤ 1024 by omega), hp, (show (1 : Int) ≤ 1 by omega), (show (1 : Int) ≤ 2000000 by omega)⟩
          · exact ⟨Int.le_refl _, (show (0 : Int) < ((flL (lP xs) 1 (lP xs).length).length : Int) by unfold flL; rw [tab_len]; omega)⟩
          · exact ⟨Int.le_refl _, (show (0 : Int) < ((flL (lP xs) 1 (lP xs).length).length : Int) by unfold flL; rw [tab_len]; omega)⟩
          · exact ⟨⟨(show (lP xs).length = (sgL L ts s).length by omega), (show (sgL L ts s).length ≤ 1024 by omega)⟩, hp, hso⟩
          · have e0 : tab (fun i => trV (lP xs) (sgL L ts s) i (-1) (sgL L ts s).length) (sgL L ts s).length = tab (ufG xs L ts s 0) (most L).toNat := by
              rw [hsl]
              refine tab_congr _ fun i hi => ?_
              unfold ufG
              rw [if_neg (by omega), show (lP xs).length = (most L).toNat by omega]
            refine GHeld.mk ?_
            refine Exists.intro 0 ?_
            refine And.intro (Leaf.mk ?_) ?_
            · repeat' first | exact True.intro | refine And.intro ?_ ?_
              all_goals try ((change _ = _ <;> try dsimp only) <;> try with_reducible rfl)
              all_goals try omega
              all_goals (first | exact e0 | exact congrArg List.length e0)
            exact ⟨Nat.zero_le _, fun j hj => by omega⟩
          · rename_i k hk hlt _ _
            have hh : -9223372036854775808 ≤ (ufV xs L ts s k).1 ∧ (ufV xs L ts s k).1 ≤ 9223372036854775807 := by have := hin k; omega
            rw [← ufG_one (by omega)] at hh
            exact hh
          · rename_i k hk hlt _ q _
            have d1 : ¬ (ufV xs L ts s k).1 % (most L + 1) = 0 := by rw [← ufG_one (by omega)]; exact q
            have hf := ufB_no (xs := xs) (s := s) (ts := ts) (L := L) (k := k) (by omega) (by unfold dvB; rw [decide_eq_false d1, Bool.false_and])
            rw [u, v, hf]; exact ⟨rfl, rfl⟩
          · rename_i k hk hlt _ q _
            have hh : -9000000000000000000 ≤ (ufV xs L ts s k).1 ∧ (ufV xs L ts s k).1 ≤ 9000000000000000000 := by have := hin k; omega
            rw [← ufG_one (by omega)] at hh
            exact ⟨(show (0 : Int) < most L + 1 by omega), hh.1, hh.2⟩
          · rename_i k hk hlt _ q _ _
            have hh : -9223372036854775808 ≤ (ufV xs L ts s k).2.1 ∧ (ufV xs L ts s k).2.1 ≤ 9223372036854775807 := by have := hin k; omega
            rw [← ufG_two (v := (((tab (ufG xs L ts s k) (most L).toNat).getD k (0, 0, ())).1 - ((flL (lP xs) (Int.toNat 1) (lP xs).length).getD (Int.toNat 0) (0, 0, ())).1) / (most L + 1)) (by omega)] at hh
            exact hh
          · rename_i k hk hlt _ q _ q2 _
            have d2 : ¬ (ufV xs L ts s k).2.1 % (most L + 1) = 0 := by rw [← ufG_two (v := (((tab (ufG xs L ts s k) (most L).toNat).getD k (0, 0, ())).1 - ((flL (lP xs) (Int.toNat 1) (lP xs).length).getD (Int.toNat 0) (0, 0, ())).1) / (most L + 1)) (by omega)]; exact q2
            have hf := ufB_no (xs := xs) (s := s) (ts := ts) (L := L) (k := k) (by omega) (by unfold dvB; rw [decide_eq_false d2, Bool.and_false])
            rw [u, v, hf]; exact ⟨rfl, rfl⟩
          · rename_i k hk hlt _ q _ q2 _
            have hh : -9000000000000000000 ≤ (ufV xs L ts s k).2.1 ∧ (ufV xs L ts s k).2.1 ≤ 9000000000000000000 := by have := hin k; omega
            rw [← ufG_two (v := (((tab (ufG xs L ts s k) (most L).toNat).getD k (0, 0, ())).1 - ((flL (lP xs) (Int.toNat 1) (lP xs).length).getD (Int.toNat 0) (0, 0, ())).1) / (most L + 1)) (by omega)] at hh
            exact ⟨(show (0 : Int) < most L + 1 by omega), hh.1, hh.2⟩
          · rename_i k hk hlt _ q _ q2 _
            have e1 := ufG_one (xs := xs) (L := L) (ts := ts) (s := s) (k := k) (by omega)
            have e2 := ufG_two (xs := xs) (L := L) (ts := ts) (s := s) (k := k) (v := (((tab (ufG xs L ts s k) (most L).toNat).getD k (0, 0, ())).1 - ((flL (lP xs) (Int.toNat 1) (lP xs).length).getD (Int.toNat 0) (0, 0, ())).1) / (most L + 1)) (by omega)
            have d1 : (ufV xs L ts s k).1 % (most L + 1) = 0 := by rw [← e1]; exact q
            have d2 : (ufV xs L ts s k).2.1 % (most L + 1) = 0 := by rw [← e2]; exact q2
            have e := ufG_next (xs := xs) (L := L) (ts := ts) (s := s) (k := k) (by omega) (congrArg (· / (most L + 1)) e1) (congrArg (· / (most L + 1)) e2)
            refine GHeld.mk ?_
            refine Exists.intro (k + 1) ?_
            refine And.intro (Leaf.mk ?_) ?_
            · repeat' first | exact True.intro | refine And.intro ?_ ?_
              all_goals try ((change _ = _ <;> try dsimp only) <;> try with_reducible rfl)
              all_goals try omega
              all_goals (first | exact e | exact (List.length_set ..).trans ((List.length_set ..).trans ((tab_len _ _).trans (tab_len _ _).symm)))
            refine ⟨⟨by show k + 1 ≤ (most L).toNat; omega, fun j hj => ?_⟩, by show (most L).toNat - (k + 1) < (most L).toNat - k; omega⟩
            by_cases he : j = k
            · rw [he]
              show (decide ((ufV xs L ts s k).1 % (most L + 1) = 0) && decide ((ufV xs L ts s k).2.1 % (most L + 1) = 0)) = true
              rw [decide_eq_true d1, decide_eq_true d2]; rfl
            · exact hk.2 j (by omega)
          · exact ((tab_len _ _).trans (tab_len _ _)).trans (tab_len _ _).symm
          · exact ((tab_len _ _).trans (tab_len _ _)).trans (tab_len _ _).symm
          · exact ((tab_len _ _).trans (tab_len _ _)).trans (tab_len _ _).symm
          · rename_i k hk hge _
            have hke : k = (most L).toNat := by omega
            have hq : tab (ufG xs L ts s k) (most L).toNat = ufL xs L ts s := by
              rw [hke]; exact tab_congr _ fun i hi => if_pos hi
            refine ⟨by omega, ?_⟩
            rw [hq]
            exact hok
          · rename_i k hk hge _
            have hke : k = (most L).toNat := by omega
            have hq : tab (ufG xs L ts s k) (most L).toNat = ufL xs L ts s := by
              rw [hke]; exact tab_congr _ fun i hi => if_pos hi
            have hf := ufB_yes (xs := xs) (s := s) (ts := ts) (L := L) (fun j hj => hk.2 j (by omega))
            rw [u, v, hf, hq]; exact ⟨rfl, rfl⟩
        · have u : ufE xs L ts s = 13 := by unfold ufE; rw [if_pos h, if_pos ho, if_pos hx, if_neg hn]
          have v : ufR xs L ts s = [] := by unfold ufR; rw [if_pos h, if_pos ho, if_pos hx, if_neg hn]
          repeat' (intro hzz; (try (rename Two => hq; cases hq)); (try dsimp only at hzz); (try simp only [resTy, argTy, eqD, inR, big, wantOf, Bool.not_true, Bool.not_false, Bool.true_eq, decide_eq_true_eq, decide_eq_false_iff_not, Bool.not_eq_true', Bool.not_eq_false', Bool.and_eq_true, Prod.mk.injEq, and_true, true_and, Int.not_lt, Int.not_le, gt_iff_lt, ge_iff_le] at hzz); (try simp only [resTy, argTy, eqD, inR, big, wantOf, Bool.not_true, Bool.not_false, Bool.true_eq, decide_eq_true_eq, decide_eq_false_iff_not, Bool.not_eq_true', Bool.not_eq_false', Bool.and_eq_true, Prod.mk.injEq, and_true, true_and, Int.not_lt, Int.not_le, gt_iff_lt, ge_iff_le, h, ho, hxd, u, v] at hzz); (try (first | contradiction | (exfalso; omega))); (try (revert hzz; intro _)))
          all_goals try (rename Unit => hq; clear hq)
          all_goals try ((with_reducible refine Held.mk ?_); (with_reducible (first | refine Frz.mk ?_ | refine And.intro (Frz.mk ?_) ?_ | refine And.intro ?_ (Frz.mk ?_))); repeat' first | exact True.intro | (change _ = _; with_reducible rfl) | refine And.intro ?_ ?_ | (with_reducible refine Frz.mk ?_))
          all_goals try (refine Held.mk ?_; (try dsimp only at *); (try simp only [resTy, argTy, eqD, inR, big, wantOf, Bool.not_true, Bool.not_false, Bool.true_eq, decide_eq_true_eq, decide_eq_false_iff_not, Bool.not_eq_true', Bool.not_eq_false', Bool.and_eq_true, Prod.mk.injEq, and_true, true_and, Int.not_lt, Int.not_le, gt_iff_lt, ge_iff_le] at *); (try simp only [resTy, argTy, eqD, inR, big, wantOf, Bool.not_true, Bool.not_false, Bool.true_eq, decide_eq_true_eq, decide_eq_false_iff_not, Bool.not_eq_true', Bool.not_eq_false', Bool.and_eq_true, Prod.mk.injEq, and_true, true_and, Int.not_lt, Int.not_le, gt_iff_lt, ge_iff_le, h, ho, hxd, u, v] at *))
          all_goals try omega
          all_goals exact ⟨hst.1, hts⟩
      · have hxd := decide_eq_false hx
        have u : ufE xs L ts s = 22 := by unfold ufE; rw [if_pos h, if_pos ho, if_neg hx]
        have v : ufR xs L ts s = [] := by unfold ufR; rw [if_pos h, if_pos ho, if_neg hx]
        repeat' (intro hzz; (try (rename Two => hq; cases hq)); (try dsimp only at hzz); (try simp only [resTy, argTy, eqD, inR, big, wantOf, Bool.not_true, Bool.not_false, Bool.true_eq, decide_eq_true_eq, decide_eq_false_iff_not, Bool.not_eq_true', Bool.not_eq_false', Bool.and_eq_true, Prod.mk.injEq, and_true, true_and, Int.not_lt, Int.not_le, gt_iff_lt, ge_iff_le] at hzz); (try simp only [resTy, argTy, eqD, inR, big, wantOf, Bool.not_true, Bool.not_false, Bool.true_eq, decide_eq_true_eq, decide_eq_false_iff_not, Bool.not_eq_true', Bool.not_eq_false', Bool.and_eq_true, Prod.mk.injEq, and_true, true_and, Int.not_lt, Int.not_le, gt_iff_lt, ge_iff_le, h, ho, hxd, u, v] at hzz); (try (first | contradiction | (exfalso; omega))); (try (revert hzz; intro _)))
        all_goals try (rename Unit => hq; clear hq)
        all_goals try ((with_reducible refine Held.mk ?_); (with_reducible (first | refine Frz.mk ?_ | refine And.intro (Frz.mk ?_) ?_ | refine And.intro ?_ (Frz.mk ?_))); repeat' first | exact True.intro | (change _ = _; with_reducible rfl) | refine And.intro ?_ ?_ | (with_reducible refine Frz.mk ?_))
        all_goals try (refine Held.mk ?_; (try dsimp only at *); (try simp only [resTy, argTy, eqD, inR, big, wantOf, Bool.not_true, Bool.not_false, Bool.true_eq, decide_eq_true_eq, decide_eq_false_iff_not, Bool.not_eq_true', Bool.not_eq_false', Bool.and_eq_true, Prod.mk.injEq, and_true, true_and, Int.not_lt, Int.not_le, gt_iff_lt, ge_iff_le] at *); (try simp only [resTy, argTy, eqD, inR, big, wantOf, Bool.not_true, Bool.not_false, Bool.true_eq, decide_eq_true_eq, decide_eq_false_iff_not, Bool.not_eq_true', Bool.not_eq_false', Bool.and_eq_true, Prod.mk.injEq, and_true, true_and, Int.not_lt, Int.not_le, gt_iff_lt, ge_iff_le, h, ho, hxd, u, v] at *))
        all_goals try omega
        all_goals exact ⟨hst.1, hts⟩
    · have u : ufE xs L ts s = opErr L ts s := by unfold ufE; rw [if_pos h, if_neg ho]
      have v : ufR xs L ts s = [] := by unfold ufR; rw [if_pos h, if_neg ho]
      repeat' (intro hzz; (try (rename Two => hq; cases hq)); (try dsimp only at hzz); (try simp only [resTy, argTy, eqD, inR, big, wantOf, Bool.not_true, Bool.not_false, Bool.true_eq, decide_eq_true_eq, decide_eq_false_iff_not, Bool.not_eq_true', Bool.not_eq_false', Bool.and_eq_true, Prod.mk.injEq, and_true, true_and, Int.not_lt, Int.not_le, gt_iff_lt, ge_iff_le] at hzz); (try simp only [resTy, argTy, eqD, inR, big, wantOf, Bool.not_true, Bool.not_false, Bool.true_eq, decide_eq_true_eq, decide_eq_false_iff_not, Bool.not_eq_true', Bool.not_eq_false', Bool.and_eq_true, Prod.mk.injEq, and_true, true_and, Int.not_lt, Int.not_le, gt_iff_lt, ge_iff_le, h, u, v] at hzz); (try (first | contradiction | (exfalso; omega))); (try (revert hzz; intro _)))
      all_goals try (rename Unit => hq; clear hq)
      all_goals try ((with_reducible refine Held.mk ?_); (with_reducible (first | refine Frz.mk ?_ | refine And.intro (Frz.mk ?_) ?_ | refine And.intro ?_ (Frz.mk ?_))); repeat' first | exact True.intro | (change _ = _; with_reducible rfl) | refine And.intro ?_ ?_ | (with_reducible refine Frz.mk ?_))
      all_goals try (refine Held.mk ?_; (try dsimp only at *); (try simp only [resTy, argTy, eqD, inR, big, wantOf, Bool.not_true, Bool.not_false, Bool.true_eq, decide_eq_true_eq, decide_eq_false_iff_not, Bool.not_eq_true', Bool.not_eq_false', Bool.and_eq_true, Prod.mk.injEq, and_true, true_and, Int.not_lt, Int.not_le, gt_iff_lt, ge_iff_le] at *); (try simp only [resTy, argTy, eqD, inR, big, wantOf, Bool.not_true, Bool.not_false, Bool.true_eq, decide_eq_true_eq, decide_eq_false_iff_not, Bool.not_eq_true', Bool.not_eq_false', Bool.and_eq_true, Prod.mk.injEq, and_true, true_and, Int.not_lt, Int.not_le, gt_iff_lt, ge_iff_le, h, u, v] at *))
      all_goals try omega
  · have u : ufE xs L ts s = lE xs := by unfold ufE; rw [if_neg h]
    have v : ufR xs L ts s = [] := by unfold ufR; rw [if_neg h]
    repeat' (intro hzz; (try (rename Two => hq; cases hq)); (try dsimp only at hzz); (try simp only [resTy, argTy, eqD, inR, big, wantOf, Bool.not_true, Bool.not_false, Bool.true_eq, decide_eq_true_eq, decide_eq_false_iff_not, Bool.not_eq_true', Bool.not_eq_false', Bool.and_eq_true, Prod.mk.injEq, and_true, true_and, Int.not_lt, Int.not_le, gt_iff_lt, ge_iff_le] at hzz); (try simp only [resTy, argTy, eqD, inR, big, wantOf, Bool.not_true, Bool.not_false, Bool.true_eq, decide_eq_true_eq, decide_eq_false_iff_not, Bool.not_eq_true', Bool.not_eq_false', Bool.and_eq_true, Prod.mk.injEq, and_true, true_and, Int.not_lt, Int.not_le, gt_iff_lt, ge_iff_le, u, v] at hzz); (try (first | contradiction | (exfalso; omega))); (try (revert hzz; intro _)))
    all_goals try (rename Unit => hq; clear hq)
    all_goals try ((with_reducible refine Held.mk ?_); (with_reducible (first | refine Frz.mk ?_ | refine And.intro (Frz.mk ?_) ?_ | refine And.intro ?_ (Frz.mk ?_))); repeat' first | exact True.intro | (change _ = _; with_reducible rfl) | refine And.intro ?_ ?_ | (with_reducible refine Frz.mk ?_))
    all_goals try (refine Held.mk ?_; (try dsimp only at *); (try simp only [resTy, argTy, eqD, inR, big, wantOf, Bool.not_true, Bool.not_false, Bool.true_eq, decide_eq_true_eq, decide_eq_false_iff_not, Bool.not_eq_true', Bool.not_eq_false', Bool.and_eq_true, Prod.mk.injEq, and_true, true_and, Int.not_lt, Int.not_le, gt_iff_lt, ge_iff_le] at *); (try simp only [resTy, argTy, eqD, inR, big, wantOf, Bool.not_true, Bool.not_false, Bool.true_eq, decide_eq_true_eq, decide_eq_false_iff_not, Bool.not_eq_true', Bool.not_eq_false', Bool.and_eq_true, Prod.mk.injEq, and_true, true_and, Int.not_lt, Int.not_le, gt_iff_lt, ge_iff_le, u, v] at *))
    all_goals try omega

theorem ufR_ok (xs : CL) (L : Int) (ts : List Int) (s : Int) : okC (ufR xs L ts s) := by
  unfold ufR
  repeat' split
  all_goals first | exact tL_ok _ | exact okC_nil

theorem ufR_len {xs : CL} {L : Int} {ts : List Int} {s : Int} (hts : pLen ts.length) : (ufR xs L ts s).length ≤ 1024 := by
  unfold ufR
  split
  · split
    · rename_i ho
      have c := most_in (chk_zero (op_pSt hts ho).1.1).1
      have a := tL_len (ufL xs L ts s)
      have b : (ufL xs L ts s).length = (most L).toNat := tab_len _ _
      repeat' split
      all_goals first | exact Nat.zero_le _ | omega
    · exact Nat.zero_le _
  · exact Nat.zero_le _

@[reducible] def sLaw9 : Spec := { pats := [.dat (.sl RawT), .dat StartT], res := [{ t := .bool }], pre := fun _ => True, f := fun _ => (true, ()) }

/-- PulseUnfolds -/
theorem h9 : Ok 9 sLaw9 := by
  refine mk (ctr := [(17, sAwake), (28, sFew), (30, sListW), (19, sCopy), (53, sUnf), (54, sUnf), (34, sSameN)]) ⟨h17, h28n, h30n, h19, h53n, h54n, h34n, trivial⟩ (nt := 50) Try.func9 rfl rfl rfl rfl (by kernel_rfl) (by kernel_rfl) (fun _ => []) ?_
  rintro ⟨(l : RawL), ⟨⟨(L : Int), (ts : List Int), _⟩, (s : Int), _⟩, _⟩ _
  by_cases hf : few l.length = true
  · have hle := few_le hf
    by_cases ht : ts.length ≤ 12
    · have htp : pLen ts.length := by unfold pLen; omega
      have e2 : okC (ufR (lsL l) L ts s) := ufR_ok _ _ _ _
      have e4 := ufR_len (xs := lsL l) (L := L) (s := s) htp
      repeat' (intro hzz; (try (rename Two => hq; cases hq)); (try dsimp only at hzz); (try simp only [resTy, argTy, eqD, inR, big, wantOf, Bool.not_true, Bool.not_false, Bool.true_eq, decide_eq_true_eq, decide_eq_false_iff_not, Bool.not_eq_true', Bool.not_eq_false', Bool.and_eq_true, Prod.mk.injEq, and_true, true_and, Int.not_lt, Int.not_le, gt_iff_lt, ge_iff_le] at hzz); (try simp only [resTy, argTy, eqD, inR, big, wantOf, Bool.not_true, Bool.not_false, Bool.true_eq, decide_eq_true_eq, decide_eq_false_iff_not, Bool.not_eq_true', Bool.not_eq_false', Bool.and_eq_true, Prod.mk.injEq, and_true, true_and, Int.not_lt, Int.not_le, gt_iff_lt, ge_iff_le, hf] at hzz); (try (first | contradiction | (exfalso; omega))); (try (revert hzz; intro _)))
      all_goals try (rename Unit => hq; clear hq)
      all_goals try ((with_reducible refine Held.mk ?_); (with_reducible (first | refine Frz.mk ?_ | refine And.intro (Frz.mk ?_) ?_ | refine And.intro ?_ (Frz.mk ?_))); repeat' first | exact True.intro | (change _ = _; with_reducible rfl) | refine And.intro ?_ ?_ | (with_reducible refine Frz.mk ?_))
      all_goals try (refine Held.mk ?_; (try dsimp only at *); (try simp only [resTy, argTy, eqD, inR, big, wantOf, Bool.not_true, Bool.not_false, Bool.true_eq, decide_eq_true_eq, decide_eq_false_iff_not, Bool.not_eq_true', Bool.not_eq_false', Bool.and_eq_true, Prod.mk.injEq, and_true, true_and, Int.not_lt, Int.not_le, gt_iff_lt, ge_iff_le] at *); (try simp only [resTy, argTy, eqD, inR, big, wantOf, Bool.not_true, Bool.not_false, Bool.true_eq, decide_eq_true_eq, decide_eq_false_iff_not, Bool.not_eq_true', Bool.not_eq_false', Bool.and_eq_true, Prod.mk.injEq, and_true, true_and, Int.not_lt, Int.not_le, gt_iff_lt, ge_iff_le, hf] at *))
      all_goals try omega
      all_goals first | exact (show l.length ≤ 1000000000 by omega) | exact ⟨htp, (show ts.length ≤ 2000000000 by omega)⟩ | exact ⟨(show (ufR (lsL l) L ts s).length ≤ 2000000000 by omega), e2⟩
    · 
      repeat' (intro hzz; (try (rename Two => hq; cases hq)); (try dsimp only at hzz); (try simp only [resTy, argTy, eqD, inR, big, wantOf, Bool.not_true, Bool.not_false, Bool.true_eq, decide_eq_true_eq, decide_eq_false_iff_not, Bool.not_eq_true', Bool.not_eq_false', Bool.and_eq_true, Prod.mk.injEq, and_true, true_and, Int.not_lt, Int.not_le, gt_iff_lt, ge_iff_le] at hzz); (try simp only [resTy, argTy, eqD, inR, big, wantOf, Bool.not_true, Bool.not_false, Bool.true_eq, decide_eq_true_eq, decide_eq_false_iff_not, Bool.not_eq_true', Bool.not_eq_false', Bool.and_eq_true, Prod.mk.injEq, and_true, true_and, Int.not_lt, Int.not_le, gt_iff_lt, ge_iff_le, hf] at hzz); (try (first | contradiction | (exfalso; omega))); (try (revert hzz; intro _)))
      all_goals try (rename Unit => hq; clear hq)
      all_goals try ((with_reducible refine Held.mk ?_); (with_reducible (first | refine Frz.mk ?_ | refine And.intro (Frz.mk ?_) ?_ | refine And.intro ?_ (Frz.mk ?_))); repeat' first | exact True.intro | (change _ = _; with_reducible rfl) | refine And.intro ?_ ?_ | (with_reducible refine Frz.mk ?_))
      all_goals try (refine Held.mk ?_; (try dsimp only at *); (try simp only [resTy, argTy, eqD, inR, big, wantOf, Bool.not_true, Bool.not_false, Bool.true_eq, decide_eq_true_eq, decide_eq_false_iff_not, Bool.not_eq_true', Bool.not_eq_false', Bool.and_eq_true, Prod.mk.injEq, and_true, true_and, Int.not_lt, Int.not_le, gt_iff_lt, ge_iff_le] at *); (try simp only [resTy, argTy, eqD, inR, big, wantOf, Bool.not_true, Bool.not_false, Bool.true_eq, decide_eq_true_eq, decide_eq_false_iff_not, Bool.not_eq_true', Bool.not_eq_false', Bool.and_eq_true, Prod.mk.injEq, and_true, true_and, Int.not_lt, Int.not_le, gt_iff_lt, ge_iff_le, hf] at *))
      all_goals try omega
  · have hf : few l.length = false := by simpa using hf
    repeat' (intro hzz; (try (rename Two => hq; cases hq)); (try dsimp only at hzz); (try simp only [resTy, argTy, eqD, inR, big, wantOf, Bool.not_true, Bool.not_false, Bool.true_eq, decide_eq_true_eq, decide_eq_false_iff_not, Bool.not_eq_true', Bool.not_eq_false', Bool.and_eq_true, Prod.mk.injEq, and_true, true_and, Int.not_lt, Int.not_le, gt_iff_lt, ge_iff_le] at hzz); (try simp only [resTy, argTy, eqD, inR, big, wantOf, Bool.not_true, Bool.not_false, Bool.true_eq, decide_eq_true_eq, decide_eq_false_iff_not, Bool.not_eq_true', Bool.not_eq_false', Bool.and_eq_true, Prod.mk.injEq, and_true, true_and, Int.not_lt, Int.not_le, gt_iff_lt, ge_iff_le, hf] at hzz); (try (first | contradiction | (exfalso; omega))); (try (revert hzz; intro _)))
    all_goals try (rename Unit => hq; clear hq)
    all_goals try ((with_reducible refine Held.mk ?_); (with_reducible (first | refine Frz.mk ?_ | refine And.intro (Frz.mk ?_) ?_ | refine And.intro ?_ (Frz.mk ?_))); repeat' first | exact True.intro | (change _ = _; with_reducible rfl) | refine And.intro ?_ ?_ | (with_reducible refine Frz.mk ?_))
    all_goals try (refine Held.mk ?_; (try dsimp only at *); (try simp only [resTy, argTy, eqD, inR, big, wantOf, Bool.not_true, Bool.not_false, Bool.true_eq, decide_eq_true_eq, decide_eq_false_iff_not, Bool.not_eq_true', Bool.not_eq_false', Bool.and_eq_true, Prod.mk.injEq, and_true, true_and, Int.not_lt, Int.not_le, gt_iff_lt, ge_iff_le] at *); (try simp only [resTy, argTy, eqD, inR, big, wantOf, Bool.not_true, Bool.not_false, Bool.true_eq, decide_eq_true_eq, decide_eq_false_iff_not, Bool.not_eq_true', Bool.not_eq_false', Bool.and_eq_true, Prod.mk.injEq, and_true, true_and, Int.not_lt, Int.not_le, gt_iff_lt, ge_iff_le, hf] at *))
    all_goals try omega

end Go.Eng.Pu
