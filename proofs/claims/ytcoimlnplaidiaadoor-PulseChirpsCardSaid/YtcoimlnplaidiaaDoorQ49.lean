/- Contracts: Excited, of the program and of the reference; the law PulseExcites. Conditions: each contract's own. -/
import Derived.Test.YtcoimlnplaidiaaDoorQ48
import Derived.Test.YtcoimlnplaidiaaDoorQ9
import Derived.Test.YtcoimlnplaidiaaDoorQ16
namespace Go.Eng.Pu
open Go.Eng Go.Proofs
set_option linter.all false
set_option maxRecDepth 100000
set_option maxHeartbeats 8000000

@[reducible] def sSignsD : Spec := { pats := [.dat Reg, .dat I64], res := [{ t := .sl I64 }], pre := fun x => pSt x.1.1.1 x.1.1.2.1 x.2.1, f := fun x => (tab (sgI x.1.1.1 x.1.1.2.1 x.2.1) (most x.1.1.1).toNat, ()) }

/-- register.signs, as data -/
theorem h95d : Ok 47 sSignsD := by
  refine mk (ctr := [(46, sFull), (53, sBits)]) ⟨h94, h87, trivial⟩ (nt := 28) Tryd.func47 rfl rfl rfl rfl (by kernel_rfl) (by kernel_rfl) (fun x => [fun _ => { σ := Nat, pat := fun k => [sI 15 k, .row 12 3 I64 (mixT (sgI x.1.1.1 x.1.1.2.1 x.2.1) (bitI x.1.1.1 x.1.1.2.1 x.2.1) (most x.1.1.1).toNat k)], inv := fun k => k ≤ (most x.1.1.1).toNat, meas := fun k => (most x.1.1.1).toNat - k }]) ?_
  rintro ⟨⟨⟨(L : Int), (xs : List Int), _⟩, _⟩, (s : Int), _⟩ (hp : pSt L xs s)
  have hL := (chk_zero hp.1).1
  have hP := P2_in hL
  repeat' (intro hzz; (try (rename Two => hq; cases hq)); (try dsimp only at hzz); (try simp only [resTy, argTy, eqD, inR, big, wantOf, Bool.not_true, Bool.not_false, Bool.true_eq, decide_eq_true_eq, decide_eq_false_iff_not, Bool.not_eq_true', Bool.not_eq_false', Bool.and_eq_true, Prod.mk.injEq, and_true, true_and, Int.not_lt, Int.not_le, gt_iff_lt, ge_iff_le] at hzz); (try simp only [resTy, argTy, eqD, inR, big, wantOf, Bool.not_true, Bool.not_false, Bool.true_eq, decide_eq_true_eq, decide_eq_false_iff_not, Bool.not_eq_true', Bool.not_eq_false', Bool.and_eq_true, Prod.mk.injEq, and_true, true_and, Int.not_lt, Int.not_le, gt_iff_lt, ge_iff_le, tab_len, getD_i, mixT_len] at hzz); (try (first | contradiction | (exfalso; omega))); (try (revert hzz; intro _)))
  all_goals try (rename Unit => hq; clear hq)
  all_goals try ((with_reducible refine Held.mk ?_); (with_reducible (first | refine Frz.mk ?_ | refine And.intro (Frz.mk ?_) ?_ | refine And.intro ?_ (Frz.mk ?_))); repeat' first | exact True.intro | (change _ = _; with_reducible rfl) | refine And.intro ?_ ?_ | (with_reducible refine Frz.mk ?_))
  all_goals try (refine Held.mk ?_; (try dsimp only at *); (try simp only [resTy, argTy, eqD, inR, big, wantOf, Bool.not_true, Bool.not_false, Bool.true_eq, decide_eq_true_eq, decide_eq_false_iff_not, Bool.not_eq_true', Bool.not_eq_false', Bool.and_eq_true, Prod.mk.injEq, and_true, true_and, Int.not_lt, Int.not_le, gt_iff_lt, ge_iff_le] at *); (try simp only [resTy, argTy, eqD, inR, big, wantOf, Bool.not_true, Bool.not_false, Bool.true_eq, decide_eq_true_eq, decide_eq_false_iff_not, Bool.not_eq_true', Bool.not_eq_false', Bool.and_eq_true, Prod.mk.injEq, and_true, true_and, Int.not_lt, Int.not_le, gt_iff_lt, ge_iff_le, tab_len, getD_i, mixT_len] at *))
  all_goals try omega
  · exact ⟨hp, (show (0 : Int) ≤ most L by unfold most; omega), (show most L ≤ (1024 : Int) by unfold most; omega)⟩
  · 
    refine GHeld.mk ?_
    refine Exists.intro 0 ?_
    refine And.intro (Leaf.mk ?_) ?_
    · repeat' first | exact True.intro | refine And.intro ?_ ?_
      all_goals try ((change _ = _ <;> try dsimp only) <;> try with_reducible rfl)
      all_goals try omega
      all_goals (first | exact (mixT_zero _ _ _).symm | rfl | (rw [tab_len]))
    exact Nat.zero_le _
  · rename_i k hk hg
    rw [mixT_get (by omega)]
    have := bit_01 (L := L) (xs := xs) (s := s) k
    omega
  · rename_i k hk hg
    rw [mixT_get (by omega)]
    have := bit_01 (L := L) (xs := xs) (s := s) k
    omega
  · rename_i k hk hg
    unfold most at hg
    omega
  · rename_i k hk hg
    have e : (mixT (sgI L xs s) (bitI L xs s) (most L).toNat k).set k (1 - 2 * (mixT (sgI L xs s) (bitI L xs s) (most L).toNat k).getD k 0) = mixT (sgI L xs s) (bitI L xs s) (most L).toNat (k + 1) := by
      rw [mixT_get (by omega)]
      exact mixT_set (by omega)
    refine GHeld.mk ?_
    refine Exists.intro (k + 1) ?_
    refine And.intro (Leaf.mk ?_) ?_
    · repeat' first | exact True.intro | refine And.intro ?_ ?_
      all_goals try ((change _ = _ <;> try dsimp only) <;> try with_reducible rfl)
      all_goals try omega
      all_goals (exact e)
    exact ⟨by show k + 1 ≤ (most L).toNat; omega, by show (most L).toNat - (k + 1) < (most L).toNat - k; omega⟩
  all_goals first | exact (tab_len _ _).trans (tab_len _ _).symm | (rename_i k hk hg; rw [show k = (most L).toNat from by omega, mixT_all])


def sgL (L : Int) (ts : List Int) (s : Int) : List Int := tab (sgI L ts s) (most L).toNat

theorem sgL_len (L : Int) (ts : List Int) (s : Int) : (sgL L ts s).length = (most L).toNat := tab_len _ _

theorem sgL_ok {L : Int} {ts : List Int} {s : Int} (h : pSt L ts s) : okS (sgL L ts s) := fun i => by
  unfold sgL
  by_cases hi : i < (most L).toNat
  · rw [tab_get _ _ _ _ hi]
    have := bit_01 (L := L) (xs := ts) (s := s) i
    unfold sgI; omega
  · have : (tab (sgI L ts s) (most L).toNat).getD i 0 = 0 := by
      simp only [List.getD]
      rw [List.getElem?_eq_none (by rw [tab_len]; omega)]; rfl
    rw [this]; omega

/-- The list folded to the period of a register; what is excited of it. -/
def exf (xs : CL) (L : Int) : List IP := flL (lP xs) (most L).toNat (lP xs).length
def exF (xs : CL) (L : Int) (ts : List Int) (s : Int) (t : Nat) : IP := trV (exf xs L) (sgL L ts s) t 1 (exf xs L).length
def exL (xs : CL) (L : Int) (ts : List Int) (s : Int) : List IP := tab (exF xs L ts s) (most L).toNat
def exE (xs : CL) (L : Int) (ts : List Int) (s : Int) : Int := if lE xs = 0 then (if opErr L ts s = 0 then (if allFit (exf xs L) = true then tE (exL xs L ts s) else 8) else opErr L ts s) else lE xs
def exR (xs : CL) (L : Int) (ts : List Int) (s : Int) : CL := if lE xs = 0 then (if opErr L ts s = 0 then (if allFit (exf xs L) = true then tL (exL xs L ts s) else []) else []) else []

theorem exR_ok (xs : CL) (L : Int) (ts : List Int) (s : Int) : okC (exR xs L ts s) := by
  unfold exR
  split
  · split
    · split
      · exact tL_ok _
      · exact okC_nil
    · exact okC_nil
  · exact okC_nil

theorem exf_len (xs : CL) (L : Int) : (exf xs L).length = (most L).toNat := tab_len _ _

theorem most_in {L : Int} (h : 2 ≤ L ∧ L ≤ 8) : 3 ≤ most L ∧ most L ≤ 255 := by
  have := P2_in h
  unfold most; omega

theorem fit_okL {ps : List IP} (h : allFit ps = true) : okL 16777216 ps := fun i => allFit_at h i

theorem exL_ok {xs : CL} {L : Int} {ts : List Int} {s : Int} (hL : 2 ≤ L ∧ L ≤ 8) (hf : allFit (exf xs L) = true) (h : pSt L ts s) : okL 4278190080 (exL xs L ts s) := okL_tab (by omega) fun i _ => by
  have hm := most_in hL
  have b := trV_in (a := i) (way := 1) (fit_okL hf) (sgL_ok h) (exf xs L).length
  have hl := exf_len xs L
  unfold exF
  omega

@[reducible] def sExc : Spec := { pats := [.dat (.sl C64), .dat Reg0, .dat I64], res := [{ own := some 48, t := .sl C64 }, { t := I64 }], pre := fun x => pLen (List.length (α := Int) x.2.1.2.1), f := fun x => (exR x.1 x.2.1.1 x.2.1.2.1 x.2.2.1, exE x.1 x.2.1.1 x.2.1.2.1 x.2.2.1, ()) }

/-- Excited -/
theorem h31n : Ok 18 sExc := by
  refine mk (ctr := [(43, sRecd), (44, sOpen), (46, sFull), (45, sFold), (30, sTold), (47, sSignsD), (48, sTurned)]) ⟨h91n, h83, h94, h92n, h93n, h95d, h96n, trivial⟩ (nt := 66) Tryd.func18 rfl rfl rfl rfl (by kernel_rfl) (by kernel_rfl) (fun x => [fun _ => { σ := Nat, pat := fun t => [sI 51 t] ++ rOwn 15 60015 69 PairT (tab (exF x.1 x.2.1.1 x.2.1.2.1 x.2.2.1) t), inv := fun t => t ≤ (most x.2.1.1).toNat, meas := fun t => (most x.2.1.1).toNat - t }]) ?_
  rintro ⟨(xs : CL), ⟨(L : Int), (ts : List Int), _⟩, (s : Int), _⟩ (hts : pLen ts.length)
  by_cases h : lE xs = 0
  · have hp := lP_okL h
    have hl := lP_len h
    have hl2 := (lE_ok h).2.1
    by_cases ho : opErr L ts s = 0
    · obtain ⟨hst, hs1⟩ := op_pSt hts ho
      have hL := (chk_zero hst.1).1
      have hm := most_in hL
      by_cases hf : allFit (exf xs L) = true
      · have u : exE xs L ts s = tE (exL xs L ts s) := by unfold exE; rw [if_pos h, if_pos ho, if_pos hf]
        have v : exR xs L ts s = tL (exL xs L ts s) := by unfold exR; rw [if_pos h, if_pos ho, if_pos hf]
        have w := (t_yes hf).2.symm
        have hfl := exf_len xs L
        have hsl := sgL_len L ts s
        have hx : flL (lP xs) (most L).toNat (lP xs).length = exf xs L := rfl
        have hsg : tab (sgI L ts s) (most L).toNat = sgL L ts s := rfl
        have hso := sgL_ok hst
        repeat' (intro hzz; (try (rename Two => hq; cases hq)); (try dsimp only at hzz); (try simp only [resTy, argTy, eqD, inR, big, wantOf, Bool.not_true, Bool.not_false, Bool.true_eq, decide_eq_true_eq, decide_eq_false_iff_not, Bool.not_eq_true', Bool.not_eq_false', Bool.and_eq_true, Prod.mk.injEq, and_true, true_and, Int.not_lt, Int.not_le, gt_iff_lt, ge_iff_le] at hzz); (try simp only [resTy, argTy, eqD, inR, big, wantOf, Bool.not_true, Bool.not_false, Bool.true_eq, decide_eq_true_eq, decide_eq_false_iff_not, Bool.not_eq_true', Bool.not_eq_false', Bool.and_eq_true, Prod.mk.injEq, and_true, true_and, Int.not_lt, Int.not_le, gt_iff_lt, ge_iff_le, h, ho, u, v, w, hx, hsg] at hzz); (try (first | contradiction | (exfalso; omega))); (try (revert hzz; intro _)))
        all_goals try (rename Unit => hq; clear hq)
        all_goals try ((with_reducible refine Held.mk ?_); (with_reducible (first | refine Frz.mk ?_ | refine And.intro (Frz.mk ?_) ?_ | refine And.intro ?_ (Frz.mk ?_))); repeat' first | exact True.intro | (change _ = _; with_reducible rfl) | refine And.intro ?_ ?_ | (with_reducible refine Frz.mk ?_))
        all_goals try (refine Held.mk ?_; (try dsimp only at *); (try simp only [resTy, argTy, eqD, inR, big, wantOf, Bool.not_true, Bool.not_false, Bool.true_eq, decide_eq_true_eq, decide_eq_false_iff_not, Bool.not_eq_true', Bool.not_eq_false', Bool.and_eq_true, Prod.mk.injEq, and_true, true_and, Int.not_lt, Int.not_le, gt_iff_lt, ge_iff_le] at *); (try simp only [resTy, argTy, eqD, inR, big, wantOf, Bool.not_true, Bool.not_false, Bool.true_eq, decide_eq_true_eq, decide_eq_false_iff_not, Bool.not_eq_true', Bool.not_eq_false', Bool.and_eq_true, Prod.mk.injEq, and_true, true_and, Int.not_lt, Int.not_le, gt_iff_lt, ge_iff_le, h, ho, u, v, w, hx, hsg] at *))
        all_goals try omega
        · exact ⟨(show (lP xs).length ≤ 1024 by omega), hp, (show 1 ≤ most L by omega), (show most L ≤ (2000000 : Int) by omega)⟩
        · 
          refine GHeld.mk ?_
          refine Exists.intro 0 ?_
          refine And.intro (Leaf.mk ?_) ?_
          · repeat' first | exact True.intro | refine And.intro ?_ ?_
            all_goals try ((change _ = _ <;> try dsimp only) <;> try with_reducible rfl)
            all_goals try omega
            all_goals (rfl)
          exact Nat.zero_le _
        · rename_i t ht hlt
          exact ⟨(show (exf xs L).length ≤ 1024 by omega), fit_okL hf, ⟨(show 1 ≤ (sgL L ts s).length by omega), (show (sgL L ts s).length ≤ 1024 by omega)⟩, hso, ⟨(show (0 : Int) ≤ (t : Int) by omega), (show (t : Int) ≤ 1024 by omega)⟩, .inl True.intro⟩
        · rename_i t ht hlt
          rw [tab_len]; show t + 1 ≤ 2147483648; omega
        · rename_i t ht hlt
          refine GHeld.mk ?_
          refine Exists.intro (t + 1) ?_
          refine And.intro (Leaf.mk ?_) ?_
          · repeat' first | exact True.intro | refine And.intro ?_ ?_
            all_goals try ((change _ = _ <;> try dsimp only) <;> try with_reducible rfl)
            all_goals try omega
            all_goals (rfl)
          exact ⟨by show t + 1 ≤ (most L).toNat; omega, by show (most L).toNat - (t + 1) < (most L).toNat - t; omega⟩
        · rename_i t ht hge
          rw [tab_len]; omega
        · rename_i t ht hge
          rw [show t = (most L).toNat by omega]
          exact ⟨rfl, rfl⟩
      · have hf : allFit (exf xs L) = false := by simpa using hf
        have u : exE xs L ts s = 8 := by unfold exE; rw [if_pos h, if_pos ho, hf]; rfl
        have v : exR xs L ts s = [] := by unfold exR; rw [if_pos h, if_pos ho, hf]; rfl
        have w := (t_no hf).2.symm
        have hfl := exf_len xs L
        have hx : flL (lP xs) (most L).toNat (lP xs).length = exf xs L := rfl
        repeat' (intro hzz; (try (rename Two => hq; cases hq)); (try dsimp only at hzz); (try simp only [resTy, argTy, eqD, inR, big, wantOf, Bool.not_true, Bool.not_false, Bool.true_eq, decide_eq_true_eq, decide_eq_false_iff_not, Bool.not_eq_true', Bool.not_eq_false', Bool.and_eq_true, Prod.mk.injEq, and_true, true_and, Int.not_lt, Int.not_le, gt_iff_lt, ge_iff_le] at hzz); (try simp only [resTy, argTy, eqD, inR, big, wantOf, Bool.not_true, Bool.not_false, Bool.true_eq, decide_eq_true_eq, decide_eq_false_iff_not, Bool.not_eq_true', Bool.not_eq_false', Bool.and_eq_true, Prod.mk.injEq, and_true, true_and, Int.not_lt, Int.not_le, gt_iff_lt, ge_iff_le, h, ho, u, v, w, hx] at hzz); (try (first | contradiction | (exfalso; omega))); (try (revert hzz; intro _)))
        all_goals try (rename Unit => hq; clear hq)
        all_goals try ((with_reducible refine Held.mk ?_); (with_reducible (first | refine Frz.mk ?_ | refine And.intro (Frz.mk ?_) ?_ | refine And.intro ?_ (Frz.mk ?_))); repeat' first | exact True.intro | (change _ = _; with_reducible rfl) | refine And.intro ?_ ?_ | (with_reducible refine Frz.mk ?_))
        all_goals try (refine Held.mk ?_; (try dsimp only at *); (try simp only [resTy, argTy, eqD, inR, big, wantOf, Bool.not_true, Bool.not_false, Bool.true_eq, decide_eq_true_eq, decide_eq_false_iff_not, Bool.not_eq_true', Bool.not_eq_false', Bool.and_eq_true, Prod.mk.injEq, and_true, true_and, Int.not_lt, Int.not_le, gt_iff_lt, ge_iff_le] at *); (try simp only [resTy, argTy, eqD, inR, big, wantOf, Bool.not_true, Bool.not_false, Bool.true_eq, decide_eq_true_eq, decide_eq_false_iff_not, Bool.not_eq_true', Bool.not_eq_false', Bool.and_eq_true, Prod.mk.injEq, and_true, true_and, Int.not_lt, Int.not_le, gt_iff_lt, ge_iff_le, h, ho, u, v, w, hx] at *))
        all_goals try omega
        exact ⟨(show (lP xs).length ≤ 1024 by omega), hp, (show 1 ≤ most L by omega), (show most L ≤ (2000000 : Int) by omega)⟩
    · have u : exE xs L ts s = opErr L ts s := by unfold exE; rw [if_pos h, if_neg ho]
      have v : exR xs L ts s = [] := by unfold exR; rw [if_pos h, if_neg ho]
      repeat' (intro hzz; (try (rename Two => hq; cases hq)); (try dsimp only at hzz); (try simp only [resTy, argTy, eqD, inR, big, wantOf, Bool.not_true, Bool.not_false, Bool.true_eq, decide_eq_true_eq, decide_eq_false_iff_not, Bool.not_eq_true', Bool.not_eq_false', Bool.and_eq_true, Prod.mk.injEq, and_true, true_and, Int.not_lt, Int.not_le, gt_iff_lt, ge_iff_le] at hzz); (try simp only [resTy, argTy, eqD, inR, big, wantOf, Bool.not_true, Bool.not_false, Bool.true_eq, decide_eq_true_eq, decide_eq_false_iff_not, Bool.not_eq_true', Bool.not_eq_false', Bool.and_eq_true, Prod.mk.injEq, and_true, true_and, Int.not_lt, Int.not_le, gt_iff_lt, ge_iff_le, h, u, v] at hzz); (try (first | contradiction | (exfalso; omega))); (try (revert hzz; intro _)))
      all_goals try (rename Unit => hq; clear hq)
      all_goals try ((with_reducible refine Held.mk ?_); (with_reducible (first | refine Frz.mk ?_ | refine And.intro (Frz.mk ?_) ?_ | refine And.intro ?_ (Frz.mk ?_))); repeat' first | exact True.intro | (change _ = _; with_reducible rfl) | refine And.intro ?_ ?_ | (with_reducible refine Frz.mk ?_))
      all_goals try (refine Held.mk ?_; (try dsimp only at *); (try simp only [resTy, argTy, eqD, inR, big, wantOf, Bool.not_true, Bool.not_false, Bool.true_eq, decide_eq_true_eq, decide_eq_false_iff_not, Bool.not_eq_true', Bool.not_eq_false', Bool.and_eq_true, Prod.mk.injEq, and_true, true_and, Int.not_lt, Int.not_le, gt_iff_lt, ge_iff_le] at *); (try simp only [resTy, argTy, eqD, inR, big, wantOf, Bool.not_true, Bool.not_false, Bool.true_eq, decide_eq_true_eq, decide_eq_false_iff_not, Bool.not_eq_true', Bool.not_eq_false', Bool.and_eq_true, Prod.mk.injEq, and_true, true_and, Int.not_lt, Int.not_le, gt_iff_lt, ge_iff_le, h, u, v] at *))
      all_goals try omega
  · have u : exE xs L ts s = lE xs := by unfold exE; rw [if_neg h]
    have v : exR xs L ts s = [] := by unfold exR; rw [if_neg h]
    repeat' (intro hzz; (try (rename Two => hq; cases hq)); (try dsimp only at hzz); (try simp only [resTy, argTy, eqD, inR, big, wantOf, Bool.not_true, Bool.not_false, Bool.true_eq, decide_eq_true_eq, decide_eq_false_iff_not, Bool.not_eq_true', Bool.not_eq_false', Bool.and_eq_true, Prod.mk.injEq, and_true, true_and, Int.not_lt, Int.not_le, gt_iff_lt, ge_iff_le] at hzz); (try simp only [resTy, argTy, eqD, inR, big, wantOf, Bool.not_true, Bool.not_false, Bool.true_eq, decide_eq_true_eq, decide_eq_false_iff_not, Bool.not_eq_true', Bool.not_eq_false', Bool.and_eq_true, Prod.mk.injEq, and_true, true_and, Int.not_lt, Int.not_le, gt_iff_lt, ge_iff_le, u, v] at hzz); (try (first | contradiction | (exfalso; omega))); (try (revert hzz; intro _)))
    all_goals try (rename Unit => hq; clear hq)
    all_goals try ((with_reducible refine Held.mk ?_); (with_reducible (first | refine Frz.mk ?_ | refine And.intro (Frz.mk ?_) ?_ | refine And.intro ?_ (Frz.mk ?_))); repeat' first | exact True.intro | (change _ = _; with_reducible rfl) | refine And.intro ?_ ?_ | (with_reducible refine Frz.mk ?_))
    all_goals try (refine Held.mk ?_; (try dsimp only at *); (try simp only [resTy, argTy, eqD, inR, big, wantOf, Bool.not_true, Bool.not_false, Bool.true_eq, decide_eq_true_eq, decide_eq_false_iff_not, Bool.not_eq_true', Bool.not_eq_false', Bool.and_eq_true, Prod.mk.injEq, and_true, true_and, Int.not_lt, Int.not_le, gt_iff_lt, ge_iff_le] at *); (try simp only [resTy, argTy, eqD, inR, big, wantOf, Bool.not_true, Bool.not_false, Bool.true_eq, decide_eq_true_eq, decide_eq_false_iff_not, Bool.not_eq_true', Bool.not_eq_false', Bool.and_eq_true, Prod.mk.injEq, and_true, true_and, Int.not_lt, Int.not_le, gt_iff_lt, ge_iff_le, u, v] at *))
    all_goals try omega

end Go.Eng.Pu
