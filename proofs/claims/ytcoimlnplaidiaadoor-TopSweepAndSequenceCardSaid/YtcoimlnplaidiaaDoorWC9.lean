/- Contracts: Excited, of the program and of the reference; the law PulseExcites. Conditions: each contract's own. The law PulseExcites. Conditions: none. Contracts: lists as data, parts. Conditions: each contract's own. Laws on pairs of small numbers. Conditions: each lemma's own. Contracts: sweeps: Swept, of the program and of the reference. Conditions: each contract's own. -/
import Derived.Test.YtcoimlnplaidiaaDoorWC8
namespace Go.Eng.Pu
open Go.Eng Go.Proofs
set_option linter.all false
set_option maxRecDepth 100000
set_option maxHeartbeats 8000000

@[reducible] def sSignsD : Spec := { pats := [.dat Reg, .dat I64], res := [{ t := .sl I64 }], pre := fun x => pSt x.1.1.1 x.1.1.2.1 x.2.1, f := fun x => (tab (sgI x.1.1.1 x.1.1.2.1 x.2.1) (most x.1.1.1).toNat, ()) }

/-- register.signs, as data -/
theorem h95d : Ok 47 sSignsD := by
  refine mk (ctr := [(46, sFull), (53, sBits)]) ⟨h94, h87, trivial⟩ (nt := 28) Tryd.func47 rfl rfl rfl rfl (by kernel_rfl) (by kernel_rfl) (fun x => [fun _ => { σ := Nat, pat := fun k => [sI 15 k, .row 12 3 I64 (mixT (sgI x.1.1.1 x.1.1.2.1 x.2.1) (bitI x.1.1.1 x.1.1.2.1 x.2.1) (most x.1.1.1).toNat k)], inv := fun k => k ≤ (most x.1.1.1).toNat, meas := fun k => (most x.1.1.1).toNat - k }]) ?_
  rintro ⟨⟨⟨(L : Int), (xs : List Int), _⟩, _⟩, (s : Int), _⟩ (hp : pSt L xs s)
  have hL := (chk_zero hp.1).1
  have hP := P2_in hL
  repeat' (intro hzz; (try (rename Two => hq; cases hq)); (try dsimp only at hzz); (try simp only [resTy, argTy, eqD, inR, big, wantOf, Bool.not_true, Bool.not_false, Bool.true_eq, decide_eq_true_eq, decide_eq_false_iff_not, Bool.not_eq_true', Bool.not_eq_false', Bool.and_eq_true, Prod.mk.injEq, and_true, true_and, Int.not_lt, Int.not_le, gt_iff_lt, ge_iff_le] at hzz); (try simp only [resTy, argTy, eqD, inR, big, wantOf, Bool.not_true, Bool.not_false, Bool.true_eq, decide_eq_true_eq, decide_eq_false_iff_not, Bool.not_eq_true', Bool.not_eq_false', Bool.and_eq_true, Prod.mk.injEq, and_true, true_and, Int.not_lt, Int.not_le, gt_iff_lt, ge_iff_le, tab_len, getD_i, mixT_len] at hzz); (try (first | contradiction | (exfalso; omega))); (try (revert hzz; intro _)))
  all_goals try (rename Unit => hq; clear hq)
  all_goals try ((with_reducible refine Held.mk ?_); (with_reducible (first | refine Frz.mk ?_ | refine And.intro (Frz.mk ?_) ?_ | refine And.intro ?_ (Frz.mk ?_))); repeat' first | exact True.intro | (change _ = _; with_reducible rfl) | refine And.intro ?_ ?_ | (with_reducible refine Frz.mk ?_))
  all_goals try (refine Held.mk ?_; (try dsimp only at *); (try simp only [resTy, argTy, eqD, inR, big, wantOf, Bool.not_true, Bool.not_false, Bool.true_eq, decide_eq_true_eq, decide_eq_false_iff_not, Bool.not_eq_true', Bool.not_eq_false', Bool.and_eq_true, Prod.mk.injEq, and_true, true_and, Int.not_lt, Int.not_le, gt_iff_lt, ge_iff_le] at *); (try simp only [resTy, argTy, eqD, inR, big, wantOf, Bool.not_true, Bool.not_false, Bool.true_eq, decide_eq_true_eq, decide_eq_false_iff_not, Bool.not_eq_true', Bool.not_eq_false', Bool.and_eq_true, Prod.mk.injEq, and_true, true_and, Int.not_lt, Int.not_le, gt_iff_lt, ge_iff_le, tab_len, getD_i, mixT_len] at *))
  all_goals try omega
  · exact ⟨hp, (show (0 : Int) ≤ most L by unfold most; omega), (show most L ≤ (1024 : Int) by unfold most; omega)⟩
  · 
    refine GHeld.mk ?_
    refine Exists.intro 0 ?_
    refine And.intro (Leaf.mk ?_) ?_
    · repeat' first | exact True.intro | refine And.intro ?_ ?_
      all_goals try ((change _ = _ <;> try dsimp only) <;> try with_reducible rfl)
      all_goals try omega
      all_goals (first | exact (mixT_zero _ _ _).symm | rfl | (rw [tab_len]))
    exact Nat.zero_le _
  · rename_i k hk hg
    rw [mixT_get (by omega)]
    have := bit_01 (L := L) (xs := xs) (s := s) k
    omega
  · rename_i k hk hg
    rw [mixT_get (by omega)]
    have := bit_01 (L := L) (xs := xs) (s := s) k
    omega
  · rename_i k hk hg
    unfold most at hg
    omega
  · rename_i k hk hg
    have e : (mixT (sgI L xs s) (bitI L xs s) (most L).toNat k).set k (1 - 2 * (mixT (sgI L xs s) (bitI L xs s) (most L).toNat k).getD k 0) = mixT (sgI L xs s) (bitI L xs s) (most L).toNat (k + 1) := by
      rw [mixT_get (by omega)]
      exact mixT_set (by omega)
    refine GHeld.mk ?_
    refine Exists.intro (k + 1) ?_
    refine And.intro (Leaf.mk ?_) ?_
    · repeat' first | exact True.intro | refine And.intro ?_ ?_
      all_goals try ((change _ = _ <;> try dsimp only) <;> try with_reducible rfl)
      all_goals try omega
      all_goals (exact e)
    exact ⟨by show k + 1 ≤ (most L).toNat; omega, by show (most L).toNat - (k + 1) < (most L).toNat - k; omega⟩
  all_goals first | exact (tab_len _ _).trans (tab_len _ _).symm | (rename_i k hk hg; rw [show k = (most L).toNat from by omega, mixT_all])


def sgL (L : Int) (ts : List Int) (s : Int) : List Int := tab (sgI L ts s) (most L).toNat

theorem sgL_len (L : Int) (ts : List Int) (s : Int) : (sgL L ts s).length = (most L).toNat := tab_len _ _

theorem sgL_ok {L : Int} {ts : List Int} {s : Int} (h : pSt L ts s) : okS (sgL L ts s) := fun i => by
  unfold sgL
  by_cases hi : i < (most L).toNat
  · rw [tab_get _ _ _ _ hi]
    have := bit_01 (L := L) (xs := ts) (s := s) i
    unfold sgI; omega
  · have : (tab (sgI L ts s) (most L).toNat).getD i 0 = 0 := by
      simp only [List.getD]
      rw [List.getElem?_eq_none (by rw [tab_len]; omega)]; rfl
    rw [this]; omega

/-- The list folded to the period of a register; what is excited of it. -/
def exf (xs : CL) (L : Int) : List IP := flL (lP xs) (most L).toNat (lP xs).length
def exF (xs : CL) (L : Int) (ts : List Int) (s : Int) (t : Nat) : IP := trV (exf xs L) (sgL L ts s) t 1 (exf xs L).length
def exL (xs : CL) (L : Int) (ts : List Int) (s : Int) : List IP := tab (exF xs L ts s) (most L).toNat
def exE (xs : CL) (L : Int) (ts : List Int) (s : Int) : Int := if lE xs = 0 then (if opErr L ts s = 0 then (if allFit (exf xs L) = true then tE (exL xs L ts s) else 8) else opErr L ts s) else lE xs
def exR (xs : CL) (L : Int) (ts : List Int) (s : Int) : CL := if lE xs = 0 then (if opErr L ts s = 0 then (if allFit (exf xs L) = true then tL (exL xs L ts s) else []) else []) else []

theorem exR_ok (xs : CL) (L : Int) (ts : List Int) (s : Int) : okC (exR xs L ts s) := by
  unfold exR
  split
  · split
    · split
      · exact tL_ok _
      · exact okC_nil
    · exact okC_nil
  · exact okC_nil

theorem exf_len (xs : CL) (L : Int) : (exf xs L).length = (most L).toNat := tab_len _ _

theorem most_in {L : Int} (h : 2 ≤ L ∧ L ≤ 8) : 3 ≤ most L ∧ most L ≤ 255 := by
  have := P2_in h
  unfold most; omega

theorem fit_okL {ps : List IP} (h : allFit ps = true) : okL 16777216 ps := fun i => allFit_at h i

theorem exL_ok {xs : CL} {L : Int} {ts : List Int} {s : Int} (hL : 2 ≤ L ∧ L ≤ 8) (hf : allFit (exf xs L) = true) (h : pSt L ts s) : okL 4278190080 (exL xs L ts s) := okL_tab (by omega) fun i _ => by
  have hm := most_in hL
  have b := trV_in (a := i) (way := 1) (fit_okL hf) (sgL_ok h) (exf xs L).length
  have hl := exf_len xs L
  unfold exF
  omega

@[reducible] def sExc : Spec := { pats := [.dat (.sl C64), .dat Reg0, .dat I64], res := [{ own := some 48, t := .sl C64 }, { t := I64 }], pre := fun x => pLen (List.length (α := Int) x.2.1.2.1), f := fun x => (exR x.1 x.2.1.1 x.2.1.2.1 x.2.2.1, exE x.1 x.2.1.1 x.2.1.2.1 x.2.2.1, ()) }

/-- Excited -/
theorem h31n : Ok 18 sExc := by
  refine mk (ctr := [(43, sRecd), (44, sOpen), (46, sFull), (45, sFold), (30, sTold), (47, sSignsD), (48, sTurned)]) ⟨h91n, h83, h94, h92n, h93n, h95d, h96n, trivial⟩ (nt := 66) Tryd.func18 rfl rfl rfl rfl (by kernel_rfl) (by kernel_rfl) (fun x => [fun _ => { σ := Nat, pat := fun t => [sI 51 t] ++ rOwn 15 60015 69 PairT (tab (exF x.1 x.2.1.1 x.2.1.2.1 x.2.2.1) t), inv := fun t => t ≤ (most x.2.1.1).toNat, meas := fun t => (most x.2.1.1).toNat - t }]) ?_
  rintro ⟨(xs : CL), ⟨(L : Int), (ts : List Int), _⟩, (s : Int), _⟩ (hts : pLen ts.length)
  by_cases h : lE xs = 0
  · have hp := lP_okL h
    have hl := lP_len h
    have hl2 := (lE_ok h).2.1
    by_cases ho : opErr L ts s = 0
    · obtain ⟨hst, hs1⟩ := op_pSt hts ho
      have hL := (chk_zero hst.1).1
      have hm := most_in hL
      by_cases hf : allFit (exf xs L) = true
      · have u : exE xs L ts s = tE (exL xs L ts s) := by unfold exE; rw [if_pos h, if_pos ho, if_pos hf]
        have v : exR xs L ts s = tL (exL xs L ts s) := by unfold exR; rw [if_pos h, if_pos ho, if_pos hf]
        have w := (t_yes hf).2.symm
        have hfl := exf_len xs L
        have hsl := sgL_len L ts s
        have hx : flL (lP xs) (most L).toNat (lP xs).length = exf xs L := rfl
        have hsg : tab (sgI L ts s) (most L).toNat = sgL L ts s := rfl
        have hso := sgL_ok hst
        repeat' (intro hzz; (try (rename Two => hq; cases hq)); (try dsimp only at hzz); (try simp only [resTy, argTy, eqD, inR, big, wantOf, Bool.not_true, Bool.not_false, Bool.true_eq, decide_eq_true_eq, decide_eq_false_iff_not, Bool.not_eq_true', Bool.not_eq_false', Bool.and_eq_true, Prod.mk.injEq, and_true, true_and, Int.not_lt, Int.not_le, gt_iff_lt, ge_iff_le] at hzz); (try simp only [resTy, argTy, eqD, inR, big, wantOf, Bool.not_true, Bool.not_false, Bool.true_eq, decide_eq_true_eq, decide_eq_false_iff_not, Bool.not_eq_true', Bool.not_eq_false', Bool.and_eq_true, Prod.mk.injEq, and_true, true_and, Int.not_lt, Int.not_le, gt_iff_lt, ge_iff_le, h, ho, u, v, w, hx, hsg] at hzz); (try (first | contradiction | (exfalso; omega))); (try (revert hzz; intro _)))
        all_goals try (rename Unit => hq; clear hq)
        all_goals try ((with_reducible refine Held.mk ?_); (with_reducible (first | refine Frz.mk ?_ | refine And.intro (Frz.mk ?_) ?_ | refine And.intro ?_ (Frz.mk ?_))); repeat' first | exact True.intro | (change _ = _; with_reducible rfl) | refine And.intro ?_ ?_ | (with_reducible refine Frz.mk ?_))
        all_goals try (refine Held.mk ?_; (try dsimp only at *); (try simp only [resTy, argTy, eqD, inR, big, wantOf, Bool.not_true, Bool.not_false, Bool.true_eq, decide_eq_true_eq, decide_eq_false_iff_not, Bool.not_eq_true', Bool.not_eq_false', Bool.and_eq_true, Prod.mk.injEq, and_true, true_and, Int.not_lt, Int.not_le, gt_iff_lt, ge_iff_le] at *); (try simp only [resTy, argTy, eqD, inR, big, wantOf, Bool.not_true, Bool.not_false, Bool.true_eq, decide_eq_true_eq, decide_eq_false_iff_not, Bool.not_eq_true', Bool.not_eq_false', Bool.and_eq_true, Prod.mk.injEq, and_true, true_and, Int.not_lt, Int.not_le, gt_iff_lt, ge_iff_le, h, ho, u, v, w, hx, hsg] at *))
        all_goals try omega
        · exact ⟨(show (lP xs).length ≤ 1024 by omega), hp, (show 1 ≤ most L by omega), (show most L ≤ (2000000 : Int) by omega)⟩
        · 
          refine GHeld.mk ?_
          refine Exists.intro 0 ?_
          refine And.intro (Leaf.mk ?_) ?_
          · repeat' first | exact True.intro | refine And.intro ?_ ?_
            all_goals try ((change _ = _ <;> try dsimp only) <;> try with_reducible rfl)
            all_goals try omega
            all_goals (rfl)
          exact Nat.zero_le _
        · rename_i t ht hlt
          exact ⟨(show (exf xs L).length ≤ 1024 by omega), fit_okL hf, ⟨(show 1 ≤ (sgL L ts s).length by omega), (show (sgL L ts s).length ≤ 1024 by omega)⟩, hso, ⟨(show (0 : Int) ≤ (t : Int) by omega), (show (t : Int) ≤ 1024 by omega)⟩, .inl True.intro⟩
        · rename_i t ht hlt
          rw [tab_len]; show t + 1 ≤ 2147483648; omega
        · rename_i t ht hlt
          refine GHeld.mk ?_
          refine Exists.intro (t + 1) ?_
          refine And.intro (Leaf.mk ?_) ?_
          · repeat' first | exact True.intro | refine And.intro ?_ ?_
            all_goals try ((change _ = _ <;> try dsimp only) <;> try with_reducible rfl)
            all_goals try omega
            all_goals (rfl)
          exact ⟨by show t + 1 ≤ (most L).toNat; omega, by show (most L).toNat - (t + 1) < (most L).toNat - t; omega⟩
        · rename_i t ht hge
          rw [tab_len]; omega
        · rename_i t ht hge
          rw [show t = (most L).toNat by omega]
          exact ⟨rfl, rfl⟩
      · have hf : allFit (exf xs L) = false := by simpa using hf
        have u : exE xs L ts s = 8 := by unfold exE; rw [if_pos h, if_pos ho, hf]; rfl
        have v : exR xs L ts s = [] := by unfold exR; rw [if_pos h, if_pos ho, hf]; rfl
        have w := (t_no hf).2.symm
        have hfl := exf_len xs L
        have hx : flL (lP xs) (most L).toNat (lP xs).length = exf xs L := rfl
        repeat' (intro hzz; (try (rename Two => hq; cases hq)); (try dsimp only at hzz); (try simp only [resTy, argTy, eqD, inR, big, wantOf, Bool.not_true, Bool.not_false, Bool.true_eq, decide_eq_true_eq, decide_eq_false_iff_not, Bool.not_eq_true', Bool.not_eq_false', Bool.and_eq_true, Prod.mk.injEq, and_true, true_and, Int.not_lt, Int.not_le, gt_iff_lt, ge_iff_le] at hzz); (try simp only [resTy, argTy, eqD, inR, big, wantOf, Bool.not_true, Bool.not_false, Bool.true_eq, decide_eq_true_eq, decide_eq_false_iff_not, Bool.not_eq_true', Bool.not_eq_false', Bool.and_eq_true, Prod.mk.injEq, and_true, true_and, Int.not_lt, Int.not_le, gt_iff_lt, ge_iff_le, h, ho, u, v, w, hx] at hzz); (try (first | contradiction | (exfalso; omega))); (try (revert hzz; intro _)))
        all_goals try (rename Unit => hq; clear hq)
        all_goals try ((with_reducible refine Held.mk ?_); (with_reducible (first | refine Frz.mk ?_ | refine And.intro (Frz.mk ?_) ?_ | refine And.intro ?_ (Frz.mk ?_))); repeat' first | exact True.intro | (change _ = _; with_reducible rfl) | refine And.intro ?_ ?_ | (with_reducible refine Frz.mk ?_))
        all_goals try (refine Held.mk ?_; (try dsimp only at *); (try simp only [resTy, argTy, eqD, inR, big, wantOf, Bool.not_true, Bool.not_false, Bool.true_eq, decide_eq_true_eq, decide_eq_false_iff_not, Bool.not_eq_true', Bool.not_eq_false', Bool.and_eq_true, Prod.mk.injEq, and_true, true_and, Int.not_lt, Int.not_le, gt_iff_lt, ge_iff_le] at *); (try simp only [resTy, argTy, eqD, inR, big, wantOf, Bool.not_true, Bool.not_false, Bool.true_eq, decide_eq_true_eq, decide_eq_false_iff_not, Bool.not_eq_true', Bool.not_eq_false', Bool.and_eq_true, Prod.mk.injEq, and_true, true_and, Int.not_lt, Int.not_le, gt_iff_lt, ge_iff_le, h, ho, u, v, w, hx] at *))
        all_goals try omega
        exact ⟨(show (lP xs).length ≤ 1024 by omega), hp, (show 1 ≤ most L by omega), (show most L ≤ (2000000 : Int) by omega)⟩
    · have u : exE xs L ts s = opErr L ts s := by unfold exE; rw [if_pos h, if_neg ho]
      have v : exR xs L ts s = [] := by unfold exR; rw [if_pos h, if_neg ho]
      repeat' (intro hzz; (try (rename Two => hq; cases hq)); (try dsimp only at hzz); (try simp only [resTy, argTy, eqD, inR, big, wantOf, Bool.not_true, Bool.not_false, Bool.true_eq, decide_eq_true_eq, decide_eq_false_iff_not, Bool.not_eq_true', Bool.not_eq_false', Bool.and_eq_true, Prod.mk.injEq, and_true, true_and, Int.not_lt, Int.not_le, gt_iff_lt, ge_iff_le] at hzz); (try simp only [resTy, argTy, eqD, inR, big, wantOf, Bool.not_true, Bool.not_false, Bool.true_eq, decide_eq_true_eq, decide_eq_false_iff_not, Bool.not_eq_true', Bool.not_eq_false', Bool.and_eq_true, Prod.mk.injEq, and_true, true_and, Int.not_lt, Int.not_le, gt_iff_lt, ge_iff_le, h, u, v] at hzz); (try (first | contradiction | (exfalso; omega))); (try (revert hzz; intro _)))
      all_goals try (rename Unit => hq; clear hq)
      all_goals try ((with_reducible refine Held.mk ?_); (with_reducible (first | refine Frz.mk ?_ | refine And.intro (Frz.mk ?_) ?_ | refine And.intro ?_ (Frz.mk ?_))); repeat' first | exact True.intro | (change _ = _; with_reducible rfl) | refine And.intro ?_ ?_ | (with_reducible refine Frz.mk ?_))
      all_goals try (refine Held.mk ?_; (try dsimp only at *); (try simp only [resTy, argTy, eqD, inR, big, wantOf, Bool.not_true, Bool.not_false, Bool.true_eq, decide_eq_true_eq, decide_eq_false_iff_not, Bool.not_eq_true', Bool.not_eq_false', Bool.and_eq_true, Prod.mk.injEq, and_true, true_and, Int.not_lt, Int.not_le, gt_iff_lt, ge_iff_le] at *); (try simp only [resTy, argTy, eqD, inR, big, wantOf, Bool.not_true, Bool.not_false, Bool.true_eq, decide_eq_true_eq, decide_eq_false_iff_not, Bool.not_eq_true', Bool.not_eq_false', Bool.and_eq_true, Prod.mk.injEq, and_true, true_and, Int.not_lt, Int.not_le, gt_iff_lt, ge_iff_le, h, u, v] at *))
      all_goals try omega
  · have u : exE xs L ts s = lE xs := by unfold exE; rw [if_neg h]
    have v : exR xs L ts s = [] := by unfold exR; rw [if_neg h]
    repeat' (intro hzz; (try (rename Two => hq; cases hq)); (try dsimp only at hzz); (try simp only [resTy, argTy, eqD, inR, big, wantOf, Bool.not_true, Bool.not_false, Bool.true_eq, decide_eq_true_eq, decide_eq_false_iff_not, Bool.not_eq_true', Bool.not_eq_false', Bool.and_eq_true, Prod.mk.injEq, and_true, true_and, Int.not_lt, Int.not_le, gt_iff_lt, ge_iff_le] at hzz); (try simp only [resTy, argTy, eqD, inR, big, wantOf, Bool.not_true, Bool.not_false, Bool.true_eq, decide_eq_true_eq, decide_eq_false_iff_not, Bool.not_eq_true', Bool.not_eq_false', Bool.and_eq_true, Prod.mk.injEq, and_true, true_and, Int.not_lt, Int.not_le, gt_iff_lt, ge_iff_le, u, v] at hzz); (try (first | contradiction | (exfalso; omega))); (try (revert hzz; intro _)))
    all_goals try (rename Unit => hq; clear hq)
    all_goals try ((with_reducible refine Held.mk ?_); (with_reducible (first | refine Frz.mk ?_ | refine And.intro (Frz.mk ?_) ?_ | refine And.intro ?_ (Frz.mk ?_))); repeat' first | exact True.intro | (change _ = _; with_reducible rfl) | refine And.intro ?_ ?_ | (with_reducible refine Frz.mk ?_))
    all_goals try (refine Held.mk ?_; (try dsimp only at *); (try simp only [resTy, argTy, eqD, inR, big, wantOf, Bool.not_true, Bool.not_false, Bool.true_eq, decide_eq_true_eq, decide_eq_false_iff_not, Bool.not_eq_true', Bool.not_eq_false', Bool.and_eq_true, Prod.mk.injEq, and_true, true_and, Int.not_lt, Int.not_le, gt_iff_lt, ge_iff_le] at *); (try simp only [resTy, argTy, eqD, inR, big, wantOf, Bool.not_true, Bool.not_false, Bool.true_eq, decide_eq_true_eq, decide_eq_false_iff_not, Bool.not_eq_true', Bool.not_eq_false', Bool.and_eq_true, Prod.mk.injEq, and_true, true_and, Int.not_lt, Int.not_le, gt_iff_lt, ge_iff_le, u, v] at *))
    all_goals try omega

end Go.Eng.Pu

namespace Go.Eng.Pu
open Go.Eng Go.Proofs
set_option linter.all false
set_option maxRecDepth 100000
set_option maxHeartbeats 8000000

abbrev RawL := List (Nat × Nat × Unit)
def few (n : Nat) : Bool := decide (n ≤ 40) || (decide (1024 < n) && decide (n ≤ 1026))

theorem few_le {n : Nat} (h : few n = true) : n ≤ 1026 := by
  unfold few at h
  simp at h
  omega

@[reducible] def sFew : Spec := { pats := [.dat (.sl RawT)], res := [{ t := .bool }], pre := fun _ => True, f := fun x => (few (List.length (α := Nat × Nat × Unit) x.1), ()) }

theorem lsL_len (l : RawL) : (lsL l).length = l.length := tab_len _ _

theorem fdL_ok (xs : CL) (p : Int) : okC (fdL xs p) := by
  unfold fdL
  split
  · split
    · exact tL_ok _
    · exact okC_nil
  · exact okC_nil

theorem fdL_len {xs : CL} {p : Int} : (fdL xs p).length ≤ 1024 := by
  unfold fdL
  split
  · split
    · rename_i h1
      have a := tL_len (flL (lP xs) p.toNat (lP xs).length)
      have b : (flL (lP xs) p.toNat (lP xs).length).length = p.toNat := tab_len _ _
      omega
    · exact Nat.zero_le _
  · exact Nat.zero_le _

theorem exR_len {xs : CL} {L : Int} {ts : List Int} {s : Int} (hts : pLen ts.length) : (exR xs L ts s).length ≤ 1024 := by
  unfold exR
  split
  · split
    · rename_i ho
      split
      · have a := tL_len (exL xs L ts s)
        have b : (exL xs L ts s).length = (most L).toNat := tab_len _ _
        have c := most_in (chk_zero (op_pSt hts ho).1.1).1
        omega
      · exact Nat.zero_le _
    · exact Nat.zero_le _
  · exact Nat.zero_le _

abbrev StartT : Ty := .cons Reg0 (.cons I64 .nil)
@[reducible] def sLaw4 : Spec := { pats := [.dat (.sl RawT), .dat StartT, .dat I64], res := [{ t := .bool }], pre := fun _ => True, f := fun _ => (true, ()) }

end Go.Eng.Pu

namespace Go.Eng.Pu
open Go.Eng Go.Proofs
set_option linter.all false
set_option maxRecDepth 100000
set_option maxHeartbeats 8000000

@[reducible] def sLess : Spec := { pats := [.dat PairT, .dat PairT], res := [{ t := PairT }], pre := fun x => okI x.1.1 ∧ okI x.1.2.1 ∧ okI x.2.1.1 ∧ okI x.2.1.2.1, f := fun x => ((x.1.1 - x.2.1.1, x.1.2.1 - x.2.1.2.1, ()), ()) }

/-- pair.less -/
theorem h123 : Ok 40 sLess := by
  refine mk (ctr := []) trivial (nt := 16) Tryd.func40 rfl rfl rfl rfl (by kernel_rfl) (by kernel_rfl) (fun _ => []) ?_
  rintro ⟨⟨(a : Int), (b : Int), _⟩, ⟨(c : Int), (d : Int), _⟩, _⟩ ⟨(h1 : okI a), (h2 : okI b), (h3 : okI c), (h4 : okI d)⟩
  repeat' (intro hzz; (try (rename Two => hq; cases hq)); (try dsimp only at hzz); (try simp only [resTy, argTy, eqD, inR, big, wantOf, Bool.not_true, Bool.not_false, Bool.true_eq, decide_eq_true_eq, decide_eq_false_iff_not, Bool.not_eq_true', Bool.not_eq_false', Bool.and_eq_true, Prod.mk.injEq, and_true, true_and, Int.not_lt, Int.not_le, gt_iff_lt, ge_iff_le] at hzz); (try simp only [resTy, argTy, eqD, inR, big, wantOf, Bool.not_true, Bool.not_false, Bool.true_eq, decide_eq_true_eq, decide_eq_false_iff_not, Bool.not_eq_true', Bool.not_eq_false', Bool.and_eq_true, Prod.mk.injEq, and_true, true_and, Int.not_lt, Int.not_le, gt_iff_lt, ge_iff_le, okI] at hzz); (try (revert hzz; intro _)))
  all_goals try (rename Unit => hq; clear hq)
  all_goals try ((with_reducible refine Held.mk ?_); (with_reducible (first | refine Frz.mk ?_ | refine And.intro (Frz.mk ?_) ?_ | refine And.intro ?_ (Frz.mk ?_))); repeat' first | exact True.intro | (change _ = _; with_reducible rfl) | refine And.intro ?_ ?_ | (with_reducible refine Frz.mk ?_))
  all_goals try (refine Held.mk ?_; (try dsimp only at *); (try simp only [resTy, argTy, eqD, inR, big, wantOf, Bool.not_true, Bool.not_false, Bool.true_eq, decide_eq_true_eq, decide_eq_false_iff_not, Bool.not_eq_true', Bool.not_eq_false', Bool.and_eq_true, Prod.mk.injEq, and_true, true_and, Int.not_lt, Int.not_le, gt_iff_lt, ge_iff_le] at *); (try simp only [resTy, argTy, eqD, inR, big, wantOf, Bool.not_true, Bool.not_false, Bool.true_eq, decide_eq_true_eq, decide_eq_false_iff_not, Bool.not_eq_true', Bool.not_eq_false', Bool.and_eq_true, Prod.mk.injEq, and_true, true_and, Int.not_lt, Int.not_le, gt_iff_lt, ge_iff_le, okI] at *))
  all_goals try omega

@[reducible] def sRecdD : Spec := { pats := [.dat (.sl C64)], res := [{ t := .sl PairT }, { t := I64 }], pre := fun _ => True, f := fun x => (lP x.1, lE x.1, ()) }

/-- recorded, as data -/
theorem h91d : Ok 43 sRecdD := by
  refine mkN (X := x0) (hX := x0_ok) (ctr := [(64, sPartE)]) ⟨h147n, trivial⟩ (nt := 55) Tryd.func43 rfl rfl rfl rfl (by kernel_rfl) (by kernel_rfl) (fun x => [fun _ => { σ := Nat, pat := fun k => [sI 19 k] ++ rOwn 4 60004 69 PairT (tab (prF x.1) k), inv := fun k => k ≤ List.length (α := Nat × Nat) x.1 ∧ lF (List.drop (α := Nat × Nat) k x.1) = lF x.1, meas := fun k => List.length (α := Nat × Nat) x.1 - k }]) ?_
  rintro ⟨(xs : CL), _⟩ _
  repeat' (intro hzz; (try (rename Two => hq; cases hq)); (try dsimp only at hzz); (try simp only [resTy, argTy, eqD, inR, big, wantOf, Bool.not_true, Bool.not_false, Bool.true_eq, decide_eq_true_eq, decide_eq_false_iff_not, Bool.not_eq_true', Bool.not_eq_false', Bool.and_eq_true, Prod.mk.injEq, and_true, true_and, Int.not_lt, Int.not_le, gt_iff_lt, ge_iff_le] at hzz); (try simp only [resTy, argTy, eqD, inR, big, wantOf, Bool.not_true, Bool.not_false, Bool.true_eq, decide_eq_true_eq, decide_eq_false_iff_not, Bool.not_eq_true', Bool.not_eq_false', Bool.and_eq_true, Prod.mk.injEq, and_true, true_and, Int.not_lt, Int.not_le, gt_iff_lt, ge_iff_le, getD_c] at hzz); (try (first | contradiction | (exfalso; omega))); (try (revert hzz; intro _)))
  all_goals try (rename Unit => hq; clear hq)
  all_goals try ((with_reducible refine Held.mk ?_); (with_reducible (first | refine Frz.mk ?_ | refine And.intro (Frz.mk ?_) ?_ | refine And.intro ?_ (Frz.mk ?_))); repeat' first | exact True.intro | (change _ = _; with_reducible rfl) | refine And.intro ?_ ?_ | (with_reducible refine Frz.mk ?_))
  all_goals try (refine Held.mk ?_; (try dsimp only at *); (try simp only [resTy, argTy, eqD, inR, big, wantOf, Bool.not_true, Bool.not_false, Bool.true_eq, decide_eq_true_eq, decide_eq_false_iff_not, Bool.not_eq_true', Bool.not_eq_false', Bool.and_eq_true, Prod.mk.injEq, and_true, true_and, Int.not_lt, Int.not_le, gt_iff_lt, ge_iff_le] at *); (try simp only [resTy, argTy, eqD, inR, big, wantOf, Bool.not_true, Bool.not_false, Bool.true_eq, decide_eq_true_eq, decide_eq_false_iff_not, Bool.not_eq_true', Bool.not_eq_false', Bool.and_eq_true, Prod.mk.injEq, and_true, true_and, Int.not_lt, Int.not_le, gt_iff_lt, ge_iff_le, getD_c] at *))
  all_goals try omega
  · rename_i h
    exact lP_err (by unfold lE; rw [if_pos (by omega)]) (by decide)
  · rename_i h0 h
    exact lP_err (by unfold lE; rw [if_neg (by omega), if_pos (by omega)]) (by decide)
  · 
    refine GHeld.mk ?_
    refine Exists.intro 0 ?_
    refine And.intro (Leaf.mk ?_) ?_
    · repeat' first | exact True.intro | refine And.intro ?_ ?_
      all_goals try ((change _ = _ <;> try dsimp only) <;> try with_reducible rfl)
      all_goals try omega
      all_goals (rfl)
    exact ⟨Nat.zero_le _, rfl⟩
  · rename_i h0 h1 k hk hlt q1 q2
    exact lP_err (lE_err h0 h1 hk hlt (eE_a (.inr q2)) (by decide)) (by decide)
  · rename_i h0 h1 k hk hlt q1 q2 q3 q4
    exact lP_err (lE_err h0 h1 hk hlt (eE_b q1 q2 (.inr q4)) (by decide)) (by decide)
  · rename_i h0 h1 k hk hlt q1 q2 q3 q4
    rw [(pE_zero q3).2.2.2.2]; rfl
  · rename_i h0 h1 k hk hlt q1 q2 q3 q4
    rw [(pE_zero q4).2.2.2.2]; rfl
  · rename_i h0 h1 k hk hlt q1 q2 q3 q4
    rw [tab_len]; show k + 1 ≤ 2147483648; omega
  · rename_i h0 h1 k hk hlt q1 q2 q3 q4
    have hn := lE_next hk hlt (eE_c q3 q4)
    have e : tab (prF xs) k ++ [((floatToIntVal .f32 (xs.getD k (0, 0)).1 .i64).getD 0, (floatToIntVal .f32 (xs.getD k (0, 0)).2 .i64).getD 0, ())] = tab (prF xs) (k + 1) := by
      rw [(pE_zero q3).2.2.2.2, (pE_zero q4).2.2.2.2]; rfl
    refine GHeld.mk ?_
    refine Exists.intro (k + 1) ?_
    refine And.intro (Leaf.mk ?_) ?_
    · repeat' first | exact True.intro | refine And.intro ?_ ?_
      all_goals try ((change _ = _ <;> try dsimp only) <;> try with_reducible rfl)
      all_goals try omega
      all_goals (first | exact e | exact congrArg List.length e)
    exact ⟨hn, by show xs.length - (k + 1) < xs.length - k; omega⟩
  · rename_i h0 h1 k hk hlt q1 q2 q3
    exact lP_err (lE_err h0 h1 hk hlt (eE_b q1 q2 (.inl q3)) (by decide)) (by decide)
  · rename_i h0 h1 k hk hlt q1
    exact lP_err (lE_err h0 h1 hk hlt (eE_a (.inl q1)) (by decide)) (by decide)
  · rename_i h0 h1 k hk hge
    have h := lE_end h0 h1 hk hge
    refine ⟨?_, h⟩
    unfold lP
    rw [if_pos h.symm, show k = xs.length by omega]; rfl


def lessP (a b : IP) : IP := (a.1 - b.1, a.2.1 - b.2.1, ())

theorem flV1 (ps : List IP) (k : Nat) : flV ps 1 0 (k + 1) = plusP (flV ps 1 0 k) (ps.getD k (0, 0, ())) := by
  show (if 0 = k % 1 then _ else _) = _
  rw [if_pos (Nat.mod_one k).symm]

theorem tab_mem' {α : Type} {f : Nat → α} : ∀ {n : Nat} {x : α}, x ∈ tab f n → ∃ i, i < n ∧ f i = x
  | 0, x, h => by cases h
  | n + 1, x, h => by
    rcases List.mem_append.1 h with h | h
    · obtain ⟨i, hi, e⟩ := tab_mem' h
      exact ⟨i, by omega, e⟩
    · exact ⟨n, by omega, (List.mem_singleton.1 h).symm⟩

theorem mem_tab' {α : Type} {f : Nat → α} : ∀ {n i : Nat}, i < n → f i ∈ tab f n
  | n + 1, i, h => by
    by_cases hi : i = n
    · rw [hi]; exact List.mem_append_right _ (List.mem_singleton.2 rfl)
    · exact List.mem_append_left _ (mem_tab' (by omega))

theorem tmod_zero {a n : Int} (h : 0 < n) : a.tmod n = 0 ↔ a % n = 0 := by
  rw [← Int.dvd_iff_tmod_eq_zero, ← Int.dvd_iff_emod_eq_zero]

theorem tdiv_of {a n : Int} (h : a % n = 0) : a.tdiv n = a / n := Int.tdiv_eq_ediv_of_dvd (Int.dvd_of_emod_eq_zero h)

/-- The real or the imaginary parts. -/
def prtF (l : List IP) (i : Int) (k : Nat) : Int := if i = 0 then (l.getD k (0, 0, ())).1 else (l.getD k (0, 0, ())).2.1
def prtL (l : List IP) (i : Int) : List Int := tab (prtF l i) l.length

@[reducible] def sPrt : Spec := { pats := [.dat (.sl PairT), .dat I64], res := [{ own := some 3, t := .sl I64 }], pre := fun x => List.length (α := IP) x.1 ≤ 2000000000 ∧ (x.2.1 = (0 : Int) ∨ x.2.1 = (1 : Int)), f := fun x => (prtL x.1 x.2.1, ()) }

theorem prtL_len (l : List IP) (i : Int) : (prtL l i).length = l.length := tab_len _ _
theorem pLen2 : pLen 2 := by decide
@[reducible] def xU3 : Xt := { fuel := 3 }
theorem xU3_ok : Its xU3.its := True.intro
end Go.Eng.Pu

namespace Go.Eng.Pu
open Go.Eng Go.Proofs
set_option linter.all false
set_option maxRecDepth 100000

def inBP (B : Int) (a : IP) : Prop := (-B ≤ a.1 ∧ a.1 ≤ B) ∧ (-B ≤ a.2.1 ∧ a.2.1 ≤ B)

theorem okI_le {n B : Int} (h : -B ≤ n ∧ n ≤ B) (hB : B ≤ 4000000000000000000) : okI n := ⟨by omega, by omega⟩

theorem add_ok {a b A B : Int} (h1 : -A ≤ a ∧ a ≤ A) (h2 : -B ≤ b ∧ b ≤ B) (hB : A + B ≤ 9000000000000000000 := by decide) : -9223372036854775808 ≤ a + b ∧ a + b ≤ 9223372036854775807 := ⟨by omega, by omega⟩
theorem sub_ok {a b A B : Int} (h1 : -A ≤ a ∧ a ≤ A) (h2 : -B ≤ b ∧ b ≤ B) (hB : A + B ≤ 9000000000000000000 := by decide) : -9223372036854775808 ≤ a - b ∧ a - b ≤ 9223372036854775807 := ⟨by omega, by omega⟩

theorem okL_inBP {B : Int} {ps : List IP} (h : okL B ps) (i : Nat) : inBP B (ps.getD i (0, 0, ())) := h i

theorem plusP_in {A B : Int} {a b : IP} (ha : inBP A a) (hb : inBP B b) : inBP (A + B) (plusP a b) := by
  obtain ⟨a1, a2⟩ := ha
  obtain ⟨b1, b2⟩ := hb
  show (_ ≤ a.1 + b.1 ∧ a.1 + b.1 ≤ _) ∧ (_ ≤ a.2.1 + b.2.1 ∧ a.2.1 + b.2.1 ≤ _)
  omega

theorem inBP_mono {A B : Int} {a : IP} (h : inBP A a) (hAB : A ≤ B) : inBP B a := by
  obtain ⟨a1, a2⟩ := h
  exact ⟨⟨by omega, by omega⟩, ⟨by omega, by omega⟩⟩

theorem plusP_zero (a : IP) : plusP a (0, 0, ()) = a := by
  obtain ⟨x, y, u⟩ := a
  show (x + 0, y + 0, ()) = _
  rw [Int.add_zero, Int.add_zero]
theorem plusP_zero' (a : IP) : plusP (0, 0, ()) a = a := by
  obtain ⟨x, y, u⟩ := a
  show (0 + x, 0 + y, ()) = _
  rw [Int.zero_add, Int.zero_add]
theorem fits_of {p : IP} (h : inBP 16777216 p) : fits p = true := by
  show (fRec p.1 && fRec p.2.1) = true
  rw [show fRec p.1 = true from decide_eq_true h.1, show fRec p.2.1 = true from decide_eq_true h.2]; rfl


end Go.Eng.Pu

namespace Go.Eng.Pu
open Go.Eng Go.Proofs
set_option linter.all false
set_option maxRecDepth 100000
set_option maxHeartbeats 8000000

def timesP (a b : IP) : IP := (a.1 * b.1 - a.2.1 * b.2.1, a.1 * b.2.1 + a.2.1 * b.1, ())
def okT (a b : IP) : Prop := okI (a.1 * b.1) ∧ okI (a.2.1 * b.2.1) ∧ okI (a.1 * b.2.1) ∧ okI (a.2.1 * b.1)
theorem mul_in24 {a b : Int} (ha : -16777216 ≤ a ∧ a ≤ 16777216) (hb : -16777216 ≤ b ∧ b ≤ 16777216) : -281474976710656 ≤ a * b ∧ a * b ≤ 281474976710656 := by
  have h1 : a.natAbs ≤ 16777216 := by omega
  have h2 : b.natAbs ≤ 16777216 := by omega
  have h3 : (a * b).natAbs ≤ 16777216 * 16777216 := by rw [Int.natAbs_mul]; exact Nat.mul_le_mul h1 h2
  omega

theorem okT_24 {a b : IP} (ha : inBP 16777216 a) (hb : inBP 16777216 b) : okT a b := by
  have h1 := mul_in24 ha.1 hb.1
  have h2 := mul_in24 ha.2 hb.2
  have h3 := mul_in24 ha.1 hb.2
  have h4 := mul_in24 ha.2 hb.1
  exact ⟨by unfold okI; omega, by unfold okI; omega, by unfold okI; omega, by unfold okI; omega⟩

theorem timesP_in {a b : IP} (ha : inBP 16777216 a) (hb : inBP 16777216 b) : inBP 562949953421312 (timesP a b) := by
  have h1 := mul_in24 ha.1 hb.1
  have h2 := mul_in24 ha.2 hb.2
  have h3 := mul_in24 ha.1 hb.2
  have h4 := mul_in24 ha.2 hb.1
  show (-562949953421312 ≤ a.1 * b.1 - a.2.1 * b.2.1 ∧ a.1 * b.1 - a.2.1 * b.2.1 ≤ 562949953421312) ∧ (-562949953421312 ≤ a.1 * b.2.1 + a.2.1 * b.1 ∧ a.1 * b.2.1 + a.2.1 * b.1 ≤ 562949953421312)
  omega

@[reducible] def sTimes : Spec := { pats := [.dat PairT, .dat PairT], res := [{ t := PairT }], pre := fun x => okT x.1 x.2.1, f := fun x => (timesP x.1 x.2.1, ()) }

/-- pair.times -/
theorem h134 : Ok 38 sTimes := by
  refine mk (ctr := []) trivial (nt := 28) Tryd.func38 rfl rfl rfl rfl (by kernel_rfl) (by kernel_rfl) (fun _ => []) ?_
  rintro ⟨⟨(a : Int), (b : Int), _⟩, ⟨(c : Int), (d : Int), _⟩, _⟩ ⟨(h1 : okI (a * c)), (h2 : okI (b * d)), (h3 : okI (a * d)), (h4 : okI (b * c))⟩
  repeat' (intro hzz; (try (rename Two => hq; cases hq)); (try dsimp only at hzz); (try simp only [resTy, argTy, eqD, inR, big, wantOf, Bool.not_true, Bool.not_false, Bool.true_eq, decide_eq_true_eq, decide_eq_false_iff_not, Bool.not_eq_true', Bool.not_eq_false', Bool.and_eq_true, Prod.mk.injEq, and_true, true_and, Int.not_lt, Int.not_le, gt_iff_lt, ge_iff_le] at hzz); (try simp only [resTy, argTy, eqD, inR, big, wantOf, Bool.not_true, Bool.not_false, Bool.true_eq, decide_eq_true_eq, decide_eq_false_iff_not, Bool.not_eq_true', Bool.not_eq_false', Bool.and_eq_true, Prod.mk.injEq, and_true, true_and, Int.not_lt, Int.not_le, gt_iff_lt, ge_iff_le, okI] at hzz); (try (revert hzz; intro _)))
  all_goals try (rename Unit => hq; clear hq)
  all_goals try ((with_reducible refine Held.mk ?_); (with_reducible (first | refine Frz.mk ?_ | refine And.intro (Frz.mk ?_) ?_ | refine And.intro ?_ (Frz.mk ?_))); repeat' first | exact True.intro | (change _ = _; with_reducible rfl) | refine And.intro ?_ ?_ | (with_reducible refine Frz.mk ?_))
  all_goals try (refine Held.mk ?_; (try dsimp only at *); (try simp only [resTy, argTy, eqD, inR, big, wantOf, Bool.not_true, Bool.not_false, Bool.true_eq, decide_eq_true_eq, decide_eq_false_iff_not, Bool.not_eq_true', Bool.not_eq_false', Bool.and_eq_true, Prod.mk.injEq, and_true, true_and, Int.not_lt, Int.not_le, gt_iff_lt, ge_iff_le] at *); (try simp only [resTy, argTy, eqD, inR, big, wantOf, Bool.not_true, Bool.not_false, Bool.true_eq, decide_eq_true_eq, decide_eq_false_iff_not, Bool.not_eq_true', Bool.not_eq_false', Bool.and_eq_true, Prod.mk.injEq, and_true, true_and, Int.not_lt, Int.not_le, gt_iff_lt, ge_iff_le, okI] at *))
  all_goals try omega
  exact ⟨rfl, rfl⟩

/-- The error of two lists. -/
def twE (a b : CL) : Int := if lE a = 0 then lE b else lE a
def twL (a b : CL) : List IP := if lE a = 0 then lP b else []

@[reducible] def sTwoL : Spec := { pats := [.dat (.sl C64), .dat (.sl C64)], res := [{ t := .sl PairT }, { t := .sl PairT }, { t := I64 }], pre := fun _ => True, f := fun x => (lP x.1, twL x.1 x.2.1, twE x.1 x.2.1, ()) }

theorem lP_nil {xs : CL} (h : ¬ lE xs = 0) : lP xs = [] := by unfold lP; rw [if_neg h]

/-- two -/
theorem h133 : Ok 36 sTwoL := by
  refine mk (ctr := [(43, sRecdD)]) ⟨h91d, trivial⟩ (nt := 26) Tryd.func36 rfl rfl rfl rfl (by kernel_rfl) (by kernel_rfl) (fun _ => []) ?_
  rintro ⟨(a : CL), (b : CL), _⟩ _
  by_cases h : lE a = 0
  · have u : twE a b = lE b := by unfold twE; rw [if_pos h]
    have v : twL a b = lP b := by unfold twL; rw [if_pos h]
    repeat' (intro hzz; (try (rename Two => hq; cases hq)); (try dsimp only at hzz); (try simp only [resTy, argTy, eqD, inR, big, wantOf, Bool.not_true, Bool.not_false, Bool.true_eq, decide_eq_true_eq, decide_eq_false_iff_not, Bool.not_eq_true', Bool.not_eq_false', Bool.and_eq_true, Prod.mk.injEq, and_true, true_and, Int.not_lt, Int.not_le, gt_iff_lt, ge_iff_le] at hzz); (try simp only [resTy, argTy, eqD, inR, big, wantOf, Bool.not_true, Bool.not_false, Bool.true_eq, decide_eq_true_eq, decide_eq_false_iff_not, Bool.not_eq_true', Bool.not_eq_false', Bool.and_eq_true, Prod.mk.injEq, and_true, true_and, Int.not_lt, Int.not_le, gt_iff_lt, ge_iff_le, h, u, v] at hzz); (try (first | contradiction | (exfalso; omega))); (try (revert hzz; intro _)))
    all_goals try (rename Unit => hq; clear hq)
    all_goals try ((with_reducible refine Held.mk ?_); (with_reducible (first | refine Frz.mk ?_ | refine And.intro (Frz.mk ?_) ?_ | refine And.intro ?_ (Frz.mk ?_))); repeat' first | exact True.intro | (change _ = _; with_reducible rfl) | refine And.intro ?_ ?_ | (with_reducible refine Frz.mk ?_))
    all_goals try (refine Held.mk ?_; (try dsimp only at *); (try simp only [resTy, argTy, eqD, inR, big, wantOf, Bool.not_true, Bool.not_false, Bool.true_eq, decide_eq_true_eq, decide_eq_false_iff_not, Bool.not_eq_true', Bool.not_eq_false', Bool.and_eq_true, Prod.mk.injEq, and_true, true_and, Int.not_lt, Int.not_le, gt_iff_lt, ge_iff_le] at *); (try simp only [resTy, argTy, eqD, inR, big, wantOf, Bool.not_true, Bool.not_false, Bool.true_eq, decide_eq_true_eq, decide_eq_false_iff_not, Bool.not_eq_true', Bool.not_eq_false', Bool.and_eq_true, Prod.mk.injEq, and_true, true_and, Int.not_lt, Int.not_le, gt_iff_lt, ge_iff_le, h, u, v] at *))
    all_goals try omega
  · have u : twE a b = lE a := by unfold twE; rw [if_neg h]
    have v : twL a b = [] := by unfold twL; rw [if_neg h]
    have w := lP_nil h
    repeat' (intro hzz; (try (rename Two => hq; cases hq)); (try dsimp only at hzz); (try simp only [resTy, argTy, eqD, inR, big, wantOf, Bool.not_true, Bool.not_false, Bool.true_eq, decide_eq_true_eq, decide_eq_false_iff_not, Bool.not_eq_true', Bool.not_eq_false', Bool.and_eq_true, Prod.mk.injEq, and_true, true_and, Int.not_lt, Int.not_le, gt_iff_lt, ge_iff_le] at hzz); (try simp only [resTy, argTy, eqD, inR, big, wantOf, Bool.not_true, Bool.not_false, Bool.true_eq, decide_eq_true_eq, decide_eq_false_iff_not, Bool.not_eq_true', Bool.not_eq_false', Bool.and_eq_true, Prod.mk.injEq, and_true, true_and, Int.not_lt, Int.not_le, gt_iff_lt, ge_iff_le, u, v, w] at hzz); (try (first | contradiction | (exfalso; omega))); (try (revert hzz; intro _)))
    all_goals try (rename Unit => hq; clear hq)
    all_goals try ((with_reducible refine Held.mk ?_); (with_reducible (first | refine Frz.mk ?_ | refine And.intro (Frz.mk ?_) ?_ | refine And.intro ?_ (Frz.mk ?_))); repeat' first | exact True.intro | (change _ = _; with_reducible rfl) | refine And.intro ?_ ?_ | (with_reducible refine Frz.mk ?_))
    all_goals try (refine Held.mk ?_; (try dsimp only at *); (try simp only [resTy, argTy, eqD, inR, big, wantOf, Bool.not_true, Bool.not_false, Bool.true_eq, decide_eq_true_eq, decide_eq_false_iff_not, Bool.not_eq_true', Bool.not_eq_false', Bool.and_eq_true, Prod.mk.injEq, and_true, true_and, Int.not_lt, Int.not_le, gt_iff_lt, ge_iff_le] at *); (try simp only [resTy, argTy, eqD, inR, big, wantOf, Bool.not_true, Bool.not_false, Bool.true_eq, decide_eq_true_eq, decide_eq_false_iff_not, Bool.not_eq_true', Bool.not_eq_false', Bool.and_eq_true, Prod.mk.injEq, and_true, true_and, Int.not_lt, Int.not_le, gt_iff_lt, ge_iff_le, u, v, w] at *))
    all_goals try omega

@[reducible] def sBothE : Spec := { pats := [.dat (.sl C64), .dat (.sl C64)], res := [{ t := I64 }], pre := fun _ => True, f := fun x => (twE x.1 x.2.1, ()) }

/-! ### Swept -/

abbrev zP : IP := (0, 0, ())
/-- The sum of the products of the first numbers of a list with those of another one, at a place. -/
def swV (ps qs : List IP) (j : Nat) : Nat → IP
  | 0 => (0, 0, ())
  | m + 1 => if m ≤ j ∧ j - m < qs.length then plusP (swV ps qs j m) (timesP (ps.getD m (0, 0, ())) (qs.getD (j - m) (0, 0, ()))) else swV ps qs j m
/-- The rows when the loops have come to i and k. -/
def swG (ps qs : List IP) (i k j : Nat) : IP := if i ≤ j ∧ j - i < k then plusP (swV ps qs j i) (timesP (ps.getD i (0, 0, ())) (qs.getD (j - i) (0, 0, ()))) else swV ps qs j i
def swN (ps qs : List IP) : Nat := ps.length + qs.length - 1
def swL (ps qs : List IP) : List IP := tab (fun j => swV ps qs j ps.length) (swN ps qs)

theorem swG_zero (ps qs : List IP) (n : Nat) : repl (n : Int) (0, 0, ()) = tab (swG ps qs 0 0) n := by
  rw [repl_tab]
  refine tab_congr n fun i _ => ?_
  unfold swG
  rw [if_neg (by omega)]; rfl
theorem swG_step {ps qs : List IP} {i k n : Nat} (h : i + k < n) : (tab (swG ps qs i k) n).set (i + k) (plusP ((tab (swG ps qs i k) n).getD (i + k) (0, 0, ())) (timesP (ps.getD i (0, 0, ())) (qs.getD k (0, 0, ())))) = tab (swG ps qs i (k + 1)) n := by
  rw [tab_set, tab_get _ _ _ _ h]
  refine tab_congr n fun j _ => ?_
  unfold swG
  by_cases hj : j = i + k
  · subst hj
    rw [if_pos rfl, if_neg (by omega), if_pos (by omega), Nat.add_sub_cancel_left]
  · rw [if_neg hj]
    by_cases h2 : i ≤ j ∧ j - i < k
    · rw [if_pos h2, if_pos (by omega)]
    · rw [if_neg h2, if_neg (by omega)]
theorem swG_next (ps qs : List IP) (i n : Nat) : tab (swG ps qs i qs.length) n = tab (swG ps qs (i + 1) 0) n := tab_congr n fun j _ => by
  unfold swG
  rw [if_neg (show ¬ (i + 1 ≤ j ∧ j - (i + 1) < 0) by omega)]
  rfl
theorem swG_all (ps qs : List IP) : tab (swG ps qs ps.length 0) (swN ps qs) = swL ps qs := tab_congr _ fun j _ => by
  unfold swG
  rw [if_neg (by omega)]

theorem swV_in {ps qs : List IP} (ha : okL 16777216 ps) (hb : okL 16777216 qs) (j : Nat) : ∀ m : Nat, inBP (m * 562949953421312) (swV ps qs j m)
  | 0 => by show (_ ≤ (0 : Int) ∧ (0 : Int) ≤ _) ∧ (_ ≤ (0 : Int) ∧ (0 : Int) ≤ _); omega
  | m + 1 => by
    have ih := swV_in ha hb j m
    have e : swV ps qs j (m + 1) = if m ≤ j ∧ j - m < qs.length then plusP (swV ps qs j m) (timesP (ps.getD m (0, 0, ())) (qs.getD (j - m) (0, 0, ()))) else swV ps qs j m := rfl
    rw [e]
    split
    · have := plusP_in ih (timesP_in (okL_inBP ha m) (okL_inBP hb (j - m)))
      rw [show ((m + 1 : Nat) : Int) * 562949953421312 = (m : Int) * 562949953421312 + 562949953421312 by omega]
      exact this
    · obtain ⟨a1, a2⟩ := ih
      exact ⟨⟨by omega, by omega⟩, ⟨by omega, by omega⟩⟩

theorem swG_in {ps qs : List IP} (ha : okL 16777216 ps) (hb : okL 16777216 qs) {i k : Nat} (hi : i ≤ 1024) (j : Nat) : inBP 577023702256844800 (swG ps qs i k j) := by
  have ih := swV_in ha hb j i
  unfold swG
  split
  · exact inBP_mono (plusP_in ih (timesP_in (okL_inBP ha i) (okL_inBP hb (j - i)))) (by omega)
  · exact inBP_mono ih (by omega)

theorem swG_ok {ps qs : List IP} (ha : okL 16777216 ps) (hb : okL 16777216 qs) {i k n : Nat} (hi : i ≤ 1024) : okL 577023702256844800 (tab (swG ps qs i k) n) := okL_tab (by omega) fun j _ => swG_in ha hb hi j

/-- The error and the result of a sweep. -/
def swE (a b : CL) : Int := if twE a b = 0 then (if 1024 < swN (lP a) (lP b) then 8 else tE (swL (lP a) (lP b))) else twE a b
def swR (a b : CL) : CL := if twE a b = 0 then (if 1024 < swN (lP a) (lP b) then [] else tL (swL (lP a) (lP b))) else []

@[reducible] def sSwept : Spec := { pats := [.dat (.sl C64), .dat (.sl C64)], res := [{ own := some 48, t := .sl C64 }, { t := I64 }], pre := fun _ => True, f := fun x => (swR x.1 x.2.1, swE x.1 x.2.1, ()) }

theorem twE_zero {a b : CL} (h : twE a b = 0) : lE a = 0 ∧ lE b = 0 := by
  unfold twE at h
  split at h
  · rename_i h1; exact ⟨h1, h⟩
  · rename_i h1; exact absurd h h1

/-- Swept -/
theorem h72 : Ok 15 sSwept := by
  refine mk (ctr := [(36, sTwoL), (38, sTimes), (37, sPlus), (30, sTold)]) ⟨h133, h134, h122, h93n, trivial⟩ (nt := 70) Tryd.func15 rfl rfl rfl rfl (by kernel_rfl) (by kernel_rfl) (fun x => [fun _ => { σ := Nat, pat := fun i => [sI 37 i] ++ rOwn 10 34 69 PairT (tab (swG (lP x.1) (lP x.2.1) i 0) (swN (lP x.1) (lP x.2.1))), inv := fun i => i ≤ List.length (α := IP) (lP x.1), meas := fun i => List.length (α := IP) (lP x.1) - i }, fun st => withI 37 st fun i => { σ := Nat, pat := fun k => [sI 44 k] ++ rOwn 10 34 69 PairT (tab (swG (lP x.1) (lP x.2.1) i.toNat k) (swN (lP x.1) (lP x.2.1))), inv := fun k => k ≤ List.length (α := IP) (lP x.2.1), meas := fun k => List.length (α := IP) (lP x.2.1) - k }]) ?_
  rintro ⟨(a : CL), (b : CL), _⟩ _
  by_cases h : twE a b = 0
  · obtain ⟨ha, hb⟩ := twE_zero h
    have hla := lP_len ha
    have hlb := lP_len hb
    have hla2 := lE_ok ha
    have hlb2 := lE_ok hb
    have hoa := lP_okL ha
    have hob := lP_okL hb
    have ht : twL a b = lP b := by unfold twL; rw [if_pos ha]
    have hN : ((lP a).length : Int) + ((lP b).length : Int) - 1 = (swN (lP a) (lP b) : Nat) := by unfold swN; omega
    have hNl : swN (lP a) (lP b) = (lP a).length + (lP b).length - 1 := rfl
    by_cases hn : 1024 < swN (lP a) (lP b)
    · have u : swE a b = 8 := by unfold swE; rw [if_pos h, if_pos hn]
      have v : swR a b = [] := by unfold swR; rw [if_pos h, if_pos hn]
      repeat' (intro hzz; (try (rename Two => hq; cases hq)); (try dsimp only at hzz); (try simp only [resTy, argTy, eqD, inR, big, wantOf, Bool.not_true, Bool.not_false, Bool.true_eq, decide_eq_true_eq, decide_eq_false_iff_not, Bool.not_eq_true', Bool.not_eq_false', Bool.and_eq_true, Prod.mk.injEq, and_true, true_and, Int.not_lt, Int.not_le, gt_iff_lt, ge_iff_le] at hzz); (try simp only [resTy, argTy, eqD, inR, big, wantOf, Bool.not_true, Bool.not_false, Bool.true_eq, decide_eq_true_eq, decide_eq_false_iff_not, Bool.not_eq_true', Bool.not_eq_false', Bool.and_eq_true, Prod.mk.injEq, and_true, true_and, Int.not_lt, Int.not_le, gt_iff_lt, ge_iff_le, h, ht, hN, u, v] at hzz); (try (first | contradiction | (exfalso; omega))); (try (revert hzz; intro _)))
      all_goals try (rename Unit => hq; clear hq)
      all_goals try ((with_reducible refine Held.mk ?_); (with_reducible (first | refine Frz.mk ?_ | refine And.intro (Frz.mk ?_) ?_ | refine And.intro ?_ (Frz.mk ?_))); repeat' first | exact True.intro | (change _ = _; with_reducible rfl) | refine And.intro ?_ ?_ | (with_reducible refine Frz.mk ?_))
      all_goals try (refine Held.mk ?_; (try dsimp only at *); (try simp only [resTy, argTy, eqD, inR, big, wantOf, Bool.not_true, Bool.not_false, Bool.true_eq, decide_eq_true_eq, decide_eq_false_iff_not, Bool.not_eq_true', Bool.not_eq_false', Bool.and_eq_true, Prod.mk.injEq, and_true, true_and, Int.not_lt, Int.not_le, gt_iff_lt, ge_iff_le] at *); (try simp only [resTy, argTy, eqD, inR, big, wantOf, Bool.not_true, Bool.not_false, Bool.true_eq, decide_eq_true_eq, decide_eq_false_iff_not, Bool.not_eq_true', Bool.not_eq_false', Bool.and_eq_true, Prod.mk.injEq, and_true, true_and, Int.not_lt, Int.not_le, gt_iff_lt, ge_iff_le, h, ht, hN, u, v] at *))
      all_goals try omega
    · have u : swE a b = tE (swL (lP a) (lP b)) := by unfold swE; rw [if_pos h, if_neg hn]
      have v : swR a b = tL (swL (lP a) (lP b)) := by unfold swR; rw [if_pos h, if_neg hn]
      have hik : ∀ i k : Nat, ((i : Int) + (k : Int)).toNat = i + k := fun i k => by omega
      have e0 : repl (((lP a).length : Int) + ((twL a b).length : Int) - 1) ((0 : Int), (0 : Int), ()) = tab (swG (lP a) (lP b) 0 0) (swN (lP a) (lP b)) := by rw [ht, hN]; exact swG_zero _ _ _
      have e1 : (repl (((lP a).length : Int) + ((twL a b).length : Int) - 1) ((0 : Int), (0 : Int), ())).length = swN (lP a) (lP b) := by rw [e0]; exact tab_len _ _
      have hso := fun (i k : Nat) (hi : i ≤ 1024) => swG_ok (i := i) (k := k) (n := swN (lP a) (lP b)) hoa hob hi
      repeat' (intro hzz; (try (rename Two => hq; cases hq)); (try dsimp only at hzz); (try simp only [resTy, argTy, eqD, inR, big, wantOf, Bool.not_true, Bool.not_false, Bool.true_eq, decide_eq_true_eq, decide_eq_false_iff_not, Bool.not_eq_true', Bool.not_eq_false', Bool.and_eq_true, Prod.mk.injEq, and_true, true_and, Int.not_lt, Int.not_le, gt_iff_lt, ge_iff_le] at hzz); (try simp only [resTy, argTy, eqD, inR, big, wantOf, Bool.not_true, Bool.not_false, Bool.true_eq, decide_eq_true_eq, decide_eq_false_iff_not, Bool.not_eq_true', Bool.not_eq_false', Bool.and_eq_true, Prod.mk.injEq, and_true, true_and, Int.not_lt, Int.not_le, gt_iff_lt, ge_iff_le, h, ht, hN, u, v, tab_len, getD_p, hik, Int.toNat_natCast] at hzz); (try (first | contradiction | (exfalso; omega))); (try (revert hzz; intro _)))
      all_goals try (rename Unit => hq; clear hq)
      all_goals try ((with_reducible refine Held.mk ?_); (with_reducible (first | refine Frz.mk ?_ | refine And.intro (Frz.mk ?_) ?_ | refine And.intro ?_ (Frz.mk ?_))); repeat' first | exact True.intro | (change _ = _; with_reducible rfl) | refine And.intro ?_ ?_ | (with_reducible refine Frz.mk ?_))
      all_goals try (refine Held.mk ?_; (try dsimp only at *); (try simp only [resTy, argTy, eqD, inR, big, wantOf, Bool.not_true, Bool.not_false, Bool.true_eq, decide_eq_true_eq, decide_eq_false_iff_not, Bool.not_eq_true', Bool.not_eq_false', Bool.and_eq_true, Prod.mk.injEq, and_true, true_and, Int.not_lt, Int.not_le, gt_iff_lt, ge_iff_le] at *); (try simp only [resTy, argTy, eqD, inR, big, wantOf, Bool.not_true, Bool.not_false, Bool.true_eq, decide_eq_true_eq, decide_eq_false_iff_not, Bool.not_eq_true', Bool.not_eq_false', Bool.and_eq_true, Prod.mk.injEq, and_true, true_and, Int.not_lt, Int.not_le, gt_iff_lt, ge_iff_le, h, ht, hN, u, v, tab_len, getD_p, hik, Int.toNat_natCast] at *))
      all_goals try omega
      · 
        refine GHeld.mk ?_
        refine Exists.intro 0 ?_
        refine And.intro (Leaf.mk ?_) ?_
        · repeat' first | exact True.intro | refine And.intro ?_ ?_
          all_goals try ((change _ = _ <;> try dsimp only) <;> try with_reducible rfl)
          all_goals try omega
          all_goals (first | exact e0 | exact congrArg List.length e0)
        exact Nat.zero_le _
      · rename_i i hi hlt
        refine GHeld.mk ?_
        refine Exists.intro 0 ?_
        refine And.intro (Leaf.mk ?_) ?_
        · repeat' first | exact True.intro | refine And.intro ?_ ?_
          all_goals try ((change _ = _ <;> try dsimp only) <;> try with_reducible rfl)
          all_goals try omega
          all_goals (rfl)
        exact Nat.zero_le _
      · rename_i i hi hlt k hk hlk
        exact okT_24 (okL_inBP hoa i) (okL_inBP hob k)
      · rename_i i hi hlt k hk hlk
        have b1 := hso i k (by omega) (i + k)
        have b2 := timesP_in (okL_inBP hoa i) (okL_inBP hob k)
        exact ⟨by show okI ((tab (swG (lP a) (lP b) i k) (swN (lP a) (lP b))).getD (i + k) (0, 0, ())).1; unfold okI; omega, by show okI ((tab (swG (lP a) (lP b) i k) (swN (lP a) (lP b))).getD (i + k) (0, 0, ())).2.1; unfold okI; omega, okI_le b2.1 (by decide), okI_le b2.2 (by decide)⟩
      · rename_i i hi hlt k hk hlk
        have e : (tab (swG (lP a) (lP b) i k) (swN (lP a) (lP b))).set ((i : Int) + (k : Int)).toNat (plusP ((tab (swG (lP a) (lP b) i k) (swN (lP a) (lP b))).getD ((i : Int) + (k : Int)).toNat (0, 0, ())) (timesP ((lP a).getD i (0, 0, ())) ((twL a b).getD k (0, 0, ())))) = tab (swG (lP a) (lP b) i (k + 1)) (swN (lP a) (lP b)) := by
          rw [show twL a b = lP b by unfold twL; rw [if_pos ha], show ((i : Int) + (k : Int)).toNat = i + k by omega]
          exact swG_step (by omega)
        refine GHeld.mk ?_
        refine Exists.intro (k + 1) ?_
        refine And.intro (Leaf.mk ?_) ?_
        · repeat' first | exact True.intro | refine And.intro ?_ ?_
          all_goals try ((change _ = _ <;> try dsimp only) <;> try with_reducible rfl)
          all_goals try omega
          all_goals (first | exact e | exact (tab_len _ _).trans (tab_len _ _).symm | rfl)
        exact ⟨by show k + 1 ≤ (lP b).length; omega, by show (lP b).length - (k + 1) < (lP b).length - k; omega⟩
      · rename_i i hi hlt k hk hge
        have e : tab (swG (lP a) (lP b) i k) (swN (lP a) (lP b)) = tab (swG (lP a) (lP b) (i + 1) 0) (swN (lP a) (lP b)) := by
          rw [show k = (lP b).length by omega]; exact swG_next _ _ _ _
        refine GHeld.mk ?_
        refine Exists.intro (i + 1) ?_
        refine And.intro (Leaf.mk ?_) ?_
        · repeat' first | exact True.intro | refine And.intro ?_ ?_
          all_goals try ((change _ = _ <;> try dsimp only) <;> try with_reducible rfl)
          all_goals try omega
          all_goals (first | exact e | exact congrArg List.length e | rfl)
        exact ⟨by show i + 1 ≤ (lP a).length; omega, by show (lP a).length - (i + 1) < (lP a).length - i; omega⟩
      · rename_i i hi hge
        exact e1.trans (tab_len _ _).symm
      · rename_i i hi hge
        rw [show i = (lP a).length by omega, swG_all]; exact ⟨rfl, rfl⟩
  · have u : swE a b = twE a b := by unfold swE; rw [if_neg h]
    have v : swR a b = [] := by unfold swR; rw [if_neg h]
    repeat' (intro hzz; (try (rename Two => hq; cases hq)); (try dsimp only at hzz); (try simp only [resTy, argTy, eqD, inR, big, wantOf, Bool.not_true, Bool.not_false, Bool.true_eq, decide_eq_true_eq, decide_eq_false_iff_not, Bool.not_eq_true', Bool.not_eq_false', Bool.and_eq_true, Prod.mk.injEq, and_true, true_and, Int.not_lt, Int.not_le, gt_iff_lt, ge_iff_le] at hzz); (try simp only [resTy, argTy, eqD, inR, big, wantOf, Bool.not_true, Bool.not_false, Bool.true_eq, decide_eq_true_eq, decide_eq_false_iff_not, Bool.not_eq_true', Bool.not_eq_false', Bool.and_eq_true, Prod.mk.injEq, and_true, true_and, Int.not_lt, Int.not_le, gt_iff_lt, ge_iff_le, u, v] at hzz); (try (first | contradiction | (exfalso; omega))); (try (revert hzz; intro _)))
    all_goals try (rename Unit => hq; clear hq)
    all_goals try ((with_reducible refine Held.mk ?_); (with_reducible (first | refine Frz.mk ?_ | refine And.intro (Frz.mk ?_) ?_ | refine And.intro ?_ (Frz.mk ?_))); repeat' first | exact True.intro | (change _ = _; with_reducible rfl) | refine And.intro ?_ ?_ | (with_reducible refine Frz.mk ?_))
    all_goals try (refine Held.mk ?_; (try dsimp only at *); (try simp only [resTy, argTy, eqD, inR, big, wantOf, Bool.not_true, Bool.not_false, Bool.true_eq, decide_eq_true_eq, decide_eq_false_iff_not, Bool.not_eq_true', Bool.not_eq_false', Bool.and_eq_true, Prod.mk.injEq, and_true, true_and, Int.not_lt, Int.not_le, gt_iff_lt, ge_iff_le] at *); (try simp only [resTy, argTy, eqD, inR, big, wantOf, Bool.not_true, Bool.not_false, Bool.true_eq, decide_eq_true_eq, decide_eq_false_iff_not, Bool.not_eq_true', Bool.not_eq_false', Bool.and_eq_true, Prod.mk.injEq, and_true, true_and, Int.not_lt, Int.not_le, gt_iff_lt, ge_iff_le, u, v] at *))
    all_goals try omega

end Go.Eng.Pu
