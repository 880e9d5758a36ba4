/- Contracts: recordings unfolded by transforms, the reference's; the law PulseOtherWay. Conditions: each contract's own. -/
import Derived.Test.YtcoimlnplaidiaaQ55
import Derived.Test.YtcoimlnplaidiaaQ10A
namespace Go.Eng.Pu
open Go.Eng Go.Proofs
set_option linter.all false
set_option maxRecDepth 100000
set_option maxHeartbeats 8000000

/-- The rows of parts when the loops have come to i and k. -/
def oG (f g : Nat → Int) (i : Int) (k j : Nat) : IP := if i = 0 then (if j < k then f j else 0, 0, ()) else (f j, if j < k then g j else 0, ())


theorem uwL_ok {p w n : Int} (hp : 2 ≤ p) (hp2 : p ≤ 2147483647) (ps : List IP) (sg : List Int) : okL 4000000000000000000 (uwL p w n ps sg) := okL_tab (by decide) fun i _ => by
  have h : ∀ xs bs : List Int, -2147483647 ≤ uiF p w n xs bs i ∧ uiF p w n xs bs i ≤ 2147483647 := fun xs bs => by
    have := backF_in (w := w) (n := n) hp (quL p w xs bs) i
    unfold uiF hfc
    split <;> omega
  have a := h (prtL ps 0) (dftL p w sg)
  have b := h (prtL ps 1) (dftL p w sg)
  show (_ ≤ uiF p w n (prtL ps 0) (dftL p w sg) i ∧ uiF p w n (prtL ps 0) (dftL p w sg) i ≤ _) ∧ (_ ≤ uiF p w n (prtL ps 1) (dftL p w sg) i ∧ uiF p w n (prtL ps 1) (dftL p w sg) i ≤ _)
  omega

theorem oG0 (f g : Nat → Int) (k j : Nat) : oG f g 0 k j = (if j < k then f j else 0, 0, ()) := rfl
theorem oG1 (f g : Nat → Int) (k j : Nat) : oG f g 1 k j = (f j, if j < k then g j else 0, ()) := rfl
theorem oG_set0 {f g : Nat → Int} {n k : Nat} {v : Int} (hk : k < n) (hv : v = f k) : (tab (oG f g 0 k) n).set k (v, ((tab (oG f g 0 k) n).getD k (0, 0, ())).2) = tab (oG f g 0 (k + 1)) n := by
  rw [tab_set, tab_get _ _ _ _ hk, hv]
  refine tab_congr n fun i _ => ?_
  rw [oG0, oG0, oG0]
  by_cases h : i = k
  · subst h; rw [if_pos rfl]
    show (f i, (0 : Int), ()) = (if i < i + 1 then f i else 0, (0 : Int), ())
    rw [if_pos (by omega)]
  · rw [if_neg h]
    by_cases h2 : i < k
    · rw [if_pos h2, if_pos (by omega)]
    · rw [if_neg h2, if_neg (by omega)]
theorem oG_set1 {f g : Nat → Int} {n k : Nat} {v : Int} (hk : k < n) (hv : v = g k) : (tab (oG f g 1 k) n).set k (((tab (oG f g 1 k) n).getD k (0, 0, ())).1, v, ((tab (oG f g 1 k) n).getD k (0, 0, ())).2.2) = tab (oG f g 1 (k + 1)) n := by
  rw [tab_set, tab_get _ _ _ _ hk, hv]
  refine tab_congr n fun i _ => ?_
  rw [oG1, oG1, oG1]
  by_cases h : i = k
  · subst h; rw [if_pos rfl]
    show (f i, g i, ()) = (f i, if i < i + 1 then g i else 0, ())
    rw [if_pos (by omega)]
  · rw [if_neg h]
    by_cases h2 : i < k
    · rw [if_pos h2, if_pos (by omega)]
    · rw [if_neg h2, if_neg (by omega)]
theorem oG_zero (f g : Nat → Int) (n : Nat) : repl (n : Int) (0, 0, ()) = tab (oG f g 0 0) n := by
  rw [repl_tab]
  refine tab_congr n fun i _ => ?_
  rw [oG0, if_neg (by omega)]
theorem oG_next (f g : Nat → Int) (n : Nat) : tab (oG f g 0 n) n = tab (oG f g 1 0) n := tab_congr n fun i hi => by
  rw [oG0, oG1, if_pos hi, if_neg (by omega)]
theorem oG_all (f g : Nat → Int) (n : Nat) : tab (oG f g 1 n) n = tab (fun i => (f i, g i, ())) n := tab_congr n fun i hi => by
  rw [oG1, if_pos hi]

theorem dftL_nn {p : Int} (hp : 2 ≤ p) (w : Int) (xs : List Int) (k : Nat) : 0 ≤ (dftL p w xs).getD k 0 := by
  by_cases hk : k < xs.length
  · unfold dftL
    rw [tab_get _ _ _ _ hk]
    exact (dft_in hp w (at0 xs) xs.length k).1
  · simp only [List.getD]
    rw [List.getElem?_eq_none (by rw [dftL_len]; omega)]
    exact Int.le_refl 0

theorem getD_setI {xs : List Int} {j : Nat} {v : Int} (h : j < xs.length) : (xs.set j v).getD j 0 = v := by
  simp only [List.getD, List.getElem?_set_self h, Option.getD_some]

/-- ref.UnfoldedIn -/
theorem h71 : Ok 71 sUwI := by
  refine mkU (X := xU3) (unr := [0]) (hX := xU3_ok) (ctr := [(76, sListE), (23, sStartR), (46, sCField), (64, sRIsMax), (68, sMost), (51, sRSigns), (39, sRTrf), (99, sPairs), (125, sPrt), (107, sRInv), (40, sRBk), (97, sToldR)]) ⟨h76n, h23, h46, h64, h68, h51, h39, h99n, h125, h107, h40, h97n, trivial⟩ (nt := 134) Try.func71 rfl rfl rfl rfl (by kernel_rfl) (by kernel_rfl) (fun x => [fun _ => { σ := Nat, pat := fun _ => [], inv := fun _ => True, meas := fun _ => 0 }, fun st => withI 14 st fun i => { σ := Nat, pat := fun k => [sI 16 k, .row 71 3 I64 (mixT (quF x.2.2.1.1 x.2.2.1.2.1 (prtL (lP x.1) i) (dftL x.2.2.1.1 x.2.2.1.2.1 (sgL x.2.1.1.1 x.2.1.1.2.1 x.2.1.2.1))) (dft x.2.2.1.1 x.2.2.1.2.1 (at0 (prtL (lP x.1) i)) (List.length (α := IP) (lP x.1))) (List.length (α := IP) (lP x.1)) k)], inv := fun k => k ≤ List.length (α := IP) (lP x.1), meas := fun k => List.length (α := IP) (lP x.1) - k }, fun st => withI 14 st fun i => { σ := Nat, pat := fun k => [sI 17 k, .row 97 3 I64 (mixT (uiF x.2.2.1.1 x.2.2.1.2.1 x.2.2.1.2.2.1 (prtL (lP x.1) i) (dftL x.2.2.1.1 x.2.2.1.2.1 (sgL x.2.1.1.1 x.2.1.1.2.1 x.2.1.2.1))) (backF x.2.2.1.1 x.2.2.1.2.1 x.2.2.1.2.2.1 (quL x.2.2.1.1 x.2.2.1.2.1 (prtL (lP x.1) i) (dftL x.2.2.1.1 x.2.2.1.2.1 (sgL x.2.1.1.1 x.2.1.1.2.1 x.2.1.2.1)))) (List.length (α := IP) (lP x.1)) k), .row 61 158 PairT (tab (oG (uiF x.2.2.1.1 x.2.2.1.2.1 x.2.2.1.2.2.1 (prtL (lP x.1) 0) (dftL x.2.2.1.1 x.2.2.1.2.1 (sgL x.2.1.1.1 x.2.1.1.2.1 x.2.1.2.1))) (uiF x.2.2.1.1 x.2.2.1.2.1 x.2.2.1.2.2.1 (prtL (lP x.1) 1) (dftL x.2.2.1.1 x.2.2.1.2.1 (sgL x.2.1.1.1 x.2.1.1.2.1 x.2.1.2.1))) i k) (List.length (α := IP) (lP x.1)))], inv := fun k => k ≤ List.length (α := IP) (lP x.1), meas := fun k => List.length (α := IP) (lP x.1) - k }]) ?_
  rintro ⟨(xs : CL), ⟨⟨(L : Int), (ts : List Int), _⟩, (s : Int), _⟩, ⟨(p : Int), (w : Int), (n : Int), _⟩, _⟩ (hts : pLen ts.length)
  by_cases h : lE xs = 0
  · have hp := lP_okL h
    have hl := lP_len h
    have hl2 := (lE_ok h).2.1
    by_cases ho : opErr L ts s = 0
    · obtain ⟨hst, hs1⟩ := op_pSt hts ho
      have hL := (chk_zero hst.1).1
      have hm := most_in hL
      by_cases hc : cfE p w n = 0
      · have hfo := cf_zero hc
        by_cases hx : (per L ts 1 : Int) = most L
        · have hxd := decide_eq_true hx
          by_cases hn : (xs.length : Int) = most L ∧ n = most L
          · have u : uwE xs L ts s p w n = tE (uwL p w n (lP xs) (sgL L ts s)) := by unfold uwE; rw [if_pos h, if_pos ho, if_pos hc, if_pos hx, if_pos hn]
            have v : uwR xs L ts s p w n = tL (uwL p w n (lP xs) (sgL L ts s)) := by unfold uwR; rw [if_pos h, if_pos ho, if_pos hc, if_pos hx, if_pos hn]
            have hln : ((lP xs).length : Int) = most L := by omega
            obtain ⟨hn1, rfl⟩ := hn
            have hsl := sgL_len L ts s
            have hsg : tab (sgI L ts s) (most L).toNat = sgL L ts s := rfl
            have h1 := hfo.h1
            have h2 := hfo.h2
            have hmN : (((most L).toNat : Nat) : Int) = most L := by omega
            have hrl : (repl (most L) ((0 : Int), (0 : Int), ())).length = (lP xs).length := by rw [repl_len]; omega
            have hM : ∀ k : Nat, k < (lP xs).length → 0 ≤ (k : Int) ∧ (k : Int) < ((repl (most L) ((0 : Int), (0 : Int), ())).length : Int) := fun k hk => ⟨by omega, by omega⟩
            have hF : ∀ (i : Int) (k : Nat), k < (lP xs).length → -9223372036854775808 ≤ (mixT (quF p w (prtL (lP xs) i) (dftL p w (sgL L ts s))) (dft p w (at0 (prtL (lP xs) i)) (lP xs).length) (lP xs).length k).getD k 0 * inv ((dftL p w (sgL L ts s)).getD k 0) p ∧ (mixT (quF p w (prtL (lP xs) i) (dftL p w (sgL L ts s))) (dft p w (at0 (prtL (lP xs) i)) (lP xs).length) (lP xs).length k).getD k 0 * inv ((dftL p w (sgL L ts s)).getD k 0) p ≤ 9223372036854775807 := fun i k hk => by
              rw [mixT_get hk]
              have g1 := dft_in h1 w (at0 (prtL (lP xs) i)) (lP xs).length k
              have g2 := inv_in h1 ((dftL p w (sgL L ts s)).getD k 0)
              have := pwI_mul h2 g1.1 g1.2 g2.1 g2.2
              omega
            have hK : ∀ (i : Int) (k : Nat), k < (lP xs).length → -9223372036854775808 ≤ 2 * (mixT (uiF p w (most L) (prtL (lP xs) i) (dftL p w (sgL L ts s))) (backF p w (most L) (quL p w (prtL (lP xs) i) (dftL p w (sgL L ts s)))) (lP xs).length k).getD k 0 ∧ 2 * (mixT (uiF p w (most L) (prtL (lP xs) i) (dftL p w (sgL L ts s))) (backF p w (most L) (quL p w (prtL (lP xs) i) (dftL p w (sgL L ts s)))) (lP xs).length k).getD k 0 ≤ 9223372036854775807 := fun i k hk => by
              rw [mixT_get hk]
              have := backF_in (w := w) (n := most L) h1 (quL p w (prtL (lP xs) i) (dftL p w (sgL L ts s))) k
              omega
            have hS : ∀ (i : Int) (k : Nat), k < (lP xs).length → -9223372036854775808 ≤ (mixT (uiF p w (most L) (prtL (lP xs) i) (dftL p w (sgL L ts s))) (backF p w (most L) (quL p w (prtL (lP xs) i) (dftL p w (sgL L ts s)))) (lP xs).length k).getD k 0 - p ∧ (mixT (uiF p w (most L) (prtL (lP xs) i) (dftL p w (sgL L ts s))) (backF p w (most L) (quL p w (prtL (lP xs) i) (dftL p w (sgL L ts s)))) (lP xs).length k).getD k 0 - p ≤ 9223372036854775807 := fun i k hk => by
              rw [mixT_get hk]
              have := backF_in (w := w) (n := most L) h1 (quL p w (prtL (lP xs) i) (dftL p w (sgL L ts s))) k
              omega
            have hD : ∀ i : Int, dftL p w (prtL (lP xs) i) = (mixT (quF p w (prtL (lP xs) i) (dftL p w (sgL L ts s))) (dft p w (at0 (prtL (lP xs) i)) (lP xs).length) (lP xs).length 0) := fun i => by
              rw [mixT_zero]; unfold dftL; rw [prtL_len]
            have hG : ∀ (i : Int) (k : Nat), k < (lP xs).length → (mixT (quF p w (prtL (lP xs) i) (dftL p w (sgL L ts s))) (dft p w (at0 (prtL (lP xs) i)) (lP xs).length) (lP xs).length k).set k (((mixT (quF p w (prtL (lP xs) i) (dftL p w (sgL L ts s))) (dft p w (at0 (prtL (lP xs) i)) (lP xs).length) (lP xs).length k).getD k 0 * inv ((dftL p w (sgL L ts s)).getD k 0) p).tmod p) = (mixT (quF p w (prtL (lP xs) i) (dftL p w (sgL L ts s))) (dft p w (at0 (prtL (lP xs) i)) (lP xs).length) (lP xs).length (k + 1)) := fun i k hk => by
              have g1 := dft_in h1 w (at0 (prtL (lP xs) i)) (lP xs).length k
              have g2 := inv_in h1 ((dftL p w (sgL L ts s)).getD k 0)
              rw [mixT_get hk, Int.tmod_eq_emod_of_nonneg (Int.mul_nonneg g1.1 g2.1)]
              have e : (dft p w (at0 (prtL (lP xs) i)) (lP xs).length k * inv ((dftL p w (sgL L ts s)).getD k 0) p) % p = (quF p w (prtL (lP xs) i) (dftL p w (sgL L ts s))) k := by
                unfold quF; rw [prtL_len]
              rw [e]; exact mixT_set hk
            have hJ : ∀ (i : Int) (c : Nat), c ≤ (lP xs).length → (lP xs).length ≤ c → backL p w (most L) (mixT (quF p w (prtL (lP xs) i) (dftL p w (sgL L ts s))) (dft p w (at0 (prtL (lP xs) i)) (lP xs).length) (lP xs).length c) = (mixT (uiF p w (most L) (prtL (lP xs) i) (dftL p w (sgL L ts s))) (backF p w (most L) (quL p w (prtL (lP xs) i) (dftL p w (sgL L ts s)))) (lP xs).length 0) := fun i c a b => by
              rw [show c = (lP xs).length by omega, mixT_all, mixT_zero]
              have e : tab (quF p w (prtL (lP xs) i) (dftL p w (sgL L ts s))) (lP xs).length = quL p w (prtL (lP xs) i) (dftL p w (sgL L ts s)) := by unfold quL; rw [prtL_len]
              rw [e]; unfold backL; rw [quL_len, prtL_len]
            have hY : ∀ (i : Int) (k : Nat), k < (lP xs).length → p < 2 * (mixT (uiF p w (most L) (prtL (lP xs) i) (dftL p w (sgL L ts s))) (backF p w (most L) (quL p w (prtL (lP xs) i) (dftL p w (sgL L ts s)))) (lP xs).length k).getD k 0 → (mixT (uiF p w (most L) (prtL (lP xs) i) (dftL p w (sgL L ts s))) (backF p w (most L) (quL p w (prtL (lP xs) i) (dftL p w (sgL L ts s)))) (lP xs).length k).set k ((mixT (uiF p w (most L) (prtL (lP xs) i) (dftL p w (sgL L ts s))) (backF p w (most L) (quL p w (prtL (lP xs) i) (dftL p w (sgL L ts s)))) (lP xs).length k).getD k 0 - p) = (mixT (uiF p w (most L) (prtL (lP xs) i) (dftL p w (sgL L ts s))) (backF p w (most L) (quL p w (prtL (lP xs) i) (dftL p w (sgL L ts s)))) (lP xs).length (k + 1)) ∧ ((mixT (uiF p w (most L) (prtL (lP xs) i) (dftL p w (sgL L ts s))) (backF p w (most L) (quL p w (prtL (lP xs) i) (dftL p w (sgL L ts s)))) (lP xs).length k).set k ((mixT (uiF p w (most L) (prtL (lP xs) i) (dftL p w (sgL L ts s))) (backF p w (most L) (quL p w (prtL (lP xs) i) (dftL p w (sgL L ts s)))) (lP xs).length k).getD k 0 - p)).getD k 0 = (uiF p w (most L) (prtL (lP xs) i) (dftL p w (sgL L ts s))) k := fun i k hk hg => by
              rw [mixT_get hk] at hg ⊢
              have e : (backF p w (most L) (quL p w (prtL (lP xs) i) (dftL p w (sgL L ts s)))) k - p = (uiF p w (most L) (prtL (lP xs) i) (dftL p w (sgL L ts s))) k := by unfold uiF hfc; rw [if_pos hg]
              rw [e]
              exact ⟨mixT_set hk, getD_setI (by rw [mixT_len]; exact hk)⟩
            have hO : ∀ (i : Int) (k : Nat), k < (lP xs).length → 2 * (mixT (uiF p w (most L) (prtL (lP xs) i) (dftL p w (sgL L ts s))) (backF p w (most L) (quL p w (prtL (lP xs) i) (dftL p w (sgL L ts s)))) (lP xs).length k).getD k 0 ≤ p → (mixT (uiF p w (most L) (prtL (lP xs) i) (dftL p w (sgL L ts s))) (backF p w (most L) (quL p w (prtL (lP xs) i) (dftL p w (sgL L ts s)))) (lP xs).length k) = (mixT (uiF p w (most L) (prtL (lP xs) i) (dftL p w (sgL L ts s))) (backF p w (most L) (quL p w (prtL (lP xs) i) (dftL p w (sgL L ts s)))) (lP xs).length (k + 1)) ∧ (mixT (uiF p w (most L) (prtL (lP xs) i) (dftL p w (sgL L ts s))) (backF p w (most L) (quL p w (prtL (lP xs) i) (dftL p w (sgL L ts s)))) (lP xs).length k).getD k 0 = (uiF p w (most L) (prtL (lP xs) i) (dftL p w (sgL L ts s))) k := fun i k hk hg => by
              rw [mixT_get hk] at hg ⊢
              have e : (backF p w (most L) (quL p w (prtL (lP xs) i) (dftL p w (sgL L ts s)))) k = (uiF p w (most L) (prtL (lP xs) i) (dftL p w (sgL L ts s))) k := by unfold uiF hfc; rw [if_neg (by omega)]
              refine ⟨?_, e⟩
              rw [← mixT_set hk, ← e]
              exact (mixT_same hk).symm
            repeat' (intro hzz; (try (rename Two => hq; cases hq)); (try dsimp only at hzz); (try simp only [resTy, argTy, eqD, inR, big, wantOf, Bool.not_true, Bool.not_false, Bool.true_eq, decide_eq_true_eq, decide_eq_false_iff_not, Bool.not_eq_true', Bool.not_eq_false', Bool.and_eq_true, Prod.mk.injEq, and_true, true_and, Int.not_lt, Int.not_le, gt_iff_lt, ge_iff_le] at hzz); (try simp only [resTy, argTy, eqD, inR, big, wantOf, Bool.not_true, Bool.not_false, Bool.true_eq, decide_eq_true_eq, decide_eq_false_iff_not, Bool.not_eq_true', Bool.not_eq_false', Bool.and_eq_true, Prod.mk.injEq, and_true, true_and, Int.not_lt, Int.not_le, gt_iff_lt, ge_iff_le, h, ho, hc, hxd, hn1, hsg, hsl, tab_len, Int.toNat_natCast, List.length_set, dftL_len, prtL_len, mixT_len, backL_len, getD_i] at hzz); (try (first | contradiction | (exfalso; omega))); (try (revert hzz; intro _)))
            all_goals try (rename Unit => hq; clear hq)
            all_goals try ((with_reducible refine Held.mk ?_); (with_reducible (first | refine Frz.mk ?_ | refine And.intro (Frz.mk ?_) ?_ | refine And.intro ?_ (Frz.mk ?_))); repeat' first | exact True.intro | (change _ = _; with_reducible rfl) | refine And.intro ?_ ?_ | (with_reducible refine Frz.mk ?_))
            all_goals try (refine Held.mk ?_; (try dsimp only at *); (try simp only [resTy, argTy, eqD, inR, big, wantOf, Bool.not_true, Bool.not_false, Bool.true_eq, decide_eq_true_eq, decide_eq_false_iff_not, Bool.not_eq_true', Bool.not_eq_false', Bool.and_eq_true, Prod.mk.injEq, and_true, true_and, Int.not_lt, Int.not_le, gt_iff_lt, ge_iff_le] at *); (try simp only [resTy, argTy, eqD, inR, big, wantOf, Bool.not_true, Bool.not_false, Bool.true_eq, decide_eq_true_eq, decide_eq_false_iff_not, Bool.not_eq_true', Bool.not_eq_false', Bool.and_eq_true, Prod.mk.injEq, and_true, true_and, Int.not_lt, Int.not_le, gt_iff_lt, ge_iff_le, h, ho, hc, hxd, hn1, hsg, hsl, tab_len, Int.toNat_natCast, List.length_set, dftL_len, prtL_len, mixT_len, backL_len, getD_i] at *))
            all_goals try omega
            all_goals try exact hst.1
            · exact ⟨hst.1, hts⟩
            · exact hst.2.2.1
            · exact hst.2.2.2
            · exact ⟨hfo, by omega⟩
            · exact (show (lP xs).length ≤ 2000000000 by omega)
            · exact .inl rfl
            · exact ⟨hfo, by omega⟩
            · 
              refine GHeld.mk ?_
              refine Exists.intro 0 ?_
              refine And.intro (Leaf.mk ?_) ?_
              · repeat' first | exact True.intro | refine And.intro ?_ ?_
                all_goals try ((change _ = _ <;> try dsimp only) <;> try with_reducible rfl)
                all_goals try omega
                all_goals (first | exact hD 0 | exact congrArg List.length (hD 0) | rfl)
              exact Nat.zero_le _
            · exact ⟨⟨h1, h2⟩, dftL_nn h1 _ _ _⟩
            · exact hF 0 _ (by omega)
            · rename_i k hk hlt
              have e := hG 0 k (by omega)
              refine GHeld.mk ?_
              refine Exists.intro (k + 1) ?_
              refine And.intro (Leaf.mk ?_) ?_
              · repeat' first | exact True.intro | refine And.intro ?_ ?_
                all_goals try ((change _ = _ <;> try dsimp only) <;> try with_reducible rfl)
                all_goals try omega
                all_goals (first | exact e | rfl)
              exact ⟨by show k + 1 ≤ (lP xs).length; omega, by show (lP xs).length - (k + 1) < (lP xs).length - k; omega⟩
            · exact (dftL_len _ _ _).trans ((prtL_len _ _).trans (mixT_len _ _ _ _).symm)
            · exact (dftL_len _ _ _).trans ((prtL_len _ _).trans (mixT_len _ _ _ _).symm)
            · exact (dftL_len _ _ _).trans ((prtL_len _ _).trans (mixT_len _ _ _ _).symm)
            · exact ⟨hfo, by omega⟩
            · rename_i c hc hc2
              have e2 := hJ 0 c hc (by omega)
              have e3 : repl (most L) ((0 : Int), (0 : Int), ()) = tab (oG (uiF p w (most L) (prtL (lP xs) 0) (dftL p w (sgL L ts s))) (uiF p w (most L) (prtL (lP xs) 1) (dftL p w (sgL L ts s))) 0 0) (lP xs).length := by
                rw [show most L = (((lP xs).length : Nat) : Int) by omega]; exact oG_zero _ _ _
              refine GHeld.mk ?_
              refine Exists.intro 0 ?_
              refine And.intro (Leaf.mk ?_) ?_
              · repeat' first | exact True.intro | refine And.intro ?_ ?_
                all_goals try ((change _ = _ <;> try dsimp only) <;> try with_reducible rfl)
                all_goals try omega
                all_goals (first | exact e2 | exact e3 | exact congrArg List.length e2 | rfl)
              exact Nat.zero_le _
            · exact hK 0 _ (by omega)
            · exact hS 0 _ (by omega)
            · exact hM _ (by omega)
            · rename_i k hk hlt hg
              have e := hY 0 k (by omega) hg
              have e3 := oG_set0 (f := (uiF p w (most L) (prtL (lP xs) 0) (dftL p w (sgL L ts s)))) (g := (uiF p w (most L) (prtL (lP xs) 1) (dftL p w (sgL L ts s)))) (n := (lP xs).length) (k := k) (by omega) e.2
              refine GHeld.mk ?_
              refine Exists.intro (k + 1) ?_
              refine And.intro (Leaf.mk ?_) ?_
              · repeat' first | exact True.intro | refine And.intro ?_ ?_
                all_goals try ((change _ = _ <;> try dsimp only) <;> try with_reducible rfl)
                all_goals try omega
                all_goals (first | exact e.1 | exact e3 | rfl)
              exact ⟨by show k + 1 ≤ (lP xs).length; omega, by show (lP xs).length - (k + 1) < (lP xs).length - k; omega⟩
            · exact hM _ (by omega)
            · rename_i k hk hlt hg
              have e := hO 0 k (by omega) hg
              have e3 := oG_set0 (f := (uiF p w (most L) (prtL (lP xs) 0) (dftL p w (sgL L ts s)))) (g := (uiF p w (most L) (prtL (lP xs) 1) (dftL p w (sgL L ts s)))) (n := (lP xs).length) (k := k) (by omega) e.2
              refine GHeld.mk ?_
              refine Exists.intro (k + 1) ?_
              refine And.intro (Leaf.mk ?_) ?_
              · repeat' first | exact True.intro | refine And.intro ?_ ?_
                all_goals try ((change _ = _ <;> try dsimp only) <;> try with_reducible rfl)
                all_goals try omega
                all_goals (first | exact e.1 | exact e3 | rfl)
              exact ⟨by show k + 1 ≤ (lP xs).length; omega, by show (lP xs).length - (k + 1) < (lP xs).length - k; omega⟩
            · exact (show (lP xs).length ≤ 2000000000 by omega)
            · exact .inr rfl
            · exact ⟨hfo, by omega⟩
            · 
              refine GHeld.mk ?_
              refine Exists.intro 0 ?_
              refine And.intro (Leaf.mk ?_) ?_
              · repeat' first | exact True.intro | refine And.intro ?_ ?_
                all_goals try ((change _ = _ <;> try dsimp only) <;> try with_reducible rfl)
                all_goals try omega
                all_goals (first | exact hD 1 | exact congrArg List.length (hD 1) | rfl)
              exact Nat.zero_le _
            · exact ⟨⟨h1, h2⟩, dftL_nn h1 _ _ _⟩
            · exact hF 1 _ (by omega)
            · rename_i k hk hlt
              have e := hG 1 k (by omega)
              refine GHeld.mk ?_
              refine Exists.intro (k + 1) ?_
              refine And.intro (Leaf.mk ?_) ?_
              · repeat' first | exact True.intro | refine And.intro ?_ ?_
                all_goals try ((change _ = _ <;> try dsimp only) <;> try with_reducible rfl)
                all_goals try omega
                all_goals (first | exact e | rfl)
              exact ⟨by show k + 1 ≤ (lP xs).length; omega, by show (lP xs).length - (k + 1) < (lP xs).length - k; omega⟩
            · exact (dftL_len _ _ _).trans ((prtL_len _ _).trans (mixT_len _ _ _ _).symm)
            · exact (dftL_len _ _ _).trans ((prtL_len _ _).trans (mixT_len _ _ _ _).symm)
            · exact (dftL_len _ _ _).trans ((prtL_len _ _).trans (mixT_len _ _ _ _).symm)
            · exact ⟨hfo, by omega⟩
            · rename_i k0 hk0 hk0g _ c hc hc2
              have e2 := hJ 1 c hc (by omega)
              have e3 : tab (oG (uiF p w (most L) (prtL (lP xs) 0) (dftL p w (sgL L ts s))) (uiF p w (most L) (prtL (lP xs) 1) (dftL p w (sgL L ts s))) 0 k0) (lP xs).length = tab (oG (uiF p w (most L) (prtL (lP xs) 0) (dftL p w (sgL L ts s))) (uiF p w (most L) (prtL (lP xs) 1) (dftL p w (sgL L ts s))) 1 0) (lP xs).length := by
                rw [show k0 = (lP xs).length by omega]; exact oG_next _ _ _
              refine GHeld.mk ?_
              refine Exists.intro 0 ?_
              refine And.intro (Leaf.mk ?_) ?_
              · repeat' first | exact True.intro | refine And.intro ?_ ?_
                all_goals try ((change _ = _ <;> try dsimp only) <;> try with_reducible rfl)
                all_goals try omega
                all_goals (first | exact e2 | exact e3 | exact congrArg List.length e2 | rfl)
              exact Nat.zero_le _
            · exact hK 1 _ (by omega)
            · exact hS 1 _ (by omega)
            · exact hM _ (by omega)
            · rename_i k hk hlt hg
              have e := hY 1 k (by omega) hg
              have e3 := oG_set1 (f := (uiF p w (most L) (prtL (lP xs) 0) (dftL p w (sgL L ts s)))) (g := (uiF p w (most L) (prtL (lP xs) 1) (dftL p w (sgL L ts s)))) (n := (lP xs).length) (k := k) (by omega) e.2
              refine GHeld.mk ?_
              refine Exists.intro (k + 1) ?_
              refine And.intro (Leaf.mk ?_) ?_
              · repeat' first | exact True.intro | refine And.intro ?_ ?_
                all_goals try ((change _ = _ <;> try dsimp only) <;> try with_reducible rfl)
                all_goals try omega
                all_goals (first | exact e.1 | exact e3 | rfl)
              exact ⟨by show k + 1 ≤ (lP xs).length; omega, by show (lP xs).length - (k + 1) < (lP xs).length - k; omega⟩
            · exact hM _ (by omega)
            · rename_i k hk hlt hg
              have e := hO 1 k (by omega) hg
              have e3 := oG_set1 (f := (uiF p w (most L) (prtL (lP xs) 0) (dftL p w (sgL L ts s)))) (g := (uiF p w (most L) (prtL (lP xs) 1) (dftL p w (sgL L ts s)))) (n := (lP xs).length) (k := k) (by omega) e.2
              refine GHeld.mk ?_
              refine Exists.intro (k + 1) ?_
              refine And.intro (Leaf.mk ?_) ?_
              · repeat' first | exact True.intro | refine And.intro ?_ ?_
                all_goals try ((change _ = _ <;> try dsimp only) <;> try with_reducible rfl)
                all_goals try omega
                all_goals (first | exact e.1 | exact e3 | rfl)
              exact ⟨by show k + 1 ≤ (lP xs).length; omega, by show (lP xs).length - (k + 1) < (lP xs).length - k; omega⟩
            all_goals try exact hrl.trans (tab_len _ _).symm
            · refine ⟨by omega, ?_⟩
              rename_i k hk hge _ _
              rw [show k = (lP xs).length by omega]
              have e := uwL_ok h1 h2 (n := most L) (w := w) (lP xs) (sgL L ts s)
              rw [show uwL p w (most L) (lP xs) (sgL L ts s) = tab (oG (uiF p w (most L) (prtL (lP xs) 0) (dftL p w (sgL L ts s))) (uiF p w (most L) (prtL (lP xs) 1) (dftL p w (sgL L ts s))) 1 (lP xs).length) (lP xs).length from (oG_all _ _ _).symm] at e
              exact e
            · rename_i k hk hge _ _
              rw [show k = (lP xs).length by omega]
              rw [u, v, show uwL p w (most L) (lP xs) (sgL L ts s) = tab (oG (uiF p w (most L) (prtL (lP xs) 0) (dftL p w (sgL L ts s))) (uiF p w (most L) (prtL (lP xs) 1) (dftL p w (sgL L ts s))) 1 (lP xs).length) (lP xs).length from (oG_all _ _ _).symm]
              exact ⟨rfl, rfl⟩
          · have u : uwE xs L ts s p w n = 13 := by unfold uwE; rw [if_pos h, if_pos ho, if_pos hc, if_pos hx, if_neg hn]
            have v : uwR xs L ts s p w n = [] := by unfold uwR; rw [if_pos h, if_pos ho, if_pos hc, if_pos hx, if_neg hn]
            repeat' (intro hzz; (try (rename Two => hq; cases hq)); (try dsimp only at hzz); (try simp only [resTy, argTy, eqD, inR, big, wantOf, Bool.not_true, Bool.not_false, Bool.true_eq, decide_eq_true_eq, decide_eq_false_iff_not, Bool.not_eq_true', Bool.not_eq_false', Bool.and_eq_true, Prod.mk.injEq, and_true, true_and, Int.not_lt, Int.not_le, gt_iff_lt, ge_iff_le] at hzz); (try simp only [resTy, argTy, eqD, inR, big, wantOf, Bool.not_true, Bool.not_false, Bool.true_eq, decide_eq_true_eq, decide_eq_false_iff_not, Bool.not_eq_true', Bool.not_eq_false', Bool.and_eq_true, Prod.mk.injEq, and_true, true_and, Int.not_lt, Int.not_le, gt_iff_lt, ge_iff_le, h, ho, hc, hxd, u, v] at hzz); (try (first | contradiction | (exfalso; omega))); (try (revert hzz; intro _)))
            all_goals try (rename Unit => hq; clear hq)
            all_goals try ((with_reducible refine Held.mk ?_); (with_reducible (first | refine Frz.mk ?_ | refine And.intro (Frz.mk ?_) ?_ | refine And.intro ?_ (Frz.mk ?_))); repeat' first | exact True.intro | (change _ = _; with_reducible rfl) | refine And.intro ?_ ?_ | (with_reducible refine Frz.mk ?_))
            all_goals try (refine Held.mk ?_; (try dsimp only at *); (try simp only [resTy, argTy, eqD, inR, big, wantOf, Bool.not_true, Bool.not_false, Bool.true_eq, decide_eq_true_eq, decide_eq_false_iff_not, Bool.not_eq_true', Bool.not_eq_false', Bool.and_eq_true, Prod.mk.injEq, and_true, true_and, Int.not_lt, Int.not_le, gt_iff_lt, ge_iff_le] at *); (try simp only [resTy, argTy, eqD, inR, big, wantOf, Bool.not_true, Bool.not_false, Bool.true_eq, decide_eq_true_eq, decide_eq_false_iff_not, Bool.not_eq_true', Bool.not_eq_false', Bool.and_eq_true, Prod.mk.injEq, and_true, true_and, Int.not_lt, Int.not_le, gt_iff_lt, ge_iff_le, h, ho, hc, hxd, u, v] at *))
            all_goals try omega
            all_goals exact ⟨hst.1, hts⟩
        · have hxd := decide_eq_false hx
          have u : uwE xs L ts s p w n = 22 := by unfold uwE; rw [if_pos h, if_pos ho, if_pos hc, if_neg hx]
          have v : uwR xs L ts s p w n = [] := by unfold uwR; rw [if_pos h, if_pos ho, if_pos hc, if_neg hx]
          repeat' (intro hzz; (try (rename Two => hq; cases hq)); (try dsimp only at hzz); (try simp only [resTy, argTy, eqD, inR, big, wantOf, Bool.not_true, Bool.not_false, Bool.true_eq, decide_eq_true_eq, decide_eq_false_iff_not, Bool.not_eq_true', Bool.not_eq_false', Bool.and_eq_true, Prod.mk.injEq, and_true, true_and, Int.not_lt, Int.not_le, gt_iff_lt, ge_iff_le] at hzz); (try simp only [resTy, argTy, eqD, inR, big, wantOf, Bool.not_true, Bool.not_false, Bool.true_eq, decide_eq_true_eq, decide_eq_false_iff_not, Bool.not_eq_true', Bool.not_eq_false', Bool.and_eq_true, Prod.mk.injEq, and_true, true_and, Int.not_lt, Int.not_le, gt_iff_lt, ge_iff_le, h, ho, hc, hxd, u, v] at hzz); (try (first | contradiction | (exfalso; omega))); (try (revert hzz; intro _)))
          all_goals try (rename Unit => hq; clear hq)
          all_goals try ((with_reducible refine Held.mk ?_); (with_reducible (first | refine Frz.mk ?_ | refine And.intro (Frz.mk ?_) ?_ | refine And.intro ?_ (Frz.mk ?_))); repeat' first | exact True.intro | (change _ = _; with_reducible rfl) | refine And.intro ?_ ?_ | (with_reducible refine Frz.mk ?_))
          all_goals try (refine Held.mk ?_; (try dsimp only at *); (try simp only [resTy, argTy, eqD, inR, big, wantOf, Bool.not_true, Bool.not_false, Bool.true_eq, decide_eq_true_eq, decide_eq_false_iff_not, Bool.not_eq_true', Bool.not_eq_false', Bool.and_eq_true, Prod.mk.injEq, and_true, true_and, Int.not_lt, Int.not_le, gt_iff_lt, ge_iff_le] at *); (try simp only [resTy, argTy, eqD, inR, big, wantOf, Bool.not_true, Bool.not_false, Bool.true_eq, decide_eq_true_eq, decide_eq_false_iff_not, Bool.not_eq_true', Bool.not_eq_false', Bool.and_eq_true, Prod.mk.injEq, and_true, true_and, Int.not_lt, Int.not_le, gt_iff_lt, ge_iff_le, h, ho, hc, hxd, u, v] at *))
          all_goals try omega
          all_goals exact ⟨hst.1, hts⟩
      · have u : uwE xs L ts s p w n = cfE p w n := by unfold uwE; rw [if_pos h, if_pos ho, if_neg hc]
        have v : uwR xs L ts s p w n = [] := by unfold uwR; rw [if_pos h, if_pos ho, if_neg hc]
        repeat' (intro hzz; (try (rename Two => hq; cases hq)); (try dsimp only at hzz); (try simp only [resTy, argTy, eqD, inR, big, wantOf, Bool.not_true, Bool.not_false, Bool.true_eq, decide_eq_true_eq, decide_eq_false_iff_not, Bool.not_eq_true', Bool.not_eq_false', Bool.and_eq_true, Prod.mk.injEq, and_true, true_and, Int.not_lt, Int.not_le, gt_iff_lt, ge_iff_le] at hzz); (try simp only [resTy, argTy, eqD, inR, big, wantOf, Bool.not_true, Bool.not_false, Bool.true_eq, decide_eq_true_eq, decide_eq_false_iff_not, Bool.not_eq_true', Bool.not_eq_false', Bool.and_eq_true, Prod.mk.injEq, and_true, true_and, Int.not_lt, Int.not_le, gt_iff_lt, ge_iff_le, h, ho, u, v] at hzz); (try (first | contradiction | (exfalso; omega))); (try (revert hzz; intro _)))
        all_goals try (rename Unit => hq; clear hq)
        all_goals try ((with_reducible refine Held.mk ?_); (with_reducible (first | refine Frz.mk ?_ | refine And.intro (Frz.mk ?_) ?_ | refine And.intro ?_ (Frz.mk ?_))); repeat' first | exact True.intro | (change _ = _; with_reducible rfl) | refine And.intro ?_ ?_ | (with_reducible refine Frz.mk ?_))
        all_goals try (refine Held.mk ?_; (try dsimp only at *); (try simp only [resTy, argTy, eqD, inR, big, wantOf, Bool.not_true, Bool.not_false, Bool.true_eq, decide_eq_true_eq, decide_eq_false_iff_not, Bool.not_eq_true', Bool.not_eq_false', Bool.and_eq_true, Prod.mk.injEq, and_true, true_and, Int.not_lt, Int.not_le, gt_iff_lt, ge_iff_le] at *); (try simp only [resTy, argTy, eqD, inR, big, wantOf, Bool.not_true, Bool.not_false, Bool.true_eq, decide_eq_true_eq, decide_eq_false_iff_not, Bool.not_eq_true', Bool.not_eq_false', Bool.and_eq_true, Prod.mk.injEq, and_true, true_and, Int.not_lt, Int.not_le, gt_iff_lt, ge_iff_le, h, ho, u, v] at *))
        all_goals try omega
    · have u : uwE xs L ts s p w n = opErr L ts s := by unfold uwE; rw [if_pos h, if_neg ho]
      have v : uwR xs L ts s p w n = [] := by unfold uwR; rw [if_pos h, if_neg ho]
      repeat' (intro hzz; (try (rename Two => hq; cases hq)); (try dsimp only at hzz); (try simp only [resTy, argTy, eqD, inR, big, wantOf, Bool.not_true, Bool.not_false, Bool.true_eq, decide_eq_true_eq, decide_eq_false_iff_not, Bool.not_eq_true', Bool.not_eq_false', Bool.and_eq_true, Prod.mk.injEq, and_true, true_and, Int.not_lt, Int.not_le, gt_iff_lt, ge_iff_le] at hzz); (try simp only [resTy, argTy, eqD, inR, big, wantOf, Bool.not_true, Bool.not_false, Bool.true_eq, decide_eq_true_eq, decide_eq_false_iff_not, Bool.not_eq_true', Bool.not_eq_false', Bool.and_eq_true, Prod.mk.injEq, and_true, true_and, Int.not_lt, Int.not_le, gt_iff_lt, ge_iff_le, h, u, v] at hzz); (try (first | contradiction | (exfalso; omega))); (try (revert hzz; intro _)))
      all_goals try (rename Unit => hq; clear hq)
      all_goals try ((with_reducible refine Held.mk ?_); (with_reducible (first | refine Frz.mk ?_ | refine And.intro (Frz.mk ?_) ?_ | refine And.intro ?_ (Frz.mk ?_))); repeat' first | exact True.intro | (change _ = _; with_reducible rfl) | refine And.intro ?_ ?_ | (with_reducible refine Frz.mk ?_))
      all_goals try (refine Held.mk ?_; (try dsimp only at *); (try simp only [resTy, argTy, eqD, inR, big, wantOf, Bool.not_true, Bool.not_false, Bool.true_eq, decide_eq_true_eq, decide_eq_false_iff_not, Bool.not_eq_true', Bool.not_eq_false', Bool.and_eq_true, Prod.mk.injEq, and_true, true_and, Int.not_lt, Int.not_le, gt_iff_lt, ge_iff_le] at *); (try simp only [resTy, argTy, eqD, inR, big, wantOf, Bool.not_true, Bool.not_false, Bool.true_eq, decide_eq_true_eq, decide_eq_false_iff_not, Bool.not_eq_true', Bool.not_eq_false', Bool.and_eq_true, Prod.mk.injEq, and_true, true_and, Int.not_lt, Int.not_le, gt_iff_lt, ge_iff_le, h, u, v] at *))
      all_goals try omega
  · have u : uwE xs L ts s p w n = lE xs := by unfold uwE; rw [if_neg h]
    have v : uwR xs L ts s p w n = [] := by unfold uwR; rw [if_neg h]
    repeat' (intro hzz; (try (rename Two => hq; cases hq)); (try dsimp only at hzz); (try simp only [resTy, argTy, eqD, inR, big, wantOf, Bool.not_true, Bool.not_false, Bool.true_eq, decide_eq_true_eq, decide_eq_false_iff_not, Bool.not_eq_true', Bool.not_eq_false', Bool.and_eq_true, Prod.mk.injEq, and_true, true_and, Int.not_lt, Int.not_le, gt_iff_lt, ge_iff_le] at hzz); (try simp only [resTy, argTy, eqD, inR, big, wantOf, Bool.not_true, Bool.not_false, Bool.true_eq, decide_eq_true_eq, decide_eq_false_iff_not, Bool.not_eq_true', Bool.not_eq_false', Bool.and_eq_true, Prod.mk.injEq, and_true, true_and, Int.not_lt, Int.not_le, gt_iff_lt, ge_iff_le, u, v] at hzz); (try (first | contradiction | (exfalso; omega))); (try (revert hzz; intro _)))
    all_goals try (rename Unit => hq; clear hq)
    all_goals try ((with_reducible refine Held.mk ?_); (with_reducible (first | refine Frz.mk ?_ | refine And.intro (Frz.mk ?_) ?_ | refine And.intro ?_ (Frz.mk ?_))); repeat' first | exact True.intro | (change _ = _; with_reducible rfl) | refine And.intro ?_ ?_ | (with_reducible refine Frz.mk ?_))
    all_goals try (refine Held.mk ?_; (try dsimp only at *); (try simp only [resTy, argTy, eqD, inR, big, wantOf, Bool.not_true, Bool.not_false, Bool.true_eq, decide_eq_true_eq, decide_eq_false_iff_not, Bool.not_eq_true', Bool.not_eq_false', Bool.and_eq_true, Prod.mk.injEq, and_true, true_and, Int.not_lt, Int.not_le, gt_iff_lt, ge_iff_le] at *); (try simp only [resTy, argTy, eqD, inR, big, wantOf, Bool.not_true, Bool.not_false, Bool.true_eq, decide_eq_true_eq, decide_eq_false_iff_not, Bool.not_eq_true', Bool.not_eq_false', Bool.and_eq_true, Prod.mk.injEq, and_true, true_and, Int.not_lt, Int.not_le, gt_iff_lt, ge_iff_le, u, v] at *))
    all_goals try omega

end Go.Eng.Pu
