/- The law PulsePeriods, walked. Conditions: none. -/
import Derived.Test.YtcoimlnplaidiaaQ17
import Derived.Test.YtcoimlnplaidiaaQ20
import Derived.Test.YtcoimlnplaidiaaQ19
import Derived.Test.YtcoimlnplaidiaaQ23
import Derived.Test.YtcoimlnplaidiaaQ24
namespace Go.Eng.Pu
open Go.Eng Go.Proofs
set_option linter.all false
set_option maxRecDepth 100000
set_option maxHeartbeats 8000000

theorem mxE_eq {L : Int} {xs : List Int} : ∀ (qs ps : List Int), mxE L xs (ps ++ qs) qs.length ps.length = if (qs.any fun p => decide (atI L xs 1 ((most L).tdiv p) = 1)) = true then 20 else 0
  | [], ps => by simp [mxE]
  | q :: r, ps => by
    have ih := mxE_eq (L := L) (xs := xs) r (ps ++ [q])
    rw [List.append_assoc, List.length_append] at ih
    simp only [List.length_cons, mxE]
    have e : (ps ++ q :: r).getD ps.length 0 = q := by simp [List.getD]
    rw [e]
    by_cases h : atI L xs 1 ((most L).tdiv q) = 1
    · rw [if_pos h]
      simp [h]
    · rw [if_neg h]
      have e2 : mxE L xs (ps ++ q :: r) r.length (ps.length + 1) = if (r.any fun p => decide (atI L xs 1 ((most L).tdiv p) = 1)) = true then 20 else 0 := ih
      rw [e2]
      simp [h]

/-- The primes of the greatest states, by trial. -/
theorem prO_facts {L : Int} (h : 2 ≤ L ∧ L ≤ 8) : (prO (most L)).all (fun p => decide (1 ≤ (most L).tdiv p ∧ (most L).tdiv p < most L)) = true ∧
    (List.range 257).all (fun P => decide (P = 0) || !decide (most L % (P : Int) = 0) || decide ((P : Int) = most L) || (prO (most L)).any fun p => decide ((most L).tdiv p % (P : Int) = 0)) = true := by
  rcases lens h with rfl | rfl | rfl | rfl | rfl | rfl | rfl <;> decide +kernel

theorem atI_one {L : Int} {xs : List Int} (hc : chk L xs = 0) (hl : pLen xs.length) {n : Int} (hn : 0 ≤ n) : atI L xs 1 n = 1 ↔ n % (per L xs 1 : Int) = 0 := by
  have h1 := one_pSt hc hl
  obtain ⟨p1, p2, p3, p4⟩ := per_spec h1
  have hk0 := Int.emod_nonneg n (show (per L xs 1 : Int) ≠ 0 by omega)
  have hk1 := Int.emod_lt_of_pos n (show (0 : Int) < (per L xs 1 : Int) by omega)
  unfold atI
  constructor
  · intro h
    by_cases hz : n % (per L xs 1 : Int) = 0
    · exact hz
    · exact absurd h (p4 _ (by omega) (by omega))
  · intro h
    rw [h]; rfl

theorem cm_right {L : Int} {xs : List Int} (hc : chk L xs = 0) (hl : pLen xs.length) : cmErr L xs (prO (most L)) = if (per L xs 1 : Int) = most L then 0 else 20 := by
  have hL := (chk_zero hc).1
  have hP := P2_in hL
  have h1 := one_pSt hc hl
  obtain ⟨p1, p2, p3, p4⟩ := per_spec h1
  have ho : opErr L xs 1 = 0 := by
    unfold opErr stErr
    rw [if_pos hc, if_pos ⟨by omega, by unfold most; omega⟩]
  obtain ⟨hlen, hpr⟩ := prO_len hL
  obtain ⟨f1, f2⟩ := prO_facts hL
  have hm := mxE_eq (L := L) (xs := xs) (prO (most L)) []
  have hm : mxE L xs (prO (most L)) (prO (most L)).length 0 = _ := hm
  have hmost : 3 ≤ most L := by unfold most; omega
  unfold cmErr
  rw [if_pos ho, if_pos hlen, if_pos hpr]
  rw [List.all_eq_true] at f1 f2
  by_cases hM : (per L xs 1 : Int) = most L
  · rw [if_pos hM, if_pos ⟨rfl, (atI_one hc hl (by omega)).2 (by rw [hM]; exact Int.emod_self)⟩, hm, if_neg]
    intro ha
    rw [List.any_eq_true] at ha
    obtain ⟨p, hp, ha⟩ := ha
    have ha := of_decide_eq_true ha
    have hb := of_decide_eq_true (f1 p hp)
    have := (atI_one hc hl (by omega)).1 ha
    rw [hM, Int.emod_eq_of_lt (by omega) (by omega)] at this
    omega
  · rw [if_neg hM]
    by_cases hd : most L % (per L xs 1 : Int) = 0
    · rw [if_pos ⟨rfl, (atI_one hc hl (by omega)).2 hd⟩, hm, if_pos]
      have := f2 (per L xs 1) (List.mem_range.2 (by omega))
      simp only [Bool.or_eq_true, Bool.not_eq_true', decide_eq_true_eq, decide_eq_false_iff_not] at this
      rcases this with ((h | h) | h) | h
      · omega
      · exact absurd hd h
      · exact absurd h hM
      · rw [List.any_eq_true] at h ⊢
        obtain ⟨p, hp, ha⟩ := h
        have hb := of_decide_eq_true (f1 p hp)
        exact ⟨p, hp, decide_eq_true ((atI_one hc hl (by omega)).2 (of_decide_eq_true ha))⟩
    · rw [if_neg]
      rintro ⟨_, h⟩
      exact hd ((atI_one hc hl (by omega)).1 h)

@[reducible] def sLaw14 : Spec := { pats := [.dat Reg0, .dat I64, .dat I64], res := [{ t := .bool }], pre := fun _ => True, f := fun _ => (true, ()) }

/-- PulsePeriods -/
theorem h14 : Ok 14 sLaw14 := by
  refine mk (ctr := [(17, sAwake), (19, sCopy), (23, sStartR), (68, sMost), (60, sPIsMax), (20, sPPer), (67, sRPrimes), (61, sCheckMax), (50, sPSigns), (36, sCopyInts), (47, sPCor), (25, sWithin), (41, sMod)]) ⟨h17, h19, h23, h68, h60, h20, h67, h61, h50, h36, h47, h25, h41, trivial⟩ (nt := 137) Try.func14 rfl rfl rfl rfl (by kernel_rfl) (by kernel_rfl) (fun x => [fun _ => { σ := Nat, pat := fun k => [sI 16 k, sI 15 (sm (sgI x.1.1 x.1.2.1 x.2.1) k)], inv := fun k => (k : Int) ≤ most x.1.1, meas := fun k => 300 - k }]) ?_
  rintro ⟨⟨(L : Int), (xs : List Int), _⟩, (s : Int), (lag : Int), _⟩ _
  by_cases h12 : (xs.length : Int) ≤ 12
  · have hl := pLen12 h12
    have hl2 : xs.length ≤ 2000000000 := by omega
    by_cases ho : opErr L xs s = 0
    · obtain ⟨hst, hs⟩ := op_pSt hl ho
      have hc := hst.1
      have hL := (chk_zero hc).1
      have hP := P2_in hL
      have hmo := mosts hL
      have hm3 : 3 ≤ most L ∧ most L ≤ 255 := by omega
      have ho1 : opErr L xs 1 = 0 := by
        unfold opErr stErr
        rw [if_pos hc, if_pos ⟨by omega, by unfold most; omega⟩]
      have ecm := cm_right hc hl
      have hpo : pLen (prO (most L)).length := by have := (prO_len hL).1; unfold pLen; omega
      have hP1 := (per_spec (one_pSt hc hl)).2.2.1
      have hpl : pLen (per L xs 1) := by unfold pLen; omega
      have hpl2 : per L xs 1 ≤ 2000000000 := by omega
      have hmm : 0 < most L ∧ most L ≤ 2000000000000000000 := by omega
      have hsg : ∀ i : Nat, -1 ≤ sgI L xs s i ∧ sgI L xs s i ≤ 1 := fun i => by have := bit_01 (L := L) (xs := xs) (s := s) i; unfold sgI; omega
      have hsm : ∀ k : Nat, -(k : Int) ≤ sm (sgI L xs s) k ∧ sm (sgI L xs s) k ≤ k := fun k => by have := sm_le (f := sgI L xs s) (B := 1) k (fun i _ => hsg i); omega
      by_cases hM : (per L xs 1 : Int) = most L
      · have hM' : Maxi L xs := hM
        rw [if_pos hM] at ecm
        have hper := per_max hc hl hM' hst hs
        have eper : (per L xs s : Int) = most L := by omega
        have en : (most L).toNat = per L xs 1 := by omega
        have esum : sm (sgI L xs s) (per L xs 1) = -1 := (sumS_one hc hl hM' hst hs).trans (sum_max hc hl hM')
        have hk : ∀ k : Nat, (k : Int) ≤ most L → most L ≤ (k : Int) → sm (sgI L xs s) k = -1 := fun k h1 h2 => by rw [show k = per L xs 1 from by omega]; exact esum
        have hget : ∀ k : Nat, (k : Int) < most L → (tab (sgI L xs s) (per L xs 1)).getD k 0 = sgI L xs s k := fun k h => tab_get _ _ _ _ (by omega)
        have hog : ∀ k : Nat, (k : Int) < most L → (if opErr L xs s = 0 then tab (sgI L xs s) (most L).toNat else []).getD k 0 = sgI L xs s k := fun k h => by rw [if_pos ho, en]; exact hget k h
        have ecor := cor_signs hc hl hM' hst hs lag
        have hall : (tab (sgI L xs s) (per L xs 1)).all fRec = true := by
          rw [List.all_eq_true]
          intro y hy
          obtain ⟨i, _, rfl⟩ := tab_mem hy
          have := bit_01 (L := L) (xs := xs) (s := s) i
          unfold sgI fRec
          exact decide_eq_true (by omega)
        have eErr : corErr (tab (sgI L xs s) (per L xs 1)) (tab (sgI L xs s) (per L xs 1)) lag = if -1000000000 ≤ lag ∧ lag ≤ 1000000000 then 0 else 2 := by
          unfold corErr
          rw [tab_len, if_neg (by omega), if_neg (by omega)]
          by_cases h : -1000000000 ≤ lag ∧ lag ≤ 1000000000
          · rw [if_pos h, if_pos ⟨hall, hall, h⟩]
          · rw [if_neg h, if_neg (fun hh => h hh.2.2)]
        by_cases hlag : -1000000000 ≤ lag ∧ lag ≤ 1000000000
        · rw [if_pos hlag] at eErr
          have eV : corV (tab (sgI L xs s) (per L xs 1)) (tab (sgI L xs s) (per L xs 1)) lag = if lag % (per L xs 1 : Int) = 0 then (per L xs 1 : Int) else -1 := by
            unfold corV
            rw [if_pos eErr, tab_len]; exact ecor
          rw [hM] at eV
          repeat' (intro hzz; (try (rename Two => hq; cases hq)); (try dsimp only at hzz); (try simp only [resTy, argTy, eqD, inR, big, wantOf, Bool.not_true, Bool.not_false, Bool.true_eq, decide_eq_true_eq, decide_eq_false_iff_not, Bool.not_eq_true', Bool.not_eq_false', Bool.and_eq_true, Prod.mk.injEq, and_true, true_and, Int.not_lt, Int.not_le, gt_iff_lt, ge_iff_le] at hzz); (try simp only [resTy, argTy, eqD, inR, big, wantOf, Bool.not_true, Bool.not_false, Bool.true_eq, decide_eq_true_eq, decide_eq_false_iff_not, Bool.not_eq_true', Bool.not_eq_false', Bool.and_eq_true, Prod.mk.injEq, and_true, true_and, Int.not_lt, Int.not_le, gt_iff_lt, ge_iff_le, fWithin, ho, ho1, hM, ecm, eper, en, eErr, eV, hlag, tab_len, getD_i, if_true] at hzz); (try (first | contradiction | (exfalso; omega))); (try (revert hzz; intro _)))
          all_goals try (rename Unit => hq; clear hq)
          all_goals try ((with_reducible refine Held.mk ?_); (with_reducible (first | refine Frz.mk ?_ | refine And.intro (Frz.mk ?_) ?_ | refine And.intro ?_ (Frz.mk ?_))); repeat' first | exact True.intro | (change _ = _; with_reducible rfl) | refine And.intro ?_ ?_ | (with_reducible refine Frz.mk ?_))
          all_goals try (refine Held.mk ?_; (try dsimp only at *); (try simp only [resTy, argTy, eqD, inR, big, wantOf, Bool.not_true, Bool.not_false, Bool.true_eq, decide_eq_true_eq, decide_eq_false_iff_not, Bool.not_eq_true', Bool.not_eq_false', Bool.and_eq_true, Prod.mk.injEq, and_true, true_and, Int.not_lt, Int.not_le, gt_iff_lt, ge_iff_le] at *); (try simp only [resTy, argTy, eqD, inR, big, wantOf, Bool.not_true, Bool.not_false, Bool.true_eq, decide_eq_true_eq, decide_eq_false_iff_not, Bool.not_eq_true', Bool.not_eq_false', Bool.and_eq_true, Prod.mk.injEq, and_true, true_and, Int.not_lt, Int.not_le, gt_iff_lt, ge_iff_le, fWithin, ho, ho1, hM, ecm, eper, en, eErr, eV, hlag, tab_len, getD_i, if_true] at *))
          all_goals try omega
          all_goals try (first | exact ⟨hl, hl2⟩ | exact hmo | exact ⟨hl, hpo⟩ | exact ⟨hpl, hpl2⟩ | exact ⟨hpl, hpl⟩ | exact hmm | exact hk _ (by assumption) (by assumption))
          · 
            refine GHeld.mk ?_
            refine Exists.intro 0 ?_
            refine And.intro (Leaf.mk ?_) ?_
            · repeat' first | exact True.intro | refine And.intro ?_ ?_
              all_goals try ((change _ = _ <;> try dsimp only) <;> try with_reducible rfl)
              all_goals try omega
              all_goals (rfl)
            show ((0 : Nat) : Int) ≤ most L
            omega
          · rename_i k hk1 hk2
            have := hsg k
            have := hsm k
            rw [hget k hk2]
            omega
          · rename_i k hk1 hk2
            have e : sm (sgI L xs s) k + (if opErr L xs s = 0 then tab (sgI L xs s) (most L).toNat else []).getD k 0 = sm (sgI L xs s) (k + 1) := by rw [hog k hk2]; rfl
            refine GHeld.mk ?_
            refine Exists.intro (k + 1) ?_
            refine And.intro (Leaf.mk ?_) ?_
            · repeat' first | exact True.intro | refine And.intro ?_ ?_
              all_goals try ((change _ = _ <;> try dsimp only) <;> try with_reducible rfl)
              all_goals try omega
              all_goals (exact e)
            exact ⟨by show ((k + 1 : Nat) : Int) ≤ most L; omega, by show 300 - (k + 1) < 300 - k; omega⟩
          · rename_i h2 _ h
            exact absurd (if_pos h2) h
          · rename_i h2 _ h
            exact absurd (if_neg h2) h
        · rw [if_neg hlag] at eErr
          have eV : corV (tab (sgI L xs s) (per L xs 1)) (tab (sgI L xs s) (per L xs 1)) lag = 0 := by
            unfold corV
            rw [if_neg (by rw [eErr]; decide)]
          repeat' (intro hzz; (try (rename Two => hq; cases hq)); (try dsimp only at hzz); (try simp only [resTy, argTy, eqD, inR, big, wantOf, Bool.not_true, Bool.not_false, Bool.true_eq, decide_eq_true_eq, decide_eq_false_iff_not, Bool.not_eq_true', Bool.not_eq_false', Bool.and_eq_true, Prod.mk.injEq, and_true, true_and, Int.not_lt, Int.not_le, gt_iff_lt, ge_iff_le] at hzz); (try simp only [resTy, argTy, eqD, inR, big, wantOf, Bool.not_true, Bool.not_false, Bool.true_eq, decide_eq_true_eq, decide_eq_false_iff_not, Bool.not_eq_true', Bool.not_eq_false', Bool.and_eq_true, Prod.mk.injEq, and_true, true_and, Int.not_lt, Int.not_le, gt_iff_lt, ge_iff_le, fWithin, ho, ho1, hM, ecm, eper, en, eErr, eV, hlag, tab_len, getD_i, if_true] at hzz); (try (first | contradiction | (exfalso; omega))); (try (revert hzz; intro _)))
          all_goals try (rename Unit => hq; clear hq)
          all_goals try ((with_reducible refine Held.mk ?_); (with_reducible (first | refine Frz.mk ?_ | refine And.intro (Frz.mk ?_) ?_ | refine And.intro ?_ (Frz.mk ?_))); repeat' first | exact True.intro | (change _ = _; with_reducible rfl) | refine And.intro ?_ ?_ | (with_reducible refine Frz.mk ?_))
          all_goals try (refine Held.mk ?_; (try dsimp only at *); (try simp only [resTy, argTy, eqD, inR, big, wantOf, Bool.not_true, Bool.not_false, Bool.true_eq, decide_eq_true_eq, decide_eq_false_iff_not, Bool.not_eq_true', Bool.not_eq_false', Bool.and_eq_true, Prod.mk.injEq, and_true, true_and, Int.not_lt, Int.not_le, gt_iff_lt, ge_iff_le] at *); (try simp only [resTy, argTy, eqD, inR, big, wantOf, Bool.not_true, Bool.not_false, Bool.true_eq, decide_eq_true_eq, decide_eq_false_iff_not, Bool.not_eq_true', Bool.not_eq_false', Bool.and_eq_true, Prod.mk.injEq, and_true, true_and, Int.not_lt, Int.not_le, gt_iff_lt, ge_iff_le, fWithin, ho, ho1, hM, ecm, eper, en, eErr, eV, hlag, tab_len, getD_i, if_true] at *))
          all_goals try omega
          all_goals try (first | exact ⟨hl, hl2⟩ | exact hmo | exact ⟨hl, hpo⟩ | exact ⟨hpl, hpl2⟩ | exact ⟨hpl, hpl⟩ | exact hmm | exact hk _ (by assumption) (by assumption))
          · 
            refine GHeld.mk ?_
            refine Exists.intro 0 ?_
            refine And.intro (Leaf.mk ?_) ?_
            · repeat' first | exact True.intro | refine And.intro ?_ ?_
              all_goals try ((change _ = _ <;> try dsimp only) <;> try with_reducible rfl)
              all_goals try omega
              all_goals (rfl)
            show ((0 : Nat) : Int) ≤ most L
            omega
          · rename_i k hk1 hk2
            have := hsg k
            have := hsm k
            rw [hget k hk2]
            omega
          · rename_i k hk1 hk2
            have e : sm (sgI L xs s) k + (if opErr L xs s = 0 then tab (sgI L xs s) (most L).toNat else []).getD k 0 = sm (sgI L xs s) (k + 1) := by rw [hog k hk2]; rfl
            refine GHeld.mk ?_
            refine Exists.intro (k + 1) ?_
            refine And.intro (Leaf.mk ?_) ?_
            · repeat' first | exact True.intro | refine And.intro ?_ ?_
              all_goals try ((change _ = _ <;> try dsimp only) <;> try with_reducible rfl)
              all_goals try omega
              all_goals (exact e)
            exact ⟨by show ((k + 1 : Nat) : Int) ≤ most L; omega, by show 300 - (k + 1) < 300 - k; omega⟩
      · rw [if_neg hM] at ecm
        repeat' (intro hzz; (try (rename Two => hq; cases hq)); (try dsimp only at hzz); (try simp only [resTy, argTy, eqD, inR, big, wantOf, Bool.not_true, Bool.not_false, Bool.true_eq, decide_eq_true_eq, decide_eq_false_iff_not, Bool.not_eq_true', Bool.not_eq_false', Bool.and_eq_true, Prod.mk.injEq, and_true, true_and, Int.not_lt, Int.not_le, gt_iff_lt, ge_iff_le] at hzz); (try simp only [resTy, argTy, eqD, inR, big, wantOf, Bool.not_true, Bool.not_false, Bool.true_eq, decide_eq_true_eq, decide_eq_false_iff_not, Bool.not_eq_true', Bool.not_eq_false', Bool.and_eq_true, Prod.mk.injEq, and_true, true_and, Int.not_lt, Int.not_le, gt_iff_lt, ge_iff_le, fWithin, ho, ho1, hM, ecm] at hzz); (try (first | contradiction | (exfalso; omega))); (try (revert hzz; intro _)))
        all_goals try (rename Unit => hq; clear hq)
        all_goals try ((with_reducible refine Held.mk ?_); (with_reducible (first | refine Frz.mk ?_ | refine And.intro (Frz.mk ?_) ?_ | refine And.intro ?_ (Frz.mk ?_))); repeat' first | exact True.intro | (change _ = _; with_reducible rfl) | refine And.intro ?_ ?_ | (with_reducible refine Frz.mk ?_))
        all_goals try (refine Held.mk ?_; (try dsimp only at *); (try simp only [resTy, argTy, eqD, inR, big, wantOf, Bool.not_true, Bool.not_false, Bool.true_eq, decide_eq_true_eq, decide_eq_false_iff_not, Bool.not_eq_true', Bool.not_eq_false', Bool.and_eq_true, Prod.mk.injEq, and_true, true_and, Int.not_lt, Int.not_le, gt_iff_lt, ge_iff_le] at *); (try simp only [resTy, argTy, eqD, inR, big, wantOf, Bool.not_true, Bool.not_false, Bool.true_eq, decide_eq_true_eq, decide_eq_false_iff_not, Bool.not_eq_true', Bool.not_eq_false', Bool.and_eq_true, Prod.mk.injEq, and_true, true_and, Int.not_lt, Int.not_le, gt_iff_lt, ge_iff_le, fWithin, ho, ho1, hM, ecm] at *))
        all_goals try omega
        all_goals first | exact ⟨hl, hl2⟩ | exact hmo | exact ⟨hl, hpo⟩
    · have hx : ¬ opErr L xs s = 0 := ho
      repeat' (intro hzz; (try (rename Two => hq; cases hq)); (try dsimp only at hzz); (try simp only [resTy, argTy, eqD, inR, big, wantOf, Bool.not_true, Bool.not_false, Bool.true_eq, decide_eq_true_eq, decide_eq_false_iff_not, Bool.not_eq_true', Bool.not_eq_false', Bool.and_eq_true, Prod.mk.injEq, and_true, true_and, Int.not_lt, Int.not_le, gt_iff_lt, ge_iff_le] at hzz); (try simp only [resTy, argTy, eqD, inR, big, wantOf, Bool.not_true, Bool.not_false, Bool.true_eq, decide_eq_true_eq, decide_eq_false_iff_not, Bool.not_eq_true', Bool.not_eq_false', Bool.and_eq_true, Prod.mk.injEq, and_true, true_and, Int.not_lt, Int.not_le, gt_iff_lt, ge_iff_le, hx] at hzz); (try (first | contradiction | (exfalso; omega))); (try (revert hzz; intro _)))
      all_goals try (rename Unit => hq; clear hq)
      all_goals try ((with_reducible refine Held.mk ?_); (with_reducible (first | refine Frz.mk ?_ | refine And.intro (Frz.mk ?_) ?_ | refine And.intro ?_ (Frz.mk ?_))); repeat' first | exact True.intro | (change _ = _; with_reducible rfl) | refine And.intro ?_ ?_ | (with_reducible refine Frz.mk ?_))
      all_goals try (refine Held.mk ?_; (try dsimp only at *); (try simp only [resTy, argTy, eqD, inR, big, wantOf, Bool.not_true, Bool.not_false, Bool.true_eq, decide_eq_true_eq, decide_eq_false_iff_not, Bool.not_eq_true', Bool.not_eq_false', Bool.and_eq_true, Prod.mk.injEq, and_true, true_and, Int.not_lt, Int.not_le, gt_iff_lt, ge_iff_le] at *); (try simp only [resTy, argTy, eqD, inR, big, wantOf, Bool.not_true, Bool.not_false, Bool.true_eq, decide_eq_true_eq, decide_eq_false_iff_not, Bool.not_eq_true', Bool.not_eq_false', Bool.and_eq_true, Prod.mk.injEq, and_true, true_and, Int.not_lt, Int.not_le, gt_iff_lt, ge_iff_le, hx] at *))
      all_goals try omega
      all_goals first | exact ⟨hl, hl2⟩ | exact hl
  · have hx : ¬ (xs.length : Int) ≤ 12 := h12
    repeat' (intro hzz; (try (rename Two => hq; cases hq)); (try dsimp only at hzz); (try simp only [resTy, argTy, eqD, inR, big, wantOf, Bool.not_true, Bool.not_false, Bool.true_eq, decide_eq_true_eq, decide_eq_false_iff_not, Bool.not_eq_true', Bool.not_eq_false', Bool.and_eq_true, Prod.mk.injEq, and_true, true_and, Int.not_lt, Int.not_le, gt_iff_lt, ge_iff_le] at hzz); (try (first | contradiction | (exfalso; omega))); (try (revert hzz; intro _)))
    all_goals try (rename Unit => hq; clear hq)
    all_goals try ((with_reducible refine Held.mk ?_); (with_reducible (first | refine Frz.mk ?_ | refine And.intro (Frz.mk ?_) ?_ | refine And.intro ?_ (Frz.mk ?_))); repeat' first | exact True.intro | (change _ = _; with_reducible rfl) | refine And.intro ?_ ?_ | (with_reducible refine Frz.mk ?_))
    all_goals try (refine Held.mk ?_; (try dsimp only at *); (try simp only [resTy, argTy, eqD, inR, big, wantOf, Bool.not_true, Bool.not_false, Bool.true_eq, decide_eq_true_eq, decide_eq_false_iff_not, Bool.not_eq_true', Bool.not_eq_false', Bool.and_eq_true, Prod.mk.injEq, and_true, true_and, Int.not_lt, Int.not_le, gt_iff_lt, ge_iff_le] at *))
    all_goals try omega

end Go.Eng.Pu
