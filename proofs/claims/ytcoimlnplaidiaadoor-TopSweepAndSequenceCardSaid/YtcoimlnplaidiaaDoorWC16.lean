/- The law TopSweepAndSequence as a contract. Conditions: the variable turns holds what its text lays. -/
import Derived.Test.YtcoimlnplaidiaaDoorWC14
import Derived.Test.YtcoimlnplaidiaaDoorWC15
namespace Go.Eng.Pu
open Go.Eng Go.Proofs
set_option linter.all false
set_option maxRecDepth 100000
set_option maxHeartbeats 8000000

theorem tL_eq {ps : List IP} (h : allFit ps = true) : tL ps = tab (nmF ps) ps.length := by unfold tL; rw [if_pos h]
theorem tL_all {ps : List IP} {B : Int} (h : okL B ps) (hB : B ≤ 16777216) : allFit ps = true := okL_fit (okL_mono h hB)
theorem pm_yes {L : Int} {ts : List Int} {s : Int} (h : pmB L ts s = true) : ts.length ≤ 8 ∧ opErr L ts s = 0 ∧ L ≤ 5 ∧ (per L ts 1 : Int) = most L := by
  unfold pmB at h
  rw [Bool.and_eq_true, Bool.and_eq_true, Bool.and_eq_true] at h
  exact ⟨of_decide_eq_true h.1, of_decide_eq_true h.2.1, of_decide_eq_true h.2.2.1, of_decide_eq_true h.2.2.2⟩

/-- A list, and 0 behind it. -/
def hzL (ps : List IP) (n : Nat) : List IP := tab (fun j => ps.getD j (0, 0, ())) n
theorem hzL_ok {ps : List IP} {B : Int} (hB : 0 ≤ B) (h : okL B ps) (n : Nat) : okL B (hzL ps n) := okL_tab hB fun i _ => h i

theorem hz_take {ps : List IP} (hp : okL 1000 ps) {N : Nat} (h : ps.length ≤ N) : List.take ps.length (tL (hzL ps N)) = tL ps := by
  rw [tL_eq (tL_all (hzL_ok (by decide) hp N) (by decide)), tL_eq (tL_all hp (by decide))]
  unfold hzL
  rw [tab_len, tab_take _ h]
  refine tab_congr _ fun i hi => ?_
  unfold nmF
  rw [tab_get _ _ _ _ (by omega)]

/-- What is swept of small numbers, and divided. -/
theorem sweep_ok {ps : List IP} {c s : Int} (hc : 1 ≤ c ∧ c ≤ 40) (hp : okL 1000 ps) (h1 : 1 ≤ ps.length) (h2 : ps.length ≤ 31) :
    swE (tL ps) (tL (chL' c s)) = 0 ∧ swR (tL ps) (tL (chL' c s)) = tL (swL ps (chL' c s)) ∧ dvE (tL (swL ps (chL' c s))) (tL (chL' c s)) = 0 ∧ dvL (tL (swL ps (chL' c s))) (tL (chL' c s)) = tL (hzL ps (ps.length + c.toNat - 1)) := by
  have hl : (chL' c s).length = c.toNat := tab_len _ _
  have hN : swN ps (chL' c s) = ps.length + c.toNat - 1 := by unfold swN; rw [hl]
  have hsl : (swL ps (chL' c s)).length = swN ps (chL' c s) := tab_len _ _
  have hok : okL 100000 (swL ps (chL' c s)) := okL_tab (by decide) fun i _ => inBP_mono (swV_small (by decide) hp (chL_ok c s) i ps.length) (by omega)
  have hf : allFit (swL ps (chL' c s)) = true := tL_all hok (by decide)
  obtain ⟨a1, a2, a3⟩ := tL_read (tL_all hp (by decide)) h1 (by omega)
  obtain ⟨b1, b2, b3⟩ := tL_read (chL_fit c s) (by omega) (by omega)
  obtain ⟨c1, c2, c3⟩ := tL_read hf (by omega) (by omega)
  have ht : twE (tL ps) (tL (chL' c s)) = 0 := by unfold twE; rw [if_pos a1, b1]
  have hn : ¬ 1024 < swN ps (chL' c s) := by omega
  have ht2 : twE (tL (swL ps (chL' c s))) (tL (chL' c s)) = 0 := by unfold twE; rw [if_pos c1, b1]
  have hq := chL_first (slow := s) hc.1
  have hu : unB ((chL' c s).getD 0 (0, 0, ())) = true := by rw [hq]; rfl
  have hd : dvR (swL ps (chL' c s)) (chL' c s) (swL ps (chL' c s)).length = hzL ps (ps.length + c.toNat - 1) := by
    rw [hsl, dvR_back hq (by omega) _ (Nat.le_refl _), hN]; rfl
  have hfb : allFit (hzL ps (ps.length + c.toNat - 1)) = true := tL_all (hzL_ok (by decide) hp _) (by decide)
  refine ⟨?_, ?_, ?_, ?_⟩
  · unfold swE
    rw [if_pos ht, a2, b2, if_neg hn]
    unfold tE; rw [if_pos hf]
  · unfold swR
    rw [if_pos ht, a2, b2, if_neg hn]
  · unfold dvE
    rw [if_pos ht2, c2, b2, if_pos hu, hd]
    unfold tE; rw [if_pos hfb]
  · unfold dvL
    rw [if_pos ht2, c2, b2, if_pos hu, hd]

/-- A list that is no longer than the period, folded. -/
theorem flL_short {ps : List IP} {n : Nat} (h : ps.length ≤ n) : flL ps n ps.length = hzL ps n := by
  unfold flL hzL
  refine tab_congr n fun i hi => ?_
  have key : ∀ k, k ≤ n → flV ps n i k = if i < k then ps.getD i (0, 0, ()) else (0, 0, ()) := by
    intro k
    induction k with
    | zero => intro _; rw [if_neg (by omega)]; rfl
    | succ k ih =>
      intro hk
      show (if i = k % n then plusP (flV ps n i k) (ps.getD k (0, 0, ())) else flV ps n i k) = _
      rw [Nat.mod_eq_of_lt (by omega), ih (by omega)]
      by_cases e : i = k
      · subst e; rw [if_pos rfl, if_neg (by omega), if_pos (by omega), plusP_zero']
      · rw [if_neg e]
        by_cases h2 : i < k
        · rw [if_pos h2, if_pos (by omega)]
        · rw [if_neg h2, if_neg (by omega)]
  rw [key _ h]
  by_cases h2 : i < ps.length
  · rw [if_pos h2]
  · rw [if_neg h2, List.getD_eq_getElem?_getD, List.getElem?_eq_none (by omega)]; rfl

theorem trV_inB {B : Int} {ps : List IP} {sg : List Int} {a way : Int} (h : okL B ps) (hs : okS sg) : ∀ k : Nat, inBP (k * B) (trV ps sg a way k)
  | 0 => by show (_ ≤ (0 : Int) ∧ (0 : Int) ≤ _) ∧ (_ ≤ (0 : Int) ∧ (0 : Int) ≤ _); simp
  | k + 1 => by
    have ih := trV_inB (a := a) (way := way) h hs k
    have hk := h k
    have hsk := hs (fMod (way * (a - k)) sg.length).toNat
    have b1 := by_in hk.1.1 hk.1.2 hsk.1 hsk.2
    have b2 := by_in hk.2.1 hk.2.2 hsk.1 hsk.2
    have e : ((k + 1 : Nat) : Int) * B = k * B + B := by rw [Int.natCast_add, Int.add_mul]; simp
    rw [e]
    obtain ⟨i1, i2⟩ := ih
    show (_ ≤ (trV ps sg a way k).1 + (ps.getD k (0, 0, ())).1 * sg.getD (fMod (way * (a - k)) sg.length).toNat 0 ∧ (trV ps sg a way k).1 + (ps.getD k (0, 0, ())).1 * sg.getD (fMod (way * (a - k)) sg.length).toNat 0 ≤ _) ∧ (_ ≤ (trV ps sg a way k).2.1 + (ps.getD k (0, 0, ())).2.1 * sg.getD (fMod (way * (a - k)) sg.length).toNat 0 ∧ (trV ps sg a way k).2.1 + (ps.getD k (0, 0, ())).2.1 * sg.getD (fMod (way * (a - k)) sg.length).toNat 0 ≤ _)
    omega

/-- What is excited of small numbers, and unfolded. -/
theorem excite_ok {ps : List IP} {L : Int} {ts : List Int} {s : Int} (m : Mx L ts s) (ho : opErr L ts s = 0) (hp : okL 1000 ps) (h1 : 1 ≤ ps.length) (h2 : (ps.length : Int) ≤ most L) (h3 : most L ≤ 31) :
    exE (tL ps) L ts s = 0 ∧ exR (tL ps) L ts s = tL (exL (tL ps) L ts s) ∧ ufE (tL (exL (tL ps) L ts s)) L ts s = 0 ∧ ufR (tL (exL (tL ps) L ts s)) L ts s = tL (hzL ps (most L).toNat) := by
  have hpos := m.pos
  obtain ⟨a1, a2, a3⟩ := tL_read (tL_all hp (by decide)) h1 (by omega)
  have hx : exf (tL ps) L = hzL ps (most L).toNat := by
    unfold exf
    rw [a2]
    exact flL_short (by omega)
  have hox : okL 1000 (exf (tL ps) L) := by rw [hx]; exact hzL_ok (by decide) hp _
  have hfx : allFit (exf (tL ps) L) = true := tL_all hox (by decide)
  have hel : (exL (tL ps) L ts s).length = (most L).toNat := tab_len _ _
  have hoe : okL 16777216 (exL (tL ps) L ts s) := okL_tab (by decide) fun i _ => by
    have b := trV_inB (a := i) (way := 1) hox (sgL_ok m.hst) (exf (tL ps) L).length
    have hl := exf_len (tL ps) L
    unfold exF
    exact inBP_mono b (by rw [hl]; omega)
  have hfe : allFit (exL (tL ps) L ts s) = true := okL_fit hoe
  obtain ⟨c1, c2, c3⟩ := tL_read hfe (by omega) (by omega)
  obtain ⟨d1, d2⟩ := unfold_exact (ys := tL (exL (tL ps) L ts s)) (xs := tL ps) m c1 c2 hfx
  refine ⟨?_, ?_, d1, by rw [d2, hx]⟩
  · unfold exE
    rw [if_pos a1, if_pos ho, if_pos hfx]
    unfold tE; rw [if_pos hfe]
  · unfold exR
    rw [if_pos a1, if_pos ho, if_pos hfx]

@[reducible] def sLaw4d : Spec := { pats := [.gl 0 TurnT, .dat (.sl PairT), .dat StartT', .dat PairT], res := [{ t := .bool }], pre := fun x => x.1 = turnsD, f := fun _ => (true, ()) }

/-- TopSweepAndSequence -/
theorem h4d : Ok 4 sLaw4d := by
  refine mk (ctr := [(10, sPulsed), (11, sPMax), (12, sMost), (13, sWithin), (14, sPNum), (7, sChirp), (16, sCopyC), (15, sSwept), (17, sDiv), (19, sCopy), (18, sExc), (20, sUnf), (9, sSameN)]) ⟨h77, h78, h68, h25, h79, h7d, h80, h72, h73, h19, h31n, h53n, h34n, trivial⟩ (nt := 150) Tryd.func4 rfl rfl rfl rfl (by kernel_rfl) (by kernel_rfl) (fun _ => []) ?_
  rintro ⟨t, (l : List IP), ⟨⟨(L : Int), (ts : List Int), _⟩, (s0 : Int), _⟩, ⟨(c : Int), (s : Int), _⟩, _⟩ ht
  have ht : t = turnsD := ht
  subst ht
  by_cases hl0 : l.length = 0
  · 
    repeat' (intro hzz; (try (rename Two => hq; cases hq)); (try dsimp only at hzz); (try simp only [resTy, argTy, eqD, inR, big, wantOf, Bool.not_true, Bool.not_false, Bool.true_eq, decide_eq_true_eq, decide_eq_false_iff_not, Bool.not_eq_true', Bool.not_eq_false', Bool.and_eq_true, Prod.mk.injEq, and_true, true_and, Int.not_lt, Int.not_le, gt_iff_lt, ge_iff_le] at hzz); (try (first | contradiction | (exfalso; omega))); (try (revert hzz; intro _)))
    all_goals try (rename Unit => hq; clear hq)
    all_goals try ((with_reducible refine Held.mk ?_); (with_reducible (first | refine Frz.mk ?_ | refine And.intro (Frz.mk ?_) ?_ | refine And.intro ?_ (Frz.mk ?_))); repeat' first | exact True.intro | (change _ = _; with_reducible rfl) | refine And.intro ?_ ?_ | (with_reducible refine Frz.mk ?_))
    all_goals try (refine Held.mk ?_; (try dsimp only at *); (try simp only [resTy, argTy, eqD, inR, big, wantOf, Bool.not_true, Bool.not_false, Bool.true_eq, decide_eq_true_eq, decide_eq_false_iff_not, Bool.not_eq_true', Bool.not_eq_false', Bool.and_eq_true, Prod.mk.injEq, and_true, true_and, Int.not_lt, Int.not_le, gt_iff_lt, ge_iff_le] at *))
    all_goals try omega
  by_cases hl1 : 31 < l.length
  · 
    repeat' (intro hzz; (try (rename Two => hq; cases hq)); (try dsimp only at hzz); (try simp only [resTy, argTy, eqD, inR, big, wantOf, Bool.not_true, Bool.not_false, Bool.true_eq, decide_eq_true_eq, decide_eq_false_iff_not, Bool.not_eq_true', Bool.not_eq_false', Bool.and_eq_true, Prod.mk.injEq, and_true, true_and, Int.not_lt, Int.not_le, gt_iff_lt, ge_iff_le] at hzz); (try (first | contradiction | (exfalso; omega))); (try (revert hzz; intro _)))
    all_goals try (rename Unit => hq; clear hq)
    all_goals try ((with_reducible refine Held.mk ?_); (with_reducible (first | refine Frz.mk ?_ | refine And.intro (Frz.mk ?_) ?_ | refine And.intro ?_ (Frz.mk ?_))); repeat' first | exact True.intro | (change _ = _; with_reducible rfl) | refine And.intro ?_ ?_ | (with_reducible refine Frz.mk ?_))
    all_goals try (refine Held.mk ?_; (try dsimp only at *); (try simp only [resTy, argTy, eqD, inR, big, wantOf, Bool.not_true, Bool.not_false, Bool.true_eq, decide_eq_true_eq, decide_eq_false_iff_not, Bool.not_eq_true', Bool.not_eq_false', Bool.and_eq_true, Prod.mk.injEq, and_true, true_and, Int.not_lt, Int.not_le, gt_iff_lt, ge_iff_le] at *))
    all_goals try omega
  by_cases hm : pmB L ts s0 = true
  · obtain ⟨h8, ho, h5, hM⟩ := pm_yes hm
    have htp : pLen ts.length := by unfold pLen; omega
    obtain ⟨hst, hs1⟩ := op_pSt htp ho
    have hL := (chk_zero hst.1).1
    have m : Mx L ts s0 := ⟨hst, hs1, hM⟩
    have hpos := m.pos
    have h31 : most L ≤ 31 := by
      have : L = 2 ∨ L = 3 ∨ L = 4 ∨ L = 5 := by omega
      rcases this with rfl | rfl | rfl | rfl <;> decide
    by_cases hn : most L < (l.length : Int)
    · 
      repeat' (intro hzz; (try (rename Two => hq; cases hq)); (try dsimp only at hzz); (try simp only [resTy, argTy, eqD, inR, big, wantOf, Bool.not_true, Bool.not_false, Bool.true_eq, decide_eq_true_eq, decide_eq_false_iff_not, Bool.not_eq_true', Bool.not_eq_false', Bool.and_eq_true, Prod.mk.injEq, and_true, true_and, Int.not_lt, Int.not_le, gt_iff_lt, ge_iff_le] at hzz); (try simp only [resTy, argTy, eqD, inR, big, wantOf, Bool.not_true, Bool.not_false, Bool.true_eq, decide_eq_true_eq, decide_eq_false_iff_not, Bool.not_eq_true', Bool.not_eq_false', Bool.and_eq_true, Prod.mk.injEq, and_true, true_and, Int.not_lt, Int.not_le, gt_iff_lt, ge_iff_le, hm, hn] at hzz); (try (first | contradiction | (exfalso; omega))); (try (revert hzz; intro _)))
      all_goals try (rename Unit => hq; clear hq)
      all_goals try ((with_reducible refine Held.mk ?_); (with_reducible (first | refine Frz.mk ?_ | refine And.intro (Frz.mk ?_) ?_ | refine And.intro ?_ (Frz.mk ?_))); repeat' first | exact True.intro | (change _ = _; with_reducible rfl) | refine And.intro ?_ ?_ | (with_reducible refine Frz.mk ?_))
      all_goals try (refine Held.mk ?_; (try dsimp only at *); (try simp only [resTy, argTy, eqD, inR, big, wantOf, Bool.not_true, Bool.not_false, Bool.true_eq, decide_eq_true_eq, decide_eq_false_iff_not, Bool.not_eq_true', Bool.not_eq_false', Bool.and_eq_true, Prod.mk.injEq, and_true, true_and, Int.not_lt, Int.not_le, gt_iff_lt, ge_iff_le] at *); (try simp only [resTy, argTy, eqD, inR, big, wantOf, Bool.not_true, Bool.not_false, Bool.true_eq, decide_eq_true_eq, decide_eq_false_iff_not, Bool.not_eq_true', Bool.not_eq_false', Bool.and_eq_true, Prod.mk.injEq, and_true, true_and, Int.not_lt, Int.not_le, gt_iff_lt, ge_iff_le, hm, hn] at *))
      all_goals try omega
      all_goals first | omega | exact ⟨by omega, by decide, by decide⟩ | exact ⟨htp, by omega⟩ | exact ⟨by omega, o1⟩ | exact ⟨show ((tL l).length : Int) ≤ 2000000000 by omega, o1⟩ | skip
    by_cases hc : 1 ≤ c ∧ c ≤ 40
    · by_cases hs : 1 ≤ s ∧ s ≤ 1000
      · have wc : fWithin c 1 40 = true := decide_eq_true hc
        have ws : fWithin s 1 1000 = true := decide_eq_true hs
        by_cases hin : inAll 1000 l = true
        · have hp : okL 1000 l := fun i => inAll_at (B := 1000) (by decide) hin i
          have hsp : tab (nmF l) l.length = tL l := (tL_eq (tL_all hp (by decide))).symm
          have hc1 : chOk c s = true := by unfold chOk; rw [decide_eq_true (show 1 ≤ c ∧ c ≤ 1024 by omega), decide_eq_true hs]; rfl
          have u1 : chE c s = 0 := by unfold chE; rw [if_pos hc1]
          have u2 : chR c s = tL (chL' c s) := by unfold chR; rw [if_pos hc1]
          obtain ⟨v1, v2, v3, v4⟩ := sweep_ok (s := s) hc hp (by omega) (by omega)
          obtain ⟨x1, x2, x3, x4⟩ := excite_ok m ho hp (by omega) (by omega) h31
          have lX : ((tL l).length : Int) = (l.length : Int) := by rw [tL_eq (tL_all hp (by decide)), tab_len]
          have lD : ((tL (hzL l (l.length + c.toNat - 1))).length : Int) = (l.length : Int) + c - 1 := by
            rw [tL_eq (tL_all (hzL_ok (by decide) hp _) (by decide)), tab_len]; unfold hzL; rw [tab_len]; omega
          have lU : ((tL (hzL l (most L).toNat)).length : Int) = most L := by
            rw [tL_eq (tL_all (hzL_ok (by decide) hp _) (by decide)), tab_len]; unfold hzL; rw [tab_len]; omega
          have lQ : (tL (chL' c s)).length = c.toNat := by
            rw [tL_eq (chL_fit c s), tab_len]; unfold chL'; rw [tab_len]
          have kc : (c.toNat : Int) = c ∧ 1 ≤ c.toNat ∧ c.toNat ≤ 40 := by omega
          have kl : 1 ≤ l.length ∧ l.length ≤ 31 ∧ l.length ≤ (most L).toNat := by omega
          have t1 := hz_take hp (N := l.length + c.toNat - 1) (by omega)
          have t2 := hz_take hp (N := (most L).toNat) (by omega)
          have o1 := tL_ok l
          have p1 : (tL l).length ≤ 31 := by omega
          repeat' (intro hzz; (try (rename Two => hq; cases hq)); (try dsimp only at hzz); (try simp only [resTy, argTy, eqD, inR, big, wantOf, Bool.not_true, Bool.not_false, Bool.true_eq, decide_eq_true_eq, decide_eq_false_iff_not, Bool.not_eq_true', Bool.not_eq_false', Bool.and_eq_true, Prod.mk.injEq, and_true, true_and, Int.not_lt, Int.not_le, gt_iff_lt, ge_iff_le] at hzz); (try simp only [resTy, argTy, eqD, inR, big, wantOf, Bool.not_true, Bool.not_false, Bool.true_eq, decide_eq_true_eq, decide_eq_false_iff_not, Bool.not_eq_true', Bool.not_eq_false', Bool.and_eq_true, Prod.mk.injEq, and_true, true_and, Int.not_lt, Int.not_le, gt_iff_lt, ge_iff_le, not_true_eq_false, not_false_eq_true, hl0, hl1, hm, hn, wc, ws, hin, if_true, hsp, u1, u2, v1, v2, v3, v4, x1, x2, x3, x4, lX, lD, lU, Int.toNat_natCast, t1, t2] at hzz); (try (revert hzz; intro _)))
          all_goals try (rename Unit => hq; clear hq)
          all_goals try ((with_reducible refine Held.mk ?_); (with_reducible (first | refine Frz.mk ?_ | refine And.intro (Frz.mk ?_) ?_ | refine And.intro ?_ (Frz.mk ?_))); repeat' first | exact True.intro | (change _ = _; with_reducible rfl) | refine And.intro ?_ ?_ | (with_reducible refine Frz.mk ?_))
          all_goals try (refine Held.mk ?_; (try dsimp only at *); (try simp only [resTy, argTy, eqD, inR, big, wantOf, Bool.not_true, Bool.not_false, Bool.true_eq, decide_eq_true_eq, decide_eq_false_iff_not, Bool.not_eq_true', Bool.not_eq_false', Bool.and_eq_true, Prod.mk.injEq, and_true, true_and, Int.not_lt, Int.not_le, gt_iff_lt, ge_iff_le] at *); (try simp only [resTy, argTy, eqD, inR, big, wantOf, Bool.not_true, Bool.not_false, Bool.true_eq, decide_eq_true_eq, decide_eq_false_iff_not, Bool.not_eq_true', Bool.not_eq_false', Bool.and_eq_true, Prod.mk.injEq, and_true, true_and, Int.not_lt, Int.not_le, gt_iff_lt, ge_iff_le, not_true_eq_false, not_false_eq_true, hl0, hl1, hm, hn, wc, ws, hin, if_true, hsp, u1, u2, v1, v2, v3, v4, x1, x2, x3, x4, lX, lD, lU, Int.toNat_natCast, t1, t2] at *))
          all_goals try omega
          all_goals first | omega | exact ⟨by omega, by decide, by decide⟩ | exact ⟨htp, by omega⟩ | exact ⟨by omega, o1⟩ | exact ⟨show ((tL l).length : Int) ≤ 2000000000 by omega, o1⟩ | skip
        · have hin : inAll 1000 l = false := by simpa using hin
          repeat' (intro hzz; (try (rename Two => hq; cases hq)); (try dsimp only at hzz); (try simp only [resTy, argTy, eqD, inR, big, wantOf, Bool.not_true, Bool.not_false, Bool.true_eq, decide_eq_true_eq, decide_eq_false_iff_not, Bool.not_eq_true', Bool.not_eq_false', Bool.and_eq_true, Prod.mk.injEq, and_true, true_and, Int.not_lt, Int.not_le, gt_iff_lt, ge_iff_le] at hzz); (try simp only [resTy, argTy, eqD, inR, big, wantOf, Bool.not_true, Bool.not_false, Bool.true_eq, decide_eq_true_eq, decide_eq_false_iff_not, Bool.not_eq_true', Bool.not_eq_false', Bool.and_eq_true, Prod.mk.injEq, and_true, true_and, Int.not_lt, Int.not_le, gt_iff_lt, ge_iff_le, hm, hn, wc, ws, hin] at hzz); (try (first | contradiction | (exfalso; omega))); (try (revert hzz; intro _)))
          all_goals try (rename Unit => hq; clear hq)
          all_goals try ((with_reducible refine Held.mk ?_); (with_reducible (first | refine Frz.mk ?_ | refine And.intro (Frz.mk ?_) ?_ | refine And.intro ?_ (Frz.mk ?_))); repeat' first | exact True.intro | (change _ = _; with_reducible rfl) | refine And.intro ?_ ?_ | (with_reducible refine Frz.mk ?_))
          all_goals try (refine Held.mk ?_; (try dsimp only at *); (try simp only [resTy, argTy, eqD, inR, big, wantOf, Bool.not_true, Bool.not_false, Bool.true_eq, decide_eq_true_eq, decide_eq_false_iff_not, Bool.not_eq_true', Bool.not_eq_false', Bool.and_eq_true, Prod.mk.injEq, and_true, true_and, Int.not_lt, Int.not_le, gt_iff_lt, ge_iff_le] at *); (try simp only [resTy, argTy, eqD, inR, big, wantOf, Bool.not_true, Bool.not_false, Bool.true_eq, decide_eq_true_eq, decide_eq_false_iff_not, Bool.not_eq_true', Bool.not_eq_false', Bool.and_eq_true, Prod.mk.injEq, and_true, true_and, Int.not_lt, Int.not_le, gt_iff_lt, ge_iff_le, hm, hn, wc, ws, hin] at *))
          all_goals try omega
          all_goals first | omega | exact ⟨by omega, by decide, by decide⟩ | exact ⟨htp, by omega⟩ | exact ⟨by omega, o1⟩ | exact ⟨show ((tL l).length : Int) ≤ 2000000000 by omega, o1⟩ | skip
      · have wc : fWithin c 1 40 = true := decide_eq_true hc
        have ws : fWithin s 1 1000 = false := decide_eq_false hs
        repeat' (intro hzz; (try (rename Two => hq; cases hq)); (try dsimp only at hzz); (try simp only [resTy, argTy, eqD, inR, big, wantOf, Bool.not_true, Bool.not_false, Bool.true_eq, decide_eq_true_eq, decide_eq_false_iff_not, Bool.not_eq_true', Bool.not_eq_false', Bool.and_eq_true, Prod.mk.injEq, and_true, true_and, Int.not_lt, Int.not_le, gt_iff_lt, ge_iff_le] at hzz); (try simp only [resTy, argTy, eqD, inR, big, wantOf, Bool.not_true, Bool.not_false, Bool.true_eq, decide_eq_true_eq, decide_eq_false_iff_not, Bool.not_eq_true', Bool.not_eq_false', Bool.and_eq_true, Prod.mk.injEq, and_true, true_and, Int.not_lt, Int.not_le, gt_iff_lt, ge_iff_le, hm, hn, wc, ws] at hzz); (try (first | contradiction | (exfalso; omega))); (try (revert hzz; intro _)))
        all_goals try (rename Unit => hq; clear hq)
        all_goals try ((with_reducible refine Held.mk ?_); (with_reducible (first | refine Frz.mk ?_ | refine And.intro (Frz.mk ?_) ?_ | refine And.intro ?_ (Frz.mk ?_))); repeat' first | exact True.intro | (change _ = _; with_reducible rfl) | refine And.intro ?_ ?_ | (with_reducible refine Frz.mk ?_))
        all_goals try (refine Held.mk ?_; (try dsimp only at *); (try simp only [resTy, argTy, eqD, inR, big, wantOf, Bool.not_true, Bool.not_false, Bool.true_eq, decide_eq_true_eq, decide_eq_false_iff_not, Bool.not_eq_true', Bool.not_eq_false', Bool.and_eq_true, Prod.mk.injEq, and_true, true_and, Int.not_lt, Int.not_le, gt_iff_lt, ge_iff_le] at *); (try simp only [resTy, argTy, eqD, inR, big, wantOf, Bool.not_true, Bool.not_false, Bool.true_eq, decide_eq_true_eq, decide_eq_false_iff_not, Bool.not_eq_true', Bool.not_eq_false', Bool.and_eq_true, Prod.mk.injEq, and_true, true_and, Int.not_lt, Int.not_le, gt_iff_lt, ge_iff_le, hm, hn, wc, ws] at *))
        all_goals try omega
        all_goals first | omega | exact ⟨by omega, by decide, by decide⟩ | exact ⟨htp, by omega⟩ | exact ⟨by omega, o1⟩ | exact ⟨show ((tL l).length : Int) ≤ 2000000000 by omega, o1⟩ | skip
    · have wc : fWithin c 1 40 = false := decide_eq_false hc
      repeat' (intro hzz; (try (rename Two => hq; cases hq)); (try dsimp only at hzz); (try simp only [resTy, argTy, eqD, inR, big, wantOf, Bool.not_true, Bool.not_false, Bool.true_eq, decide_eq_true_eq, decide_eq_false_iff_not, Bool.not_eq_true', Bool.not_eq_false', Bool.and_eq_true, Prod.mk.injEq, and_true, true_and, Int.not_lt, Int.not_le, gt_iff_lt, ge_iff_le] at hzz); (try simp only [resTy, argTy, eqD, inR, big, wantOf, Bool.not_true, Bool.not_false, Bool.true_eq, decide_eq_true_eq, decide_eq_false_iff_not, Bool.not_eq_true', Bool.not_eq_false', Bool.and_eq_true, Prod.mk.injEq, and_true, true_and, Int.not_lt, Int.not_le, gt_iff_lt, ge_iff_le, hm, hn, wc] at hzz); (try (first | contradiction | (exfalso; omega))); (try (revert hzz; intro _)))
      all_goals try (rename Unit => hq; clear hq)
      all_goals try ((with_reducible refine Held.mk ?_); (with_reducible (first | refine Frz.mk ?_ | refine And.intro (Frz.mk ?_) ?_ | refine And.intro ?_ (Frz.mk ?_))); repeat' first | exact True.intro | (change _ = _; with_reducible rfl) | refine And.intro ?_ ?_ | (with_reducible refine Frz.mk ?_))
      all_goals try (refine Held.mk ?_; (try dsimp only at *); (try simp only [resTy, argTy, eqD, inR, big, wantOf, Bool.not_true, Bool.not_false, Bool.true_eq, decide_eq_true_eq, decide_eq_false_iff_not, Bool.not_eq_true', Bool.not_eq_false', Bool.and_eq_true, Prod.mk.injEq, and_true, true_and, Int.not_lt, Int.not_le, gt_iff_lt, ge_iff_le] at *); (try simp only [resTy, argTy, eqD, inR, big, wantOf, Bool.not_true, Bool.not_false, Bool.true_eq, decide_eq_true_eq, decide_eq_false_iff_not, Bool.not_eq_true', Bool.not_eq_false', Bool.and_eq_true, Prod.mk.injEq, and_true, true_and, Int.not_lt, Int.not_le, gt_iff_lt, ge_iff_le, hm, hn, wc] at *))
      all_goals try omega
      all_goals first | omega | exact ⟨by omega, by decide, by decide⟩ | exact ⟨htp, by omega⟩ | exact ⟨by omega, o1⟩ | exact ⟨show ((tL l).length : Int) ≤ 2000000000 by omega, o1⟩ | skip
  · have hm : pmB L ts s0 = false := by simpa using hm
    repeat' (intro hzz; (try (rename Two => hq; cases hq)); (try dsimp only at hzz); (try simp only [resTy, argTy, eqD, inR, big, wantOf, Bool.not_true, Bool.not_false, Bool.true_eq, decide_eq_true_eq, decide_eq_false_iff_not, Bool.not_eq_true', Bool.not_eq_false', Bool.and_eq_true, Prod.mk.injEq, and_true, true_and, Int.not_lt, Int.not_le, gt_iff_lt, ge_iff_le] at hzz); (try simp only [resTy, argTy, eqD, inR, big, wantOf, Bool.not_true, Bool.not_false, Bool.true_eq, decide_eq_true_eq, decide_eq_false_iff_not, Bool.not_eq_true', Bool.not_eq_false', Bool.and_eq_true, Prod.mk.injEq, and_true, true_and, Int.not_lt, Int.not_le, gt_iff_lt, ge_iff_le, hm] at hzz); (try (first | contradiction | (exfalso; omega))); (try (revert hzz; intro _)))
    all_goals try (rename Unit => hq; clear hq)
    all_goals try ((with_reducible refine Held.mk ?_); (with_reducible (first | refine Frz.mk ?_ | refine And.intro (Frz.mk ?_) ?_ | refine And.intro ?_ (Frz.mk ?_))); repeat' first | exact True.intro | (change _ = _; with_reducible rfl) | refine And.intro ?_ ?_ | (with_reducible refine Frz.mk ?_))
    all_goals try (refine Held.mk ?_; (try dsimp only at *); (try simp only [resTy, argTy, eqD, inR, big, wantOf, Bool.not_true, Bool.not_false, Bool.true_eq, decide_eq_true_eq, decide_eq_false_iff_not, Bool.not_eq_true', Bool.not_eq_false', Bool.and_eq_true, Prod.mk.injEq, and_true, true_and, Int.not_lt, Int.not_le, gt_iff_lt, ge_iff_le] at *); (try simp only [resTy, argTy, eqD, inR, big, wantOf, Bool.not_true, Bool.not_false, Bool.true_eq, decide_eq_true_eq, decide_eq_false_iff_not, Bool.not_eq_true', Bool.not_eq_false', Bool.and_eq_true, Prod.mk.injEq, and_true, true_and, Int.not_lt, Int.not_le, gt_iff_lt, ge_iff_le, hm] at *))
    all_goals try omega

end Go.Eng.Pu
