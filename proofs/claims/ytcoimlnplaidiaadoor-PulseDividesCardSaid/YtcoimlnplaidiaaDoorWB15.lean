/- The law PulseDivides as a contract. Conditions: the variable turns holds what its text lays. -/
import Derived.Test.YtcoimlnplaidiaaDoorWB14
namespace Go.Eng.Pu
open Go.Eng Go.Proofs
set_option linter.all false
set_option maxRecDepth 100000
set_option maxHeartbeats 8000000

/-- A number with small parts, otherwise 0. -/
def clP (p : IP) : IP := if (fWithin p.1 (-10000) 10000 && fWithin p.2.1 (-10000) 10000) = true then p else (0, 0, ())
def clA (a : List IP) (n : Nat) : List IP := tab (fun i => clP (a.getD i (0, 0, ()))) n
def clS (a b : List IP) (n : Nat) : List IP := tab (fun i => plusP (clP (b.getD i (0, 0, ()))) (clP (a.getD i (0, 0, ())))) n

theorem clP_in (p : IP) : inBP 10000 (clP p) := by
  unfold clP
  split
  · rename_i h
    rw [Bool.and_eq_true] at h
    exact ⟨of_decide_eq_true h.1, of_decide_eq_true h.2⟩
  · exact ⟨⟨by decide, by decide⟩, ⟨by decide, by decide⟩⟩
theorem clP_yes {p : IP} (h1 : -10000 ≤ p.1 ∧ p.1 ≤ 10000) (h2 : -10000 ≤ p.2.1 ∧ p.2.1 ≤ 10000) : clP p = p := by
  unfold clP
  rw [if_pos (by rw [Bool.and_eq_true]; exact ⟨decide_eq_true h1, decide_eq_true h2⟩)]
theorem clA_len (a : List IP) (n : Nat) : (clA a n).length = n := tab_len _ _
theorem clS_len (a b : List IP) (n : Nat) : (clS a b n).length = n := tab_len _ _
theorem clA_ok (a : List IP) (n : Nat) : okL 10000 (clA a n) := okL_tab (by decide) fun i _ => clP_in _
theorem clS_ok (a b : List IP) (n : Nat) : okL 20000 (clS a b n) := okL_tab (by decide) fun i _ => plusP_in (clP_in _) (clP_in _)
theorem clS_get (a b : List IP) (n : Nat) (i : Nat) : (clS a b n).getD i (0, 0, ()) = plusP ((clA b n).getD i (0, 0, ())) ((clA a n).getD i (0, 0, ())) := by
  by_cases h : i < n
  · unfold clS clA
    rw [tab_get _ _ _ _ h, tab_get _ _ _ _ h, tab_get _ _ _ _ h]
  · have e : ∀ ps : List IP, ps.length = n → ps.getD i (0, 0, ()) = (0, 0, ()) := fun ps hl => by
      rw [List.getD_eq_getElem?_getD, List.getElem?_eq_none (by omega)]; rfl
    rw [e _ (clS_len _ _ _), e _ (clA_len _ _), e _ (clA_len _ _)]; rfl

theorem tL_all {ps : List IP} {B : Int} (h : okL B ps) (hB : B ≤ 16777216) : allFit ps = true := okL_fit (okL_mono h hB)

/-- What a sweep of small numbers by a chirp tells. -/
theorem swept_ok {ps : List IP} {c s : Int} (hc : 1 ≤ c ∧ c ≤ 40) (hp : okL 20000 ps) (h1 : 1 ≤ ps.length) (h2 : ps.length ≤ 20) :
    swE (tL ps) (tL (chL' c s)) = 0 ∧ swR (tL ps) (tL (chL' c s)) = tL (swL ps (chL' c s)) ∧ lE (tL (chL' c s)) = 0 ∧ lP (tL (chL' c s)) = chL' c s := by
  have hl : (chL' c s).length = c.toNat := tab_len _ _
  obtain ⟨a1, a2, a3⟩ := tL_read (tL_all hp (by decide)) (by omega) (by omega)
  obtain ⟨b1, b2, b3⟩ := tL_read (chL_fit c s) (by omega) (by omega)
  have ht : twE (tL ps) (tL (chL' c s)) = 0 := by unfold twE; rw [if_pos a1, b1]
  have hn : ¬ 1024 < swN ps (chL' c s) := by unfold swN; omega
  have hf : allFit (swL ps (chL' c s)) = true := tL_all (swL_small hp (chL_ok c s) h2) (by decide)
  refine ⟨?_, ?_, b1, b2⟩
  · unfold swE
    rw [if_pos ht, a2, b2, if_neg hn]
    unfold tE; rw [if_pos hf]
  · unfold swR
    rw [if_pos ht, a2, b2, if_neg hn]

theorem tL_eq {ps : List IP} (h : allFit ps = true) : tL ps = tab (nmF ps) ps.length := by unfold tL; rw [if_pos h]

/-- The response, and 0 behind it. -/
def hzL (ps : List IP) (n : Nat) : List IP := tab (fun j => ps.getD j (0, 0, ())) n
theorem hzL_ok {ps : List IP} (h : okL 10000 ps) (n : Nat) : okL 10000 (hzL ps n) := okL_tab (by decide) fun i _ => h i

theorem div_ok {ps : List IP} {c s : Int} (hc : 1 ≤ c ∧ c ≤ 40) (hp : okL 10000 ps) (h1 : 1 ≤ ps.length) (h2 : ps.length ≤ 20) :
    dvE (tL (swL ps (chL' c s))) (tL (chL' c s)) = 0 ∧ dvL (tL (swL ps (chL' c s))) (tL (chL' c s)) = tL (hzL ps (ps.length + c.toNat - 1)) := by
  have hl : (chL' c s).length = c.toNat := tab_len _ _
  have hp2 : okL 20000 ps := okL_mono hp (by decide)
  have hf : allFit (swL ps (chL' c s)) = true := tL_all (swL_small hp2 (chL_ok c s) h2) (by decide)
  have hN : swN ps (chL' c s) = ps.length + c.toNat - 1 := by unfold swN; rw [hl]
  have hsl : (swL ps (chL' c s)).length = swN ps (chL' c s) := tab_len _ _
  obtain ⟨a1, a2, a3⟩ := tL_read hf (by omega) (by omega)
  obtain ⟨b1, b2, b3⟩ := tL_read (chL_fit c s) (by omega) (by omega)
  have ht : twE (tL (swL ps (chL' c s))) (tL (chL' c s)) = 0 := by unfold twE; rw [if_pos a1, b1]
  have hq := chL_first (slow := s) hc.1
  have hu : unB ((chL' c s).getD 0 (0, 0, ())) = true := by rw [hq]; rfl
  have hd : dvR (swL ps (chL' c s)) (chL' c s) (swL ps (chL' c s)).length = hzL ps (ps.length + c.toNat - 1) := by
    rw [hsl, dvR_back hq (by omega) _ (Nat.le_refl _), hN]; rfl
  have hfb : allFit (hzL ps (ps.length + c.toNat - 1)) = true := tL_all (hzL_ok hp _) (by decide)
  refine ⟨?_, ?_⟩
  · unfold dvE
    rw [if_pos ht, a2, b2, if_pos hu, hd]
    unfold tE; rw [if_pos hfb]
  · unfold dvL
    rw [if_pos ht, a2, b2, if_pos hu, hd]

theorem tL_nth {ps : List IP} (hf : allFit ps = true) {k : Nat} (hk : k < ps.length) : (tL ps).getD k (0, 0) = nmF ps k := by
  rw [tL_eq hf, tab_get _ _ _ _ hk]

/-- A round's appends. -/
theorem cl_step {a : List IP} {n k : Nat} (hk : k < n) {x y : Int} (hx : (a.getD k (0, 0, ())).1 = x) (hy : (a.getD k (0, 0, ())).2.1 = y) (h1 : -10000 ≤ x ∧ x ≤ 10000) (h2 : -10000 ≤ y ∧ y ≤ 10000) :
    tab (nmF (clA a n)) k ++ [(floatOfInt .f32 x, floatOfInt .f32 y)] = tab (nmF (clA a n)) (k + 1) := by
  show _ = tab (nmF (clA a n)) k ++ [nmF (clA a n) k]
  unfold nmF
  rw [show (clA a n).getD k (0, 0, ()) = a.getD k (0, 0, ()) by unfold clA; rw [tab_get _ _ _ _ hk]; exact clP_yes (by rw [hx]; exact h1) (by rw [hy]; exact h2), hx, hy]
theorem cs_step {a b : List IP} {n k : Nat} (hk : k < n) {x y u v : Int} (hx : (b.getD k (0, 0, ())).1 = x) (hy : (b.getD k (0, 0, ())).2.1 = y) (h1 : -10000 ≤ x ∧ x ≤ 10000) (h2 : -10000 ≤ y ∧ y ≤ 10000)
    (hu : (a.getD k (0, 0, ())).1 = u) (hv : (a.getD k (0, 0, ())).2.1 = v) (h3 : -10000 ≤ u ∧ u ≤ 10000) (h4 : -10000 ≤ v ∧ v ≤ 10000) :
    tab (nmF (clS a b n)) k ++ [(floatOfInt .f32 (x + u), floatOfInt .f32 (y + v))] = tab (nmF (clS a b n)) (k + 1) := by
  show _ = tab (nmF (clS a b n)) k ++ [nmF (clS a b n) k]
  unfold nmF
  rw [show (clS a b n).getD k (0, 0, ()) = plusP (b.getD k (0, 0, ())) (a.getD k (0, 0, ())) by
    unfold clS
    rw [tab_get _ _ _ _ hk, clP_yes (by rw [hx]; exact h1) (by rw [hy]; exact h2), clP_yes (by rw [hu]; exact h3) (by rw [hv]; exact h4)]]
  show _ = _ ++ [(floatOfInt .f32 ((b.getD k (0, 0, ())).1 + (a.getD k (0, 0, ())).1), floatOfInt .f32 ((b.getD k (0, 0, ())).2.1 + (a.getD k (0, 0, ())).2.1))]
  rw [hx, hy, hu, hv]

theorem sw_sum {a b : List IP} {n : Nat} {c s : Int} (hc : 1 ≤ c.toNat ∧ c.toNat ≤ 40) (h1 : 1 ≤ n) (h2 : n ≤ 20) {k : Nat} (hk : k < n + c.toNat - 1) :
    (cSumBits .add .f32 (List.getD (tL (swL (clA a n) (chL' c s))) k (0, 0)).1 (List.getD (tL (swL (clA a n) (chL' c s))) k (0, 0)).2 (List.getD (tL (swL (clA b n) (chL' c s))) k (0, 0)).1 (List.getD (tL (swL (clA b n) (chL' c s))) k (0, 0)).2).isSome = true ∧
    (FloatKind.f32.format.order (List.getD (tL (swL (clS a b n) (chL' c s))) k (0, 0)).1 ((cSumBits .add .f32 (List.getD (tL (swL (clA a n) (chL' c s))) k (0, 0)).1 (List.getD (tL (swL (clA a n) (chL' c s))) k (0, 0)).2 (List.getD (tL (swL (clA b n) (chL' c s))) k (0, 0)).1 (List.getD (tL (swL (clA b n) (chL' c s))) k (0, 0)).2).getD (0, 0)).1 == some .eq &&
      FloatKind.f32.format.order (List.getD (tL (swL (clS a b n) (chL' c s))) k (0, 0)).2 ((cSumBits .add .f32 (List.getD (tL (swL (clA a n) (chL' c s))) k (0, 0)).1 (List.getD (tL (swL (clA a n) (chL' c s))) k (0, 0)).2 (List.getD (tL (swL (clA b n) (chL' c s))) k (0, 0)).1 (List.getD (tL (swL (clA b n) (chL' c s))) k (0, 0)).2).getD (0, 0)).2 == some .eq) = true := by
  have lQ' : (chL' c s).length = c.toNat := tab_len _ _
  have sl : ∀ ps : List IP, okL 20000 ps → ps.length = n → okL 800000 (swL ps (chL' c s)) ∧ (swL ps (chL' c s)).length = n + c.toNat - 1 ∧ ∀ k, k < n + c.toNat - 1 → (swL ps (chL' c s)).getD k (0, 0, ()) = swV ps (chL' c s) k ps.length := fun ps h1 h2 => by
    have e : swN ps (chL' c s) = n + c.toNat - 1 := by unfold swN; rw [lQ', h2]
    exact ⟨swL_small h1 (chL_ok c s) (by omega), by unfold swL; rw [tab_len, e], fun k hk => tab_get _ _ _ _ (by omega)⟩
  obtain ⟨a1, a2, a3⟩ := sl _ (okL_mono (clA_ok a n) (by decide)) (clA_len _ _)
  obtain ⟨b1, b2, b3⟩ := sl _ (okL_mono (clA_ok b n) (by decide)) (clA_len _ _)
  obtain ⟨c1, c2, c3⟩ := sl _ (clS_ok a b n) (clS_len _ _ _)
  have e : (swL (clS a b n) (chL' c s)).getD k (0, 0, ()) = plusP ((swL (clA a n) (chL' c s)).getD k (0, 0, ())) ((swL (clA b n) (chL' c s)).getD k (0, 0, ())) := by
    rw [a3 k hk, b3 k hk, c3 k hk, clS_len, clA_len, clA_len]
    exact swV_add (fun i => by rw [clS_get]; exact plusP_comm _ _) k n
  have f := fun {ps : List IP} (h : okL 800000 ps) => tL_all h (show (800000 : Int) ≤ 16777216 by decide)
  rw [tL_nth (f a1) (by omega), tL_nth (f b1) (by omega), tL_nth (f c1) (by omega)]
  exact csum_same (inBP_mono (a1 k) (by decide)) (inBP_mono (b1 k) (by decide)) e

theorem hz_take {ps : List IP} (hp : okL 10000 ps) {n N : Nat} (hn : n = ps.length) (h : n ≤ N) : List.take n (tL (hzL ps N)) = tL ps := by
  rw [tL_eq (tL_all (hzL_ok hp N) (by decide)), tL_eq (tL_all hp (by decide))]
  unfold hzL
  rw [tab_len, tab_take _ h, hn]
  refine tab_congr _ fun i hi => ?_
  unfold nmF
  rw [tab_get _ _ _ _ (by omega)]

theorem hz_zero {ps : List IP} (hp : okL 10000 ps) {k N : Nat} (h1 : ps.length ≤ k) (h2 : k < N) : List.getD (tL (hzL ps N)) k (0, 0) = (0, 0) := by
  rw [tL_nth (tL_all (hzL_ok hp N) (by decide)) (by unfold hzL; rw [tab_len]; exact h2)]
  unfold nmF hzL
  rw [tab_get _ _ _ _ h2, List.getD_eq_getElem?_getD, List.getElem?_eq_none h1]
  decide +kernel

@[reducible] def sLaw5d : Spec := { pats := [.gl 0 TurnT, .dat (.sl PairT), .dat (.sl PairT), .dat PairT], res := [{ t := .bool }], pre := fun x => x.1 = turnsD, f := fun _ => (true, ()) }

/-- PulseDivides -/
theorem h5d : Ok 5 sLaw5d := by
  refine mk (ctr := [(6, sAwake), (13, sWithin), (21, sSample), (7, sChirp), (15, sSwept), (17, sDiv), (9, sSameN)]) ⟨h17, h25, h143, h7d, h72, h73, h34n, trivial⟩ (nt := 260) Tryd.func5 rfl rfl rfl rfl (by kernel_rfl) (by kernel_rfl) (fun x => [fun _ => { σ := Nat, pat := fun k => [sI 10 k] ++ rOwn 7 60007 48 C64 (tab (nmF (clA x.2.1 (List.length (α := IP) x.2.1))) k) ++ rOwn 8 60008 48 C64 (tab (nmF (clA x.2.2.1 (List.length (α := IP) x.2.1))) k) ++ rOwn 9 60009 48 C64 (tab (nmF (clS x.2.1 x.2.2.1 (List.length (α := IP) x.2.1))) k), inv := fun k => k ≤ List.length (α := IP) x.2.1, meas := fun k => List.length (α := IP) x.2.1 - k }, fun _ => { σ := Nat, pat := fun k => [sI 21 k], inv := fun k => k ≤ List.length (α := IP) x.2.1 + x.2.2.2.1.1.toNat - 1, meas := fun k => List.length (α := IP) x.2.1 + x.2.2.2.1.1.toNat - 1 - k }, fun _ => { σ := Nat, pat := fun k => [sI 24 ((List.length (α := IP) x.2.1 : Int) + k)], inv := fun k => k ≤ x.2.2.2.1.1.toNat - 1, meas := fun k => x.2.2.2.1.1.toNat - 1 - k }]) ?_
  rintro ⟨t, (a : List IP), (b : List IP), ⟨(c : Int), (s : Int), _⟩, _⟩ ht
  have ht : t = turnsD := ht
  subst ht
  by_cases hl0 : a.length = 0
  · 
    repeat' (intro hzz; (try (rename Two => hq; cases hq)); (try dsimp only at hzz); (try simp only [resTy, argTy, eqD, inR, big, wantOf, Bool.not_true, Bool.not_false, Bool.true_eq, decide_eq_true_eq, decide_eq_false_iff_not, Bool.not_eq_true', Bool.not_eq_false', Bool.and_eq_true, Prod.mk.injEq, and_true, true_and, Int.not_lt, Int.not_le, gt_iff_lt, ge_iff_le] at hzz); (try (first | contradiction | (exfalso; omega))); (try (revert hzz; intro _)))
    all_goals try (rename Unit => hq; clear hq)
    all_goals try ((with_reducible refine Held.mk ?_); (with_reducible (first | refine Frz.mk ?_ | refine And.intro (Frz.mk ?_) ?_ | refine And.intro ?_ (Frz.mk ?_))); repeat' first | exact True.intro | (change _ = _; with_reducible rfl) | refine And.intro ?_ ?_ | (with_reducible refine Frz.mk ?_))
    all_goals try (refine Held.mk ?_; (try dsimp only at *); (try simp only [resTy, argTy, eqD, inR, big, wantOf, Bool.not_true, Bool.not_false, Bool.true_eq, decide_eq_true_eq, decide_eq_false_iff_not, Bool.not_eq_true', Bool.not_eq_false', Bool.and_eq_true, Prod.mk.injEq, and_true, true_and, Int.not_lt, Int.not_le, gt_iff_lt, ge_iff_le] at *))
    all_goals try omega
  by_cases hl1 : 20 < a.length
  · 
    repeat' (intro hzz; (try (rename Two => hq; cases hq)); (try dsimp only at hzz); (try simp only [resTy, argTy, eqD, inR, big, wantOf, Bool.not_true, Bool.not_false, Bool.true_eq, decide_eq_true_eq, decide_eq_false_iff_not, Bool.not_eq_true', Bool.not_eq_false', Bool.and_eq_true, Prod.mk.injEq, and_true, true_and, Int.not_lt, Int.not_le, gt_iff_lt, ge_iff_le] at hzz); (try (first | contradiction | (exfalso; omega))); (try (revert hzz; intro _)))
    all_goals try (rename Unit => hq; clear hq)
    all_goals try ((with_reducible refine Held.mk ?_); (with_reducible (first | refine Frz.mk ?_ | refine And.intro (Frz.mk ?_) ?_ | refine And.intro ?_ (Frz.mk ?_))); repeat' first | exact True.intro | (change _ = _; with_reducible rfl) | refine And.intro ?_ ?_ | (with_reducible refine Frz.mk ?_))
    all_goals try (refine Held.mk ?_; (try dsimp only at *); (try simp only [resTy, argTy, eqD, inR, big, wantOf, Bool.not_true, Bool.not_false, Bool.true_eq, decide_eq_true_eq, decide_eq_false_iff_not, Bool.not_eq_true', Bool.not_eq_false', Bool.and_eq_true, Prod.mk.injEq, and_true, true_and, Int.not_lt, Int.not_le, gt_iff_lt, ge_iff_le] at *))
    all_goals try omega
  by_cases hl2 : 20 < b.length
  · 
    repeat' (intro hzz; (try (rename Two => hq; cases hq)); (try dsimp only at hzz); (try simp only [resTy, argTy, eqD, inR, big, wantOf, Bool.not_true, Bool.not_false, Bool.true_eq, decide_eq_true_eq, decide_eq_false_iff_not, Bool.not_eq_true', Bool.not_eq_false', Bool.and_eq_true, Prod.mk.injEq, and_true, true_and, Int.not_lt, Int.not_le, gt_iff_lt, ge_iff_le] at hzz); (try (first | contradiction | (exfalso; omega))); (try (revert hzz; intro _)))
    all_goals try (rename Unit => hq; clear hq)
    all_goals try ((with_reducible refine Held.mk ?_); (with_reducible (first | refine Frz.mk ?_ | refine And.intro (Frz.mk ?_) ?_ | refine And.intro ?_ (Frz.mk ?_))); repeat' first | exact True.intro | (change _ = _; with_reducible rfl) | refine And.intro ?_ ?_ | (with_reducible refine Frz.mk ?_))
    all_goals try (refine Held.mk ?_; (try dsimp only at *); (try simp only [resTy, argTy, eqD, inR, big, wantOf, Bool.not_true, Bool.not_false, Bool.true_eq, decide_eq_true_eq, decide_eq_false_iff_not, Bool.not_eq_true', Bool.not_eq_false', Bool.and_eq_true, Prod.mk.injEq, and_true, true_and, Int.not_lt, Int.not_le, gt_iff_lt, ge_iff_le] at *))
    all_goals try omega
  by_cases hc : 1 ≤ c ∧ c ≤ 40
  · by_cases hs : 1 ≤ s ∧ s ≤ 1000
    · have wc : fWithin c 1 40 = true := decide_eq_true hc
      have ws : fWithin s 1 1000 = true := decide_eq_true hs
      have ho : chOk c s = true := by unfold chOk; rw [decide_eq_true (show 1 ≤ c ∧ c ≤ 1024 by omega), decide_eq_true hs]; rfl
      have u1 : chE c s = 0 := by unfold chE; rw [if_pos ho]
      have u2 : chR c s = tL (chL' c s) := by unfold chR; rw [if_pos ho]
      have n1 : 1 ≤ a.length := by omega
      have n2 : a.length ≤ 20 := by omega
      have lQ : ((tL (chL' c s)).length : Int) = c := by
        rw [tL_eq (chL_fit c s), tab_len]; unfold chL'; rw [tab_len]; omega
      have fA := tL_all (clA_ok a a.length) (by decide)
      have fB := tL_all (clA_ok b a.length) (by decide)
      have fC := tL_all (clS_ok a b a.length) (by decide)
      have hA : tab (nmF (clA a a.length)) a.length = tL (clA a a.length) := by rw [tL_eq fA, clA_len]
      have hB : tab (nmF (clA b a.length)) a.length = tL (clA b a.length) := by rw [tL_eq fB, clA_len]
      have hC : tab (nmF (clS a b a.length)) a.length = tL (clS a b a.length) := by rw [tL_eq fC, clS_len]
      have lA : ((tL (clA a a.length)).length : Int) = (a.length : Int) := by rw [tL_eq fA, tab_len, clA_len]
      obtain ⟨sA1, sA2, sA3, sA4⟩ := swept_ok (s := s) hc (okL_mono (clA_ok a a.length) (show (10000 : Int) ≤ 20000 by decide)) (by rw [clA_len]; exact n1) (by rw [clA_len]; exact n2)
      obtain ⟨sB1, sB2, sB3, sB4⟩ := swept_ok (s := s) hc (okL_mono (clA_ok b a.length) (show (10000 : Int) ≤ 20000 by decide)) (by rw [clA_len]; exact n1) (by rw [clA_len]; exact n2)
      obtain ⟨sC1, sC2, sC3, sC4⟩ := swept_ok (s := s) hc (clS_ok a b a.length) (by rw [clS_len]; exact n1) (by rw [clS_len]; exact n2)
      have lQ' : (chL' c s).length = c.toNat := tab_len _ _
      have sl : ∀ ps : List IP, okL 20000 ps → ps.length = a.length → allFit (swL ps (chL' c s)) = true ∧ (swL ps (chL' c s)).length = a.length + c.toNat - 1 ∧ ((tL (swL ps (chL' c s))).length : Int) = (a.length : Int) + c - 1 := fun ps h1 h2 => by
        have f : allFit (swL ps (chL' c s)) = true := tL_all (swL_small h1 (chL_ok c s) (by omega)) (by decide)
        have e : (swL ps (chL' c s)).length = a.length + c.toNat - 1 := by unfold swL swN; rw [tab_len, lQ', h2]
        exact ⟨f, e, by rw [tL_eq f, tab_len, e]; omega⟩
      obtain ⟨gA1, gA2, gA3⟩ := sl _ (okL_mono (clA_ok a a.length) (by decide)) (clA_len _ _)
      obtain ⟨gB1, gB2, gB3⟩ := sl _ (okL_mono (clA_ok b a.length) (by decide)) (clA_len _ _)
      obtain ⟨gC1, gC2, gC3⟩ := sl _ (clS_ok a b a.length) (clS_len _ _ _)
      obtain ⟨dA1, dA2⟩ := div_ok (s := s) hc (clA_ok a a.length) (by rw [clA_len]; exact n1) (by rw [clA_len]; exact n2)
      rw [clA_len] at dA2
      have fD : allFit (hzL (clA a a.length) (a.length + c.toNat - 1)) = true := tL_all (hzL_ok (clA_ok a a.length) _) (by decide)
      have lD : ((tL (hzL (clA a a.length) (a.length + c.toNat - 1))).length : Int) = (a.length : Int) + c - 1 := by
        rw [tL_eq fD, tab_len]; unfold hzL; rw [tab_len]; omega
      have oA := tL_ok (clA a a.length)
      have kc : (c.toNat : Int) = c ∧ 1 ≤ c.toNat ∧ c.toNat ≤ 40 := by omega
      have oF := fun ps : List IP => tL_ok ps
      repeat' (intro hzz; (try (rename Two => hq; cases hq)); (try dsimp only at hzz); (try simp only [resTy, argTy, eqD, inR, big, wantOf, Bool.not_true, Bool.not_false, Bool.true_eq, decide_eq_true_eq, decide_eq_false_iff_not, Bool.not_eq_true', Bool.not_eq_false', Bool.and_eq_true, Prod.mk.injEq, and_true, true_and, Int.not_lt, Int.not_le, gt_iff_lt, ge_iff_le] at hzz); (try simp only [resTy, argTy, eqD, inR, big, wantOf, Bool.not_true, Bool.not_false, Bool.true_eq, decide_eq_true_eq, decide_eq_false_iff_not, Bool.not_eq_true', Bool.not_eq_false', Bool.and_eq_true, Prod.mk.injEq, and_true, true_and, Int.not_lt, Int.not_le, gt_iff_lt, ge_iff_le, hl0, hl1, hl2, wc, ws, u1, u2, hA, hB, hC, List.nil_append, sA1, sA2, sB1, sB2, sC1, sC2, lA, lQ, gA3, gB3, gC3, dA1, dA2, lD, Int.toNat_natCast, ne_eq, not_true_eq_false, not_false_eq_true] at hzz); (try ((have hk2 := Nat.le_antisymm (Int.ofNat_le.1 hzz) (by omega)); subst hk2)); (try (revert hzz; intro _)))
      all_goals try (rename Unit => hq; clear hq)
      all_goals try ((with_reducible refine Held.mk ?_); (with_reducible (first | refine Frz.mk ?_ | refine And.intro (Frz.mk ?_) ?_ | refine And.intro ?_ (Frz.mk ?_))); repeat' first | exact True.intro | (change _ = _; with_reducible rfl) | refine And.intro ?_ ?_ | (with_reducible refine Frz.mk ?_))
      all_goals try (refine Held.mk ?_; (try dsimp only at *); (try simp only [resTy, argTy, eqD, inR, big, wantOf, Bool.not_true, Bool.not_false, Bool.true_eq, decide_eq_true_eq, decide_eq_false_iff_not, Bool.not_eq_true', Bool.not_eq_false', Bool.and_eq_true, Prod.mk.injEq, and_true, true_and, Int.not_lt, Int.not_le, gt_iff_lt, ge_iff_le] at *); (try simp only [resTy, argTy, eqD, inR, big, wantOf, Bool.not_true, Bool.not_false, Bool.true_eq, decide_eq_true_eq, decide_eq_false_iff_not, Bool.not_eq_true', Bool.not_eq_false', Bool.and_eq_true, Prod.mk.injEq, and_true, true_and, Int.not_lt, Int.not_le, gt_iff_lt, ge_iff_le, hl0, hl1, hl2, wc, ws, u1, u2, hA, hB, hC, List.nil_append, sA1, sA2, sB1, sB2, sC1, sC2, lA, lQ, gA3, gB3, gC3, dA1, dA2, lD, Int.toNat_natCast, ne_eq, not_true_eq_false, not_false_eq_true] at *))
      all_goals try omega
      · 
        refine GHeld.mk ?_
        refine Exists.intro 0 ?_
        refine And.intro (Leaf.mk ?_) ?_
        · repeat' first | exact True.intro | refine And.intro ?_ ?_
          all_goals try ((change _ = _ <;> try dsimp only) <;> try with_reducible rfl)
          all_goals try omega
          all_goals (rfl)
        exact Nat.zero_le _
      · rename Nat => k; rename -10000 ≤ (List.getD b _ _).fst ∧ _ => g1; rename -10000 ≤ (List.getD b _ _).snd.fst ∧ _ => g2; rename -10000 ≤ (List.getD a _ _).fst ∧ _ => g3; rename -10000 ≤ (List.getD a _ _).snd.fst ∧ _ => g4
        exact ⟨g3, g4⟩
      · rw [tab_len]; show _ + 1 ≤ 2147483648; omega
      · rename Nat => k; rename -10000 ≤ (List.getD b _ _).fst ∧ _ => g1; rename -10000 ≤ (List.getD b _ _).snd.fst ∧ _ => g2; rename -10000 ≤ (List.getD a _ _).fst ∧ _ => g3; rename -10000 ≤ (List.getD a _ _).snd.fst ∧ _ => g4
        exact ⟨g1, g2⟩
      · rw [tab_len]; show _ + 1 ≤ 2147483648; omega
      · rw [tab_len]; show _ + 1 ≤ 2147483648; omega
      · rename Nat => k; rename -10000 ≤ (List.getD b _ _).fst ∧ _ => g1; rename -10000 ≤ (List.getD b _ _).snd.fst ∧ _ => g2; rename -10000 ≤ (List.getD a _ _).fst ∧ _ => g3; rename -10000 ≤ (List.getD a _ _).snd.fst ∧ _ => g4
        have e1 := cl_step (a := a) (n := a.length) (k := k) (by omega) rfl rfl g3 g4
        have e2 := cl_step (a := b) (n := a.length) (k := k) (by omega) rfl rfl g1 g2
        have e3 := cs_step (a := a) (b := b) (n := a.length) (k := k) (by omega) rfl rfl g1 g2 rfl rfl g3 g4
        refine GHeld.mk ?_
        refine Exists.intro (k + 1) ?_
        refine And.intro (Leaf.mk ?_) ?_
        · repeat' first | exact True.intro | refine And.intro ?_ ?_
          all_goals try ((change _ = _ <;> try dsimp only) <;> try with_reducible rfl)
          all_goals try omega
          all_goals (first | exact e1 | exact e2 | exact e3 | exact congrArg List.length e1 | exact congrArg List.length e2 | exact congrArg List.length e3)
        exact ⟨by show k + 1 ≤ a.length; omega, by show a.length - (k + 1) < a.length - k; omega⟩
      · rename Nat => k; rename -10000 ≤ (List.getD a _ _).fst ∧ _ => g3; rename -10000 ≤ (List.getD a _ _).snd.fst ∧ _ => g4
        exact ⟨g3, g4⟩
      · rw [tab_len]; show _ + 1 ≤ 2147483648; omega
      · decide
      · rw [tab_len]; show _ + 1 ≤ 2147483648; omega
      · rw [tab_len]; show _ + 1 ≤ 2147483648; omega
      · rename Nat => k; rename -10000 ≤ (List.getD a _ _).fst ∧ _ => g3; rename -10000 ≤ (List.getD a _ _).snd.fst ∧ _ => g4
        have z : b.getD k (0, 0, ()) = (0, 0, ()) := by rw [List.getD_eq_getElem?_getD, List.getElem?_eq_none (by omega)]; rfl
        have e1 := cl_step (a := a) (n := a.length) (k := k) (by omega) rfl rfl g3 g4
        have e2 := cl_step (a := b) (n := a.length) (k := k) (x := 0) (y := 0) (by omega) (by rw [z]) (by rw [z]) (by decide) (by decide)
        have e3 := cs_step (a := a) (b := b) (n := a.length) (k := k) (x := 0) (y := 0) (by omega) (by rw [z]) (by rw [z]) (by decide) (by decide) rfl rfl g3 g4
        refine GHeld.mk ?_
        refine Exists.intro (k + 1) ?_
        refine And.intro (Leaf.mk ?_) ?_
        · repeat' first | exact True.intro | refine And.intro ?_ ?_
          all_goals try ((change _ = _ <;> try dsimp only) <;> try with_reducible rfl)
          all_goals try omega
          all_goals (first | exact e1 | exact e2 | exact e3 | exact congrArg List.length e1 | exact congrArg List.length e2 | exact congrArg List.length e3)
        exact ⟨by show k + 1 ≤ a.length; omega, by show a.length - (k + 1) < a.length - k; omega⟩
      · rw [tL_eq fA, tab_len, clA_len]; show 0 + a.length ≤ _; omega
      · show 0 + (tL (chL' c s)).length ≤ _; rw [tL_eq (chL_fit c s), tab_len, lQ']; omega
      · show 0 + (tL (chL' c s)).length ≤ _; rw [tL_eq (chL_fit c s), tab_len, lQ']; omega
      · show 0 + (tL (chL' c s)).length ≤ _; rw [tL_eq (chL_fit c s), tab_len, lQ']; omega
      · 
        refine GHeld.mk ?_
        refine Exists.intro 0 ?_
        refine And.intro (Leaf.mk ?_) ?_
        · repeat' first | exact True.intro | refine And.intro ?_ ?_
          all_goals try ((change _ = _ <;> try dsimp only) <;> try with_reducible rfl)
          all_goals try omega
          all_goals (rfl)
        exact Nat.zero_le _
      · rename Nat => k
        exact (sw_sum kc.2 n1 n2 (by omega)).1
      · rename Nat => k; rename (_ && _) = false => g
        have := (sw_sum (a := a) (b := b) (s := s) kc.2 n1 n2 (k := k) (by omega)).2
        exact Bool.noConfusion (g.symm.trans this)
      · rename Nat => k
        refine GHeld.mk ?_
        refine Exists.intro (k + 1) ?_
        refine And.intro (Leaf.mk ?_) ?_
        · repeat' first | exact True.intro | refine And.intro ?_ ?_
          all_goals try ((change _ = _ <;> try dsimp only) <;> try with_reducible rfl)
          all_goals try omega
          all_goals (rfl)
        exact ⟨by show k + 1 ≤ a.length + c.toNat - 1; omega, by show a.length + c.toNat - 1 - (k + 1) < a.length + c.toNat - 1 - k; omega⟩
      · have e := hz_take (clA_ok a a.length) (N := a.length + c.toNat - 1) (clA_len _ _).symm (by omega)
        rw [e]
        exact ⟨by rw [tL_eq fA, tab_len, clA_len]; omega, rfl, oA⟩
      · 
        have e0 : ((tab (nmF (clA a a.length)) a.length).length : Int) = (a.length : Int) + ((0 : Nat) : Int) := by rw [tab_len]; omega
        refine GHeld.mk ?_
        refine Exists.intro 0 ?_
        refine And.intro (Leaf.mk ?_) ?_
        · repeat' first | exact True.intro | refine And.intro ?_ ?_
          all_goals try ((change _ = _ <;> try dsimp only) <;> try with_reducible rfl)
          all_goals try omega
          all_goals (exact e0)
        exact Nat.zero_le _
      · rename Nat => k; rename (_ && _) = false => g
        rw [show ((a.length : Int) + (k : Int)).toNat = a.length + k by omega] at g
        have z := hz_zero (clA_ok a a.length) (k := a.length + k) (N := a.length + c.toNat - 1) (by rw [clA_len]; omega) (by omega)
        rw [show List.getD (tL (hzL (clA a a.length) (a.length + c.toNat - 1))) (a.length + k) (Ty.dflt C64) = (0, 0) from z] at g
        exact absurd g (by decide +kernel)
      · rename Nat => k
        refine GHeld.mk ?_
        refine Exists.intro (k + 1) ?_
        refine And.intro (Leaf.mk ?_) ?_
        · repeat' first | exact True.intro | refine And.intro ?_ ?_
          all_goals try ((change _ = _ <;> try dsimp only) <;> try with_reducible rfl)
          all_goals try omega
          all_goals (rfl)
        exact ⟨by show k + 1 ≤ c.toNat - 1; omega, by show c.toNat - 1 - (k + 1) < c.toNat - 1 - k; omega⟩
    · have ws : fWithin s 1 1000 = false := decide_eq_false hs
      repeat' (intro hzz; (try (rename Two => hq; cases hq)); (try dsimp only at hzz); (try simp only [resTy, argTy, eqD, inR, big, wantOf, Bool.not_true, Bool.not_false, Bool.true_eq, decide_eq_true_eq, decide_eq_false_iff_not, Bool.not_eq_true', Bool.not_eq_false', Bool.and_eq_true, Prod.mk.injEq, and_true, true_and, Int.not_lt, Int.not_le, gt_iff_lt, ge_iff_le] at hzz); (try simp only [resTy, argTy, eqD, inR, big, wantOf, Bool.not_true, Bool.not_false, Bool.true_eq, decide_eq_true_eq, decide_eq_false_iff_not, Bool.not_eq_true', Bool.not_eq_false', Bool.and_eq_true, Prod.mk.injEq, and_true, true_and, Int.not_lt, Int.not_le, gt_iff_lt, ge_iff_le, ws] at hzz); (try (first | contradiction | (exfalso; omega))); (try (revert hzz; intro _)))
      all_goals try (rename Unit => hq; clear hq)
      all_goals try ((with_reducible refine Held.mk ?_); (with_reducible (first | refine Frz.mk ?_ | refine And.intro (Frz.mk ?_) ?_ | refine And.intro ?_ (Frz.mk ?_))); repeat' first | exact True.intro | (change _ = _; with_reducible rfl) | refine And.intro ?_ ?_ | (with_reducible refine Frz.mk ?_))
      all_goals try (refine Held.mk ?_; (try dsimp only at *); (try simp only [resTy, argTy, eqD, inR, big, wantOf, Bool.not_true, Bool.not_false, Bool.true_eq, decide_eq_true_eq, decide_eq_false_iff_not, Bool.not_eq_true', Bool.not_eq_false', Bool.and_eq_true, Prod.mk.injEq, and_true, true_and, Int.not_lt, Int.not_le, gt_iff_lt, ge_iff_le] at *); (try simp only [resTy, argTy, eqD, inR, big, wantOf, Bool.not_true, Bool.not_false, Bool.true_eq, decide_eq_true_eq, decide_eq_false_iff_not, Bool.not_eq_true', Bool.not_eq_false', Bool.and_eq_true, Prod.mk.injEq, and_true, true_and, Int.not_lt, Int.not_le, gt_iff_lt, ge_iff_le, ws] at *))
      all_goals try omega
  · have wc : fWithin c 1 40 = false := decide_eq_false hc
    repeat' (intro hzz; (try (rename Two => hq; cases hq)); (try dsimp only at hzz); (try simp only [resTy, argTy, eqD, inR, big, wantOf, Bool.not_true, Bool.not_false, Bool.true_eq, decide_eq_true_eq, decide_eq_false_iff_not, Bool.not_eq_true', Bool.not_eq_false', Bool.and_eq_true, Prod.mk.injEq, and_true, true_and, Int.not_lt, Int.not_le, gt_iff_lt, ge_iff_le] at hzz); (try simp only [resTy, argTy, eqD, inR, big, wantOf, Bool.not_true, Bool.not_false, Bool.true_eq, decide_eq_true_eq, decide_eq_false_iff_not, Bool.not_eq_true', Bool.not_eq_false', Bool.and_eq_true, Prod.mk.injEq, and_true, true_and, Int.not_lt, Int.not_le, gt_iff_lt, ge_iff_le, wc] at hzz); (try (first | contradiction | (exfalso; omega))); (try (revert hzz; intro _)))
    all_goals try (rename Unit => hq; clear hq)
    all_goals try ((with_reducible refine Held.mk ?_); (with_reducible (first | refine Frz.mk ?_ | refine And.intro (Frz.mk ?_) ?_ | refine And.intro ?_ (Frz.mk ?_))); repeat' first | exact True.intro | (change _ = _; with_reducible rfl) | refine And.intro ?_ ?_ | (with_reducible refine Frz.mk ?_))
    all_goals try (refine Held.mk ?_; (try dsimp only at *); (try simp only [resTy, argTy, eqD, inR, big, wantOf, Bool.not_true, Bool.not_false, Bool.true_eq, decide_eq_true_eq, decide_eq_false_iff_not, Bool.not_eq_true', Bool.not_eq_false', Bool.and_eq_true, Prod.mk.injEq, and_true, true_and, Int.not_lt, Int.not_le, gt_iff_lt, ge_iff_le] at *); (try simp only [resTy, argTy, eqD, inR, big, wantOf, Bool.not_true, Bool.not_false, Bool.true_eq, decide_eq_true_eq, decide_eq_false_iff_not, Bool.not_eq_true', Bool.not_eq_false', Bool.and_eq_true, Prod.mk.injEq, and_true, true_and, Int.not_lt, Int.not_le, gt_iff_lt, ge_iff_le, wc] at *))
    all_goals try omega

end Go.Eng.Pu
