/- The law TopNothingRings returns true. Conditions: none. -/
import Derived.Test.YtdphhjibkjlmcaaL42
import Derived.Test.YtdphhjibkjlmcaaL25
import Derived.Test.YtdphhjibkjlmcaaL28
import Derived.Test.YtdphhjibkjlmcaaL17
namespace Go.Eng.Lp
open Go.Eng Go.Proofs
set_option linter.all false
set_option maxRecDepth 100000
set_option maxHeartbeats 8000000

@[reducible] def sLooped : Spec := { pats := [], res := [{ t := .bool }], pre := fun _ => True, f := fun _ => (true, ()) }
/-- looped -/
theorem hLooped : Ok 5 sLooped := by
  refine mk (ctr := [(21, sOne), (20, sValueAt)]) ⟨h76, h22, trivial⟩ (nt := 15) Try.func5 rfl rfl rfl rfl (by kernel_rfl) (by kernel_rfl) (fun _ => []) ?_
  rintro _ _
  repeat' (intro hzz; (try (rename Two => hq; cases hq)); (try dsimp only at hzz); (try simp only [resTy, argTy, eqD, inR, big, wantOf, Bool.not_true, Bool.not_false, Bool.true_eq, decide_eq_true_eq, decide_eq_false_iff_not, Bool.not_eq_true', Bool.not_eq_false', Bool.and_eq_true, Prod.mk.injEq, and_true, true_and, Int.not_lt, Int.not_le, gt_iff_lt, ge_iff_le] at hzz); (try simp only [resTy, argTy, eqD, inR, big, wantOf, Bool.not_true, Bool.not_false, Bool.true_eq, decide_eq_true_eq, decide_eq_false_iff_not, Bool.not_eq_true', Bool.not_eq_false', Bool.and_eq_true, Prod.mk.injEq, and_true, true_and, Int.not_lt, Int.not_le, gt_iff_lt, ge_iff_le, aw1, Ty.beq] at hzz); (try (revert hzz; intro _)))
  all_goals try (rename Unit => hq; clear hq)
  all_goals try ((with_reducible refine Held.mk ?_); (with_reducible (first | refine Frz.mk ?_ | refine And.intro (Frz.mk ?_) ?_ | refine And.intro ?_ (Frz.mk ?_))); repeat' first | exact True.intro | (change _ = _; with_reducible rfl) | refine And.intro ?_ ?_ | (with_reducible refine Frz.mk ?_))
  all_goals try (refine Held.mk ?_; (try dsimp only at *); (try simp only [resTy, argTy, eqD, inR, big, wantOf, Bool.not_true, Bool.not_false, Bool.true_eq, decide_eq_true_eq, decide_eq_false_iff_not, Bool.not_eq_true', Bool.not_eq_false', Bool.and_eq_true, Prod.mk.injEq, and_true, true_and, Int.not_lt, Int.not_le, gt_iff_lt, ge_iff_le] at *); (try simp only [resTy, argTy, eqD, inR, big, wantOf, Bool.not_true, Bool.not_false, Bool.true_eq, decide_eq_true_eq, decide_eq_false_iff_not, Bool.not_eq_true', Bool.not_eq_false', Bool.and_eq_true, Prod.mk.injEq, and_true, true_and, Int.not_lt, Int.not_le, gt_iff_lt, ge_iff_le, aw1, Ty.beq] at *))
  all_goals try omega
  all_goals (rename ¬ True => h; exact absurd trivial h)

@[reducible] def RingT : Ty := .cons I64 (.cons I64 (.cons ArcT .nil))

theorem less_loop2 {T : List Int} {g g' : Int} (hc : fCheckLoop T g = 0) (h0 : 0 ≤ g') (h1 : g' ≤ 10000) : fCheckLoop T g' = 0 := gain_loop hc h0 h1

@[reducible] def sNothing : Spec := { pats := [.dat (.sl LoopT), .dat RingT], res := [{ t := .bool }], pre := fun _ => True, f := fun _ => (true, ()) }

def nrA (l : List LD) : LoopAnn := { σ := Nat, pat := fun k => [sI 5 k], inv := fun k => k ≤ l.length ∧ ∀ j, j < k → (l.getD j ([], 0, ())).1.length ≤ 12, meas := fun k => l.length - k }
def nrB : LoopAnn := { σ := Nat, pat := fun k => [sI 18 k], inv := fun k => 1 ≤ k ∧ k ≤ 30, meas := fun k => 30 - k }

theorem nr_step {l : List LD} {k : Nat} (h : k ≤ l.length ∧ ∀ j, j < k → (l.getD j ([], 0, ())).1.length ≤ 12) (h1 : (k : Int) < l.length) (h2 : (((l.getD (k : Int).toNat LoopT.dflt).1.length : Nat) : Int) ≤ 12) :
    k + 1 ≤ l.length ∧ ∀ j, j < k + 1 → (l.getD j ([], 0, ())).1.length ≤ 12 := by
  refine ⟨by omega, fun j hj => ?_⟩
  rcases Nat.lt_or_ge j k with h3 | h3
  · exact h.2 j h3
  · obtain rfl : j = k := by omega
    have : (l.getD (j : Int).toNat LoopT.dflt).1.length ≤ 12 := by omega
    exact this

theorem nr_abs {l : List LD} {k : Nat} (hts : ¬ ∀ j, j < l.length → (l.getD j ([], 0, ())).1.length ≤ 12) (h : k ≤ l.length ∧ ∀ j, j < k → (l.getD j ([], 0, ())).1.length ≤ 12) (h1 : (l.length : Int) ≤ k) : False :=
  hts fun j hj => h.2 j (by omega)

/-- TopNothingRings -/
theorem hNothing : Ok 4 sNothing := by
  refine mk (ctr := [(5, sLooped), (12, sCopyAll), (11, sMargin), (6, sWithin), (13, sMod), (14, sCeil), (15, sCopyInts), (8, sCopy), (16, sCheckRings), (17, sDecide), (18, sSizeOf), (19, sBound), (7, sEchoes)]) ⟨hLooped, h51, h71, h17, h66, h88, h45, h23, h62, h67, h55, h34, h33, trivial⟩ (nt := 153) Try.func4 rfl rfl rfl rfl (by kernel_rfl) (by kernel_rfl) (fun x => [fun _ => nrA x.1, fun _ => nrB]) ?_
  rintro ⟨(l : List LD), ⟨(xl : Int), (xg : Int), ⟨(a : Int), (b : Int), _⟩, _⟩, _⟩ _
  by_cases hlen : 0 < l.length ∧ l.length ≤ 3
  · by_cases hts : ∀ j, j < l.length → (l.getD j ([], 0, ())).1.length ≤ 12
    · have hcp : l.length ≤ 1000000 ∧ ∀ i, i < l.length → pCopy (l.getD i ([], 0, ())).1.length := ⟨by omega, fun i hi => by have := hts i hi; show _ ≤ 1000000; omega⟩
      by_cases he : lpErr l = 0
      · obtain ⟨hpos, hg⟩ := lp_good he
        have hv : maVal l = marI l := by simp only [maVal]; rw [if_pos he]
        have hE : maErr l = 0 := he
        obtain ⟨hm, hall⟩ := mar_all hg
        have hz : ∀ j, j < l.length → fCheckLoop (l.getD j ([], 0, ())).1 (l.getD j ([], 0, ())).2.1 = 0 := by
          have h := he
          simp only [lpErr] at h
          rw [if_neg (by omega), if_neg (by have := hg.1; omega)] at h
          exact (lpErrK_zero _).1 h
        have hM : 0 ≤ fMod xl l.length ∧ fMod xl l.length < l.length := by
          simp only [fMod]
          exact ⟨Int.emod_nonneg _ (by omega), Int.emod_lt_of_pos _ (by omega)⟩
        obtain ⟨i, hi⟩ : ∃ i : Nat, fMod xl l.length = i := ⟨(fMod xl l.length).toNat, by omega⟩
        have hil : i < l.length := by omega
        obtain ⟨T, g, u, hx⟩ : ∃ T g u, l.getD i ([], 0, ()) = (T, g, u) := ⟨_, _, _, rfl⟩
        have hget : List.getD (α := LD) l (fMod xl l.length).toNat (Ty.dflt LoopT) = (T, g, u) := by rw [hi]; exact hx
        have hai := hall i hil
        have hzi := hz i hil
        have hgi := hg.2 i hil
        have hti := hts i hil
        rw [hx] at hai hzi hgi hti
        have hgi : GoodLoop T g := hgi
        have hti : T.length ≤ 12 := hti
        have hce : fCeil (g * marI l) 1000 = scGain g (marI l) := rfl
        have hbm := mul_bd (x := g) (d := marI l) (X := 10000) (B := 4000) (by have := hgi.gain0; omega) hgi.gain1 (by omega) (by omega)
        have hsg0 : 0 ≤ scGain g (marI l) := by
          have := Int.mul_nonneg hgi.gain0 hm.1
          simp only [scGain, fCeil]; omega
        have hpC : pFloor (g * marI l) 1000 := by simp only [pFloor]; omega
        have hcp1 : T.length ≤ 1000000 := by omega
        obtain ⟨m, hmm⟩ : ∃ m, marI l = m := ⟨_, rfl⟩
        rw [hmm] at hm hai hce hv hbm hsg0 hpC
        obtain ⟨G, hG⟩ : ∃ G, scGain g m = G := ⟨_, rfl⟩
        rw [hG] at hai hce hsg0
        have hga : ¬ (0 ≤ xg ∧ xg ≤ G) ∨ (0 ≤ xg ∧ xg ≤ G) := by omega
        rcases hga with hga | hga
        · clear hall hz hmm hts
          repeat' (intro hzz; (try (rename Two => hq; cases hq)); (try dsimp only at hzz); (try simp only [resTy, argTy, eqD, inR, big, wantOf, Bool.not_true, Bool.not_false, Bool.true_eq, decide_eq_true_eq, decide_eq_false_iff_not, Bool.not_eq_true', Bool.not_eq_false', Bool.and_eq_true, Prod.mk.injEq, and_true, true_and, Int.not_lt, Int.not_le, gt_iff_lt, ge_iff_le] at hzz); (try simp only [resTy, argTy, eqD, inR, big, wantOf, Bool.not_true, Bool.not_false, Bool.true_eq, decide_eq_true_eq, decide_eq_false_iff_not, Bool.not_eq_true', Bool.not_eq_false', Bool.and_eq_true, Prod.mk.injEq, and_true, true_and, Int.not_lt, Int.not_le, gt_iff_lt, ge_iff_le, hv, hE, hget, hce, hga] at hzz); (try (first | contradiction | (exfalso; omega))); (try (revert hzz; intro _)))
          all_goals try (rename Unit => hq; clear hq)
          all_goals try ((with_reducible refine Held.mk ?_); (with_reducible (first | refine Frz.mk ?_ | refine And.intro (Frz.mk ?_) ?_ | refine And.intro ?_ (Frz.mk ?_))); repeat' first | exact True.intro | (change _ = _; with_reducible rfl) | refine And.intro ?_ ?_ | (with_reducible refine Frz.mk ?_))
          all_goals try (refine Held.mk ?_; (try dsimp only at *); (try simp only [resTy, argTy, eqD, inR, big, wantOf, Bool.not_true, Bool.not_false, Bool.true_eq, decide_eq_true_eq, decide_eq_false_iff_not, Bool.not_eq_true', Bool.not_eq_false', Bool.and_eq_true, Prod.mk.injEq, and_true, true_and, Int.not_lt, Int.not_le, gt_iff_lt, ge_iff_le] at *); (try simp only [resTy, argTy, eqD, inR, big, wantOf, Bool.not_true, Bool.not_false, Bool.true_eq, decide_eq_true_eq, decide_eq_false_iff_not, Bool.not_eq_true', Bool.not_eq_false', Bool.and_eq_true, Prod.mk.injEq, and_true, true_and, Int.not_lt, Int.not_le, gt_iff_lt, ge_iff_le, hv, hE, hget, hce, hga] at *))
          all_goals try omega
          ·
            refine GHeld.mk ?_
            refine Exists.intro (0 : Nat) ?_
            refine And.intro (Leaf.mk ?_) ?_
            · repeat' first | exact True.intro | refine And.intro ?_ ?_
              all_goals try ((change _ = _ <;> try dsimp only) <;> try with_reducible rfl)
              all_goals try omega
              all_goals (rfl)
            exact ⟨Nat.zero_le _, fun j hj => absurd hj (Nat.not_lt_zero j)⟩
          · rename Nat => k
            rename _ ∧ (∀ j, j < k → _) => h3
            rename (k : Int) < _ => h4
            rename (((List.length _ : Nat) : Int) ≤ 12) => h5
            refine GHeld.mk ?_
            refine Exists.intro (k + 1) ?_
            refine And.intro (Leaf.mk ?_) ?_
            · repeat' first | exact True.intro | refine And.intro ?_ ?_
              all_goals try ((change _ = _ <;> try dsimp only) <;> try with_reducible rfl)
              all_goals try omega
              all_goals (rfl)
            exact ⟨nr_step h3 h4 h5, (show l.length - (k + 1) < l.length - k by omega)⟩
          · exact ⟨Int.ofNat_lt.2 hlen.1, Int.le_trans (Int.ofNat_le.2 hlen.2) (by decide)⟩
        · have ho : openI T G = [] := by
            have h := hai.2
            simp only [yesB, decide_eq_true_eq, decK] at h
            by_cases ho : openI T G = []
            · exact ho
            · rw [if_neg ho] at h
              split at h
              · exact absurd h (show ¬ (0 : Int) = 2 by decide)
              · exact absurd h (show ¬ (1 : Int) = 2 by decide)
          have hTG : GoodLoop T G := ⟨hgi.pos, hgi.le, hgi.zero, hgi.val, hsg0, hai.1⟩
          have hcov := arcs_cover (keptI T G) 0 (kept_chain ho)
          have hc' : fCheckLoop T xg = 0 := gain_loop hzi hga.1 (by omega)
          have hTx := loop_of hc'
          have hd : fDec T xg = (decK T xg, 0) := by simp only [fDec]; rw [if_pos hc']
          have hno : ¬ (decK T xg).1 = 0 := by
            simp only [decK]
            split
            · exact (show ¬ ((2 : Int) = 0) by decide)
            · split
              · rename_i x hx
                obtain ⟨hm, hR⟩ := ringK_some hx
                have hab := triesK_ok (open_ok T xg) _ hm
                rw [no_rings hTG hga.1 hga.2 hcov hab] at hR
                cases hR
              · exact (show ¬ ((1 : Int) = 0) by decide)
          have hCR : ¬ crErr T xg a b = 0 := by
            by_cases ha : fArcErr a b = 0
            · rw [crErr_ok hc' ha, no_rings hTG hga.1 hga.2 hcov (arc_of ha)]; decide
            · rw [crErr_arc hc' ha]; exact ha
          have hS : fSizeOf T xg = (sizeI T xg, 0) := szOk hc'
          clear hall hz hmm hts hcov ho hTG
          by_cases hs : 1000 ≤ sizeI T xg
          ·
            repeat' (intro hzz; (try (rename Two => hq; cases hq)); (try dsimp only at hzz); (try simp only [resTy, argTy, eqD, inR, big, wantOf, Bool.not_true, Bool.not_false, Bool.true_eq, decide_eq_true_eq, decide_eq_false_iff_not, Bool.not_eq_true', Bool.not_eq_false', Bool.and_eq_true, Prod.mk.injEq, and_true, true_and, Int.not_lt, Int.not_le, gt_iff_lt, ge_iff_le] at hzz); (try simp only [resTy, argTy, eqD, inR, big, wantOf, Bool.not_true, Bool.not_false, Bool.true_eq, decide_eq_true_eq, decide_eq_false_iff_not, Bool.not_eq_true', Bool.not_eq_false', Bool.and_eq_true, Prod.mk.injEq, and_true, true_and, Int.not_lt, Int.not_le, gt_iff_lt, ge_iff_le, hv, hE, hget, hce, hga, hd, hno, hCR, hS] at hzz); (try (first | contradiction | (exfalso; omega))); (try (revert hzz; intro _)))
            all_goals try (rename Unit => hq; clear hq)
            all_goals try ((with_reducible refine Held.mk ?_); (with_reducible (first | refine Frz.mk ?_ | refine And.intro (Frz.mk ?_) ?_ | refine And.intro ?_ (Frz.mk ?_))); repeat' first | exact True.intro | (change _ = _; with_reducible rfl) | refine And.intro ?_ ?_ | (with_reducible refine Frz.mk ?_))
            all_goals try (refine Held.mk ?_; (try dsimp only at *); (try simp only [resTy, argTy, eqD, inR, big, wantOf, Bool.not_true, Bool.not_false, Bool.true_eq, decide_eq_true_eq, decide_eq_false_iff_not, Bool.not_eq_true', Bool.not_eq_false', Bool.and_eq_true, Prod.mk.injEq, and_true, true_and, Int.not_lt, Int.not_le, gt_iff_lt, ge_iff_le] at *); (try simp only [resTy, argTy, eqD, inR, big, wantOf, Bool.not_true, Bool.not_false, Bool.true_eq, decide_eq_true_eq, decide_eq_false_iff_not, Bool.not_eq_true', Bool.not_eq_false', Bool.and_eq_true, Prod.mk.injEq, and_true, true_and, Int.not_lt, Int.not_le, gt_iff_lt, ge_iff_le, hv, hE, hget, hce, hga, hd, hno, hCR, hS] at *))
            all_goals try omega
            ·
              refine GHeld.mk ?_
              refine Exists.intro (0 : Nat) ?_
              refine And.intro (Leaf.mk ?_) ?_
              · repeat' first | exact True.intro | refine And.intro ?_ ?_
                all_goals try ((change _ = _ <;> try dsimp only) <;> try with_reducible rfl)
                all_goals try omega
                all_goals (rfl)
              exact ⟨Nat.zero_le _, fun j hj => absurd hj (Nat.not_lt_zero j)⟩
            · rename Nat => k
              rename _ ∧ (∀ j, j < k → _) => h3
              rename (k : Int) < _ => h4
              rename (((List.length _ : Nat) : Int) ≤ 12) => h5
              refine GHeld.mk ?_
              refine Exists.intro (k + 1) ?_
              refine And.intro (Leaf.mk ?_) ?_
              · repeat' first | exact True.intro | refine And.intro ?_ ?_
                all_goals try ((change _ = _ <;> try dsimp only) <;> try with_reducible rfl)
                all_goals try omega
                all_goals (rfl)
              exact ⟨nr_step h3 h4 h5, (show l.length - (k + 1) < l.length - k by omega)⟩
            · exact ⟨Int.ofNat_lt.2 hlen.1, Int.le_trans (Int.ofNat_le.2 hlen.2) (by decide)⟩
          · have hB : fBound T xg 32767 = (boundI T xg 32767, 0) := by
              have e : ebErr T xg 32767 = 0 := by simp [ebErr, hc']
              simp only [fBound]; rw [if_pos e, if_neg hs]
            have hEc : fEchoes T xg 32767 30 = (echoL T xg 32767 30, 0) := ecOk hc' (by decide)
            have hin := echo_in hTx (h := 32767) (by decide) (by omega) 30
            have hb0 := (boundI_bd hTx (show (-32767 : Int) ≤ 32767 by decide) (by decide) (by omega)).1
            have hb1 : boundI T xg 32767 ≤ 999999999 := by
              have h1 := size_le hTx
              have hn : (((32767 : Int).natAbs : Nat) : Int) = 32767 := rfl
              have := Int.ediv_le_self (a := sizeI T xg * 32767 + 500) (1000 - sizeI T xg) (by omega)
              simp only [boundI]
              rw [hn]
              omega
            have hel : (echoL T xg 32767 30).length = 30 := echoL_len T xg 32767 30
            obtain ⟨L, hL⟩ : ∃ L, echoL T xg 32767 30 = L := ⟨_, rfl⟩
            obtain ⟨B, hBb⟩ : ∃ B, boundI T xg 32767 = B := ⟨_, rfl⟩
            rw [hL] at hin hel hEc
            rw [hBb] at hB hin hb0 hb1
            clear hL hBb
            repeat' (intro hzz; (try (rename Two => hq; cases hq)); (try dsimp only at hzz); (try simp only [resTy, argTy, eqD, inR, big, wantOf, Bool.not_true, Bool.not_false, Bool.true_eq, decide_eq_true_eq, decide_eq_false_iff_not, Bool.not_eq_true', Bool.not_eq_false', Bool.and_eq_true, Prod.mk.injEq, and_true, true_and, Int.not_lt, Int.not_le, gt_iff_lt, ge_iff_le] at hzz); (try simp only [resTy, argTy, eqD, inR, big, wantOf, Bool.not_true, Bool.not_false, Bool.true_eq, decide_eq_true_eq, decide_eq_false_iff_not, Bool.not_eq_true', Bool.not_eq_false', Bool.and_eq_true, Prod.mk.injEq, and_true, true_and, Int.not_lt, Int.not_le, gt_iff_lt, ge_iff_le, hv, hE, hget, hce, hga, hd, hno, hCR, hS, hB, hEc, hel] at hzz); (try (first | contradiction | (exfalso; omega))); (try (revert hzz; intro _)))
            all_goals try (rename Unit => hq; clear hq)
            all_goals try ((with_reducible refine Held.mk ?_); (with_reducible (first | refine Frz.mk ?_ | refine And.intro (Frz.mk ?_) ?_ | refine And.intro ?_ (Frz.mk ?_))); repeat' first | exact True.intro | (change _ = _; with_reducible rfl) | refine And.intro ?_ ?_ | (with_reducible refine Frz.mk ?_))
            all_goals try (refine Held.mk ?_; (try dsimp only at *); (try simp only [resTy, argTy, eqD, inR, big, wantOf, Bool.not_true, Bool.not_false, Bool.true_eq, decide_eq_true_eq, decide_eq_false_iff_not, Bool.not_eq_true', Bool.not_eq_false', Bool.and_eq_true, Prod.mk.injEq, and_true, true_and, Int.not_lt, Int.not_le, gt_iff_lt, ge_iff_le] at *); (try simp only [resTy, argTy, eqD, inR, big, wantOf, Bool.not_true, Bool.not_false, Bool.true_eq, decide_eq_true_eq, decide_eq_false_iff_not, Bool.not_eq_true', Bool.not_eq_false', Bool.and_eq_true, Prod.mk.injEq, and_true, true_and, Int.not_lt, Int.not_le, gt_iff_lt, ge_iff_le, hv, hE, hget, hce, hga, hd, hno, hCR, hS, hB, hEc, hel] at *))
            all_goals try omega
            ·
              refine GHeld.mk ?_
              refine Exists.intro (0 : Nat) ?_
              refine And.intro (Leaf.mk ?_) ?_
              · repeat' first | exact True.intro | refine And.intro ?_ ?_
                all_goals try ((change _ = _ <;> try dsimp only) <;> try with_reducible rfl)
                all_goals try omega
                all_goals (rfl)
              exact ⟨Nat.zero_le _, fun j hj => absurd hj (Nat.not_lt_zero j)⟩
            · rename Nat => k
              rename _ ∧ (∀ j, j < k → _) => h3
              rename (k : Int) < _ => h4
              rename (((List.length _ : Nat) : Int) ≤ 12) => h5
              refine GHeld.mk ?_
              refine Exists.intro (k + 1) ?_
              refine And.intro (Leaf.mk ?_) ?_
              · repeat' first | exact True.intro | refine And.intro ?_ ?_
                all_goals try ((change _ = _ <;> try dsimp only) <;> try with_reducible rfl)
                all_goals try omega
                all_goals (rfl)
              exact ⟨nr_step h3 h4 h5, (show l.length - (k + 1) < l.length - k by omega)⟩
            · exact ⟨Int.ofNat_lt.2 hlen.1, Int.le_trans (Int.ofNat_le.2 hlen.2) (by decide)⟩
            ·
              refine GHeld.mk ?_
              refine Exists.intro (1 : Nat) ?_
              refine And.intro (Leaf.mk ?_) ?_
              · repeat' first | exact True.intro | refine And.intro ?_ ?_
                all_goals try ((change _ = _ <;> try dsimp only) <;> try with_reducible rfl)
                all_goals try omega
                all_goals (rfl)
              exact ⟨Nat.le_refl 1, (by decide : 1 ≤ 30)⟩
            · rename Nat => k
              rename 1 ≤ k ∧ k ≤ 30 => h3
              rename (k : Int) < _ => h4
              refine GHeld.mk ?_
              refine Exists.intro (k + 1) ?_
              refine And.intro (Leaf.mk ?_) ?_
              · repeat' first | exact True.intro | refine And.intro ?_ ?_
                all_goals try ((change _ = _ <;> try dsimp only) <;> try with_reducible rfl)
                all_goals try omega
                all_goals (rfl)
              exact ⟨⟨(show 1 ≤ k + 1 by omega), (show k + 1 ≤ 30 by omega)⟩, (show 30 - (k + 1) < 30 - k by omega)⟩
            · rename Nat => k
              rename 1 ≤ k ∧ k ≤ 30 => h3
              rename ¬ (_ ∧ _) => h4
              exact absurd (hin k h3.1) h4
      · have hv : maVal l = 0 := by simp only [maVal]; rw [if_neg he]
        have hE : maErr l = lpErr l := rfl
        repeat' (intro hzz; (try (rename Two => hq; cases hq)); (try dsimp only at hzz); (try simp only [resTy, argTy, eqD, inR, big, wantOf, Bool.not_true, Bool.not_false, Bool.true_eq, decide_eq_true_eq, decide_eq_false_iff_not, Bool.not_eq_true', Bool.not_eq_false', Bool.and_eq_true, Prod.mk.injEq, and_true, true_and, Int.not_lt, Int.not_le, gt_iff_lt, ge_iff_le] at hzz); (try simp only [resTy, argTy, eqD, inR, big, wantOf, Bool.not_true, Bool.not_false, Bool.true_eq, decide_eq_true_eq, decide_eq_false_iff_not, Bool.not_eq_true', Bool.not_eq_false', Bool.and_eq_true, Prod.mk.injEq, and_true, true_and, Int.not_lt, Int.not_le, gt_iff_lt, ge_iff_le, hv, hE] at hzz); (try (first | contradiction | (exfalso; omega))); (try (revert hzz; intro _)))
        all_goals try (rename Unit => hq; clear hq)
        all_goals try ((with_reducible refine Held.mk ?_); (with_reducible (first | refine Frz.mk ?_ | refine And.intro (Frz.mk ?_) ?_ | refine And.intro ?_ (Frz.mk ?_))); repeat' first | exact True.intro | (change _ = _; with_reducible rfl) | refine And.intro ?_ ?_ | (with_reducible refine Frz.mk ?_))
        all_goals try (refine Held.mk ?_; (try dsimp only at *); (try simp only [resTy, argTy, eqD, inR, big, wantOf, Bool.not_true, Bool.not_false, Bool.true_eq, decide_eq_true_eq, decide_eq_false_iff_not, Bool.not_eq_true', Bool.not_eq_false', Bool.and_eq_true, Prod.mk.injEq, and_true, true_and, Int.not_lt, Int.not_le, gt_iff_lt, ge_iff_le] at *); (try simp only [resTy, argTy, eqD, inR, big, wantOf, Bool.not_true, Bool.not_false, Bool.true_eq, decide_eq_true_eq, decide_eq_false_iff_not, Bool.not_eq_true', Bool.not_eq_false', Bool.and_eq_true, Prod.mk.injEq, and_true, true_and, Int.not_lt, Int.not_le, gt_iff_lt, ge_iff_le, hv, hE] at *))
        all_goals try omega
        all_goals try exact hcp
        ·
          refine GHeld.mk ?_
          refine Exists.intro (0 : Nat) ?_
          refine And.intro (Leaf.mk ?_) ?_
          · repeat' first | exact True.intro | refine And.intro ?_ ?_
            all_goals try ((change _ = _ <;> try dsimp only) <;> try with_reducible rfl)
            all_goals try omega
            all_goals (rfl)
          exact ⟨Nat.zero_le _, fun j hj => absurd hj (Nat.not_lt_zero j)⟩
        · rename Nat => k
          rename _ ∧ (∀ j, j < k → _) => h3
          rename (k : Int) < _ => h4
          rename (((List.length _ : Nat) : Int) ≤ 12) => h5
          refine GHeld.mk ?_
          refine Exists.intro (k + 1) ?_
          refine And.intro (Leaf.mk ?_) ?_
          · repeat' first | exact True.intro | refine And.intro ?_ ?_
            all_goals try ((change _ = _ <;> try dsimp only) <;> try with_reducible rfl)
            all_goals try omega
            all_goals (rfl)
          exact ⟨nr_step h3 h4 h5, (show l.length - (k + 1) < l.length - k by omega)⟩
        all_goals skip
    ·
      repeat' (intro hzz; (try (rename Two => hq; cases hq)); (try dsimp only at hzz); (try simp only [resTy, argTy, eqD, inR, big, wantOf, Bool.not_true, Bool.not_false, Bool.true_eq, decide_eq_true_eq, decide_eq_false_iff_not, Bool.not_eq_true', Bool.not_eq_false', Bool.and_eq_true, Prod.mk.injEq, and_true, true_and, Int.not_lt, Int.not_le, gt_iff_lt, ge_iff_le] at hzz); (try simp only [resTy, argTy, eqD, inR, big, wantOf, Bool.not_true, Bool.not_false, Bool.true_eq, decide_eq_true_eq, decide_eq_false_iff_not, Bool.not_eq_true', Bool.not_eq_false', Bool.and_eq_true, Prod.mk.injEq, and_true, true_and, Int.not_lt, Int.not_le, gt_iff_lt, ge_iff_le, Ty.beq] at hzz); (try (first | contradiction | (exfalso; omega))); (try (exact (nr_abs hts ‹_› ‹_›).elim)); (try (revert hzz; intro _)))
      all_goals try (rename Unit => hq; clear hq)
      all_goals try ((with_reducible refine Held.mk ?_); (with_reducible (first | refine Frz.mk ?_ | refine And.intro (Frz.mk ?_) ?_ | refine And.intro ?_ (Frz.mk ?_))); repeat' first | exact True.intro | (change _ = _; with_reducible rfl) | refine And.intro ?_ ?_ | (with_reducible refine Frz.mk ?_))
      all_goals try (refine Held.mk ?_; (try dsimp only at *); (try simp only [resTy, argTy, eqD, inR, big, wantOf, Bool.not_true, Bool.not_false, Bool.true_eq, decide_eq_true_eq, decide_eq_false_iff_not, Bool.not_eq_true', Bool.not_eq_false', Bool.and_eq_true, Prod.mk.injEq, and_true, true_and, Int.not_lt, Int.not_le, gt_iff_lt, ge_iff_le] at *); (try simp only [resTy, argTy, eqD, inR, big, wantOf, Bool.not_true, Bool.not_false, Bool.true_eq, decide_eq_true_eq, decide_eq_false_iff_not, Bool.not_eq_true', Bool.not_eq_false', Bool.and_eq_true, Prod.mk.injEq, and_true, true_and, Int.not_lt, Int.not_le, gt_iff_lt, ge_iff_le, Ty.beq] at *))
      all_goals try omega
      ·
        refine GHeld.mk ?_
        refine Exists.intro (0 : Nat) ?_
        refine And.intro (Leaf.mk ?_) ?_
        · repeat' first | exact True.intro | refine And.intro ?_ ?_
          all_goals try ((change _ = _ <;> try dsimp only) <;> try with_reducible rfl)
          all_goals try omega
          all_goals (rfl)
        exact ⟨Nat.zero_le _, fun j hj => absurd hj (Nat.not_lt_zero j)⟩
      · rename Nat => k
        rename _ ∧ (∀ j, j < k → _) => h3
        rename (k : Int) < _ => h4
        rename (((List.length _ : Nat) : Int) ≤ 12) => h5
        refine GHeld.mk ?_
        refine Exists.intro (k + 1) ?_
        refine And.intro (Leaf.mk ?_) ?_
        · repeat' first | exact True.intro | refine And.intro ?_ ?_
          all_goals try ((change _ = _ <;> try dsimp only) <;> try with_reducible rfl)
          all_goals try omega
          all_goals (rfl)
        exact ⟨nr_step h3 h4 h5, (show l.length - (k + 1) < l.length - k by omega)⟩
      all_goals (exfalso; rename_i h3 h4; skip)
  ·
    repeat' (intro hzz; (try (rename Two => hq; cases hq)); (try dsimp only at hzz); (try simp only [resTy, argTy, eqD, inR, big, wantOf, Bool.not_true, Bool.not_false, Bool.true_eq, decide_eq_true_eq, decide_eq_false_iff_not, Bool.not_eq_true', Bool.not_eq_false', Bool.and_eq_true, Prod.mk.injEq, and_true, true_and, Int.not_lt, Int.not_le, gt_iff_lt, ge_iff_le] at hzz); (try (first | contradiction | (exfalso; omega))); (try (revert hzz; intro _)))
    all_goals try (rename Unit => hq; clear hq)
    all_goals try ((with_reducible refine Held.mk ?_); (with_reducible (first | refine Frz.mk ?_ | refine And.intro (Frz.mk ?_) ?_ | refine And.intro ?_ (Frz.mk ?_))); repeat' first | exact True.intro | (change _ = _; with_reducible rfl) | refine And.intro ?_ ?_ | (with_reducible refine Frz.mk ?_))
    all_goals try (refine Held.mk ?_; (try dsimp only at *); (try simp only [resTy, argTy, eqD, inR, big, wantOf, Bool.not_true, Bool.not_false, Bool.true_eq, decide_eq_true_eq, decide_eq_false_iff_not, Bool.not_eq_true', Bool.not_eq_false', Bool.and_eq_true, Prod.mk.injEq, and_true, true_and, Int.not_lt, Int.not_le, gt_iff_lt, ge_iff_le] at *))
    all_goals try omega

end Go.Eng.Lp
