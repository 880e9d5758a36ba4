/- The law PulseBack: for every input the law returns true, and each argument reads behind the call as before. Conditions: none. -/
import Derived.Test.YtcoimlnplaidiaaQ64
import Derived.Test.YtcoimlnplaidiaaQ57A
import Derived.Test.YtcoimlnplaidiaaQ52A
import Derived.Test.YtcoimlnplaidiaaB2
namespace Go.Eng.Pu
open Go.Eng Go.Proofs
set_option linter.all false
set_option maxRecDepth 100000
set_option maxHeartbeats 8000000

def bkOk (z : Nat × Nat × Unit) : Prop := ((FloatKind.f32.format.order z.1 1189765120 == some .gt) = false ∧ (FloatKind.f32.format.order z.1 3337248768 == some .lt) = false) ∧ ((FloatKind.f32.format.order z.2.1 1189765120 == some .gt) = false ∧ (FloatKind.f32.format.order z.2.1 3337248768 == some .lt) = false)
def bkInv (l : RawL) (k : Nat) : Prop := k ≤ l.length ∧ ∀ j, j < k → bkOk (l.getD j (0, 0, ()))
def bkAll (l : RawL) : Prop := ∀ j, j < l.length → bkOk (l.getD j (0, 0, ()))
theorem bk_end {l : RawL} {k : Nat} (h : bkInv l k) (hk : (l.length : Int) ≤ (k : Int)) (hb : ¬ bkAll l) : False := hb fun j hj => h.2 j (by omega)

theorem c30 : fN .f32 1189765120 = true ∧ fN .f32 3337248768 = true ∧ fV .f32 1189765120 = 30000 * fS .f32 ∧ fV .f32 3337248768 = -(30000 * fS .f32) := by decide +kernel

theorem fT_30 {x : Nat} (hN : fN .f32 x = true) (h1 : (FloatKind.f32.format.order x 1189765120 == some .gt) = false) (h2 : (FloatKind.f32.format.order x 3337248768 == some .lt) = false) : -30000 ≤ fT .f32 x ∧ fT .f32 x ≤ 30000 := by
  have g1 := cmp_gt hN c30.1
  have g2 := cmp_lt hN c30.2.1
  rw [c30.2.2.1, h1] at g1
  rw [c30.2.2.2, h2] at g2
  have a := of_decide_eq_false g1.symm
  have b := of_decide_eq_false g2.symm
  have h0 := fS_pos .f32
  unfold fT
  generalize fS .f32 = S at *
  generalize fV .f32 x = V at *
  constructor
  · by_cases hv : 0 ≤ V
    · rw [Int.tdiv_eq_ediv_of_nonneg hv]; have := Int.ediv_nonneg hv (by omega : 0 ≤ S); omega
    · have e : V.tdiv S = -((-V).tdiv S) := by rw [Int.neg_tdiv]; omega
      rw [e, Int.tdiv_eq_ediv_of_nonneg (by omega)]
      have : (-V) / S ≤ 30000 := by
        have := Int.ediv_le_ediv h0 (show -V ≤ 30000 * S by omega)
        rwa [Int.mul_ediv_cancel _ (by omega)] at this
      omega
  · by_cases hv : 0 ≤ V
    · rw [Int.tdiv_eq_ediv_of_nonneg hv]
      have := Int.ediv_le_ediv h0 (show V ≤ 30000 * S by omega)
      rwa [Int.mul_ediv_cancel _ (by omega)] at this
    · have e : V.tdiv S = -((-V).tdiv S) := by rw [Int.neg_tdiv]; omega
      rw [e, Int.tdiv_eq_ediv_of_nonneg (by omega)]
      have := Int.ediv_nonneg (show 0 ≤ -V by omega) (by omega : 0 ≤ S)
      omega

theorem pE_fN {x : Nat} (h : pE x = 0) : fN .f32 x = true := (pE_zero h).1

theorem lP_30 {l : RawL} (h : lE (lsL l) = 0) (hb : bkAll l) (i : Nat) : inBP 30000 ((lP (lsL l)).getD i (0, 0, ())) := by
  have hl : (lsL l).length = l.length := tab_len _ _
  by_cases hi : i < l.length
  · have e : lP (lsL l) = tab (prF (lsL l)) (lsL l).length := by unfold lP; rw [if_pos h]; rfl
    rw [e, tab_get _ _ _ _ (by omega)]
    have g : (lsL l).getD i (0, 0) = lsF l i := tab_get _ _ _ _ hi
    have z := eE_zero ((lE_ok h).2.2 i (by omega))
    rw [g] at z
    unfold prF
    rw [g]
    have b := hb i hi
    exact ⟨fT_30 (pE_fN z.1) b.1.1 b.1.2, fT_30 (pE_fN z.2) b.2.1 b.2.2⟩
  · have : (lP (lsL l)).getD i (0, 0, ()) = (0, 0, ()) := by
      rw [List.getD_eq_getElem?_getD, List.getElem?_eq_none (by rw [lP_len h]; omega)]; rfl
    rw [this]; exact ⟨by decide, by decide⟩

theorem flV_30 {ps : List IP} {p : Nat} (h : ∀ i, inBP 30000 (ps.getD i (0, 0, ()))) (i : Nat) : ∀ k : Nat, inBP (k * 30000) (flV ps p i k)
  | 0 => by show (_ ≤ (0 : Int) ∧ (0 : Int) ≤ _) ∧ (_ ≤ (0 : Int) ∧ (0 : Int) ≤ _); omega
  | k + 1 => by
    have ih := flV_30 (p := p) h i k
    have e : flV ps p i (k + 1) = if i = k % p then plusP (flV ps p i k) (ps.getD k (0, 0, ())) else flV ps p i k := rfl
    rw [e]
    split
    · have := plusP_in ih (h k)
      rw [show ((k + 1 : Nat) : Int) * 30000 = (k : Int) * 30000 + 30000 by omega]
      exact this
    · exact inBP_mono ih (by omega)

theorem few_40 {l : RawL} (hf : few l.length = true) (h : lE (lsL l) = 0) : l.length ≤ 40 := by
  have := (lE_ok h).2.1
  have hl : (lsL l).length = l.length := tab_len _ _
  unfold few at hf
  simp at hf
  omega

theorem exf_30 {l : RawL} (hf : few l.length = true) (h : lE (lsL l) = 0) (hb : bkAll l) (L : Int) (i : Nat) : inBP 1200000 ((exf (lsL l) L).getD i (0, 0, ())) := by
  have hl : (lsL l).length = l.length := tab_len _ _
  have h40 := few_40 hf h
  have hlp := lP_len h
  unfold exf flL
  by_cases hi : i < (most L).toNat
  · rw [tab_get _ _ _ _ hi]
    exact inBP_mono (flV_30 (lP_30 h hb) i _) (by omega)
  · have : (tab (fun i => flV (lP (lsL l)) (most L).toNat i (lP (lsL l)).length) (most L).toNat).getD i (0, 0, ()) = (0, 0, ()) := by
      rw [List.getD_eq_getElem?_getD, List.getElem?_eq_none (by rw [tab_len]; omega)]; rfl
    rw [this]; exact ⟨by decide, by decide⟩

theorem allFit_of {ps : List IP} (h : ∀ i, inBP 16777216 (ps.getD i (0, 0, ()))) : allFit ps = true := by
  unfold allFit
  rw [List.all_eq_true]
  intro p hp
  obtain ⟨j, hj, e⟩ := List.mem_iff_getElem.1 hp
  have := h j
  rw [List.getD_eq_getElem?_getD, List.getElem?_eq_getElem hj, Option.getD_some, e] at this
  exact fits_of this

@[reducible] def sLaw15 : Spec := { pats := [.dat (.sl RawT), .dat StartT', .dat I64], res := [{ t := .bool }], pre := fun _ => True, f := fun _ => (true, ()) }

/-- PulseBack -/
theorem h15 : Ok 15 sLaw15 := by
  refine mk (ctr := [(17, sAwake), (28, sFew), (30, sListW), (76, sListE), (23, sStartR), (64, sRIsMax), (68, sMost), (19, sCopy), (31, sExc), (29, sFolded), (53, sUnf), (34, sSameN), (25, sWithin), (43, sFieldOf), (46, sCField), (70, sStartL), (69, sUwI)]) ⟨h17, h28n, h30n, h76n, h23, h64, h68, h19, h31n, h29n, h53n, h34n, h25, h43, h46, h70, h69, trivial⟩ (nt := 173) Try.func15 rfl rfl rfl rfl (by kernel_rfl) (by kernel_rfl) (fun x => [fun _ => { σ := Nat, pat := fun k => [sI 7 k], inv := fun k => bkInv x.1 k, meas := fun k => List.length (α := Nat × Nat × Unit) x.1 - k }]) ?_
  rintro ⟨(l : RawL), ⟨⟨(L : Int), (ts : List Int), _⟩, (s : Int), _⟩, (lo : Int), _⟩ _
  by_cases hf : few l.length = true
  · have hle := few_le hf
    by_cases ht : ts.length ≤ 12
    · have htp : pLen ts.length := by unfold pLen; omega
      by_cases h : lE (lsL l) = 0
      · by_cases ho : opErr L ts s = 0
        · obtain ⟨hst, hs1⟩ := op_pSt htp ho
          by_cases hM : (per L ts 1 : Int) = most L
          · have hMd := decide_eq_true hM
            by_cases hb : bkAll l
            · have m : Mx L ts s := ⟨hst, hs1, hM⟩
              have hpos := m.pos
              have hL := (chk_zero hst.1).1
              have hll : (lsL l).length = l.length := tab_len _ _
              have hxb := exf_30 hf h hb L
              have hfit : allFit (exf (lsL l) L) = true := allFit_of (fun i => inBP_mono (hxb i) (by decide))
              have hfdE : fdE (lsL l) (most L) = 0 := by
                unfold fdE; rw [if_pos h, if_pos ⟨by omega, by omega⟩]
                show tE (exf (lsL l) L) = 0
                unfold tE; rw [if_pos hfit]
              have hfdL : fdL (lsL l) (most L) = tL (exf (lsL l) L) := by
                unfold fdL; rw [if_pos h, if_pos ⟨by omega, by omega⟩]; rfl
              have hok := tL_ok (exf (lsL l) L)
              have hol : (tL (exf (lsL l) L)).length ≤ 1024 := by have := tL_len (exf (lsL l) L); have := exf_len (lsL l) L; omega
              by_cases hx : allFit (exL (lsL l) L ts s) = true
              · have hE : exE (lsL l) L ts s = 0 := by unfold exE; rw [if_pos h, if_pos ho, if_pos hfit]; unfold tE; rw [if_pos hx]
                have hR : exR (lsL l) L ts s = tL (exL (lsL l) L ts s) := by unfold exR; rw [if_pos h, if_pos ho, if_pos hfit]
                have hlen : (exL (lsL l) L ts s).length = (most L).toNat := tab_len _ _
                obtain ⟨y1, y2, y3⟩ := tL_read hx (by omega) (by omega)
                obtain ⟨u1, u2⟩ := unfold_exact m y1 y2 hfit
                by_cases hlo : 3000000 ≤ lo ∧ lo ≤ 1000000000
                · have hw : fWithin lo 3000000 1000000000 = true := decide_eq_true hlo
                  obtain ⟨q, q1, q2, q3, q4⟩ := prime_big hL
                  obtain ⟨f1, f2, f3, f4, f5⟩ := fo_ok (n := most L) (lo := lo) (q := q) (by omega) (by omega) (by omega) (by omega) (by omega) q3 q4
                  have hfo := cf_zero f2
                  rw [f5] at hfo
                  have uw := uw_exact (xs := lsL l) m hfo (by omega) (fun k hk => by
                    have := hxb k
                    have a := this.1
                    have b := this.2
                    exact ⟨⟨by omega, by omega⟩, ⟨by omega, by omega⟩⟩)
                  have w1 : uwE (tL (exL (lsL l) L ts s)) L ts s (foP (most L) lo) (foW (most L) lo) (foN (most L) lo) = 0 := by
                    unfold uwE
                    rw [if_pos y1, if_pos ho, if_pos f2, if_pos hM, if_pos ⟨by omega, f5⟩, y2, f5, uw]
                    unfold tE; rw [if_pos hfit]
                  have w2 : uwR (tL (exL (lsL l) L ts s)) L ts s (foP (most L) lo) (foW (most L) lo) (foN (most L) lo) = tL (exf (lsL l) L) := by
                    unfold uwR
                    rw [if_pos y1, if_pos ho, if_pos f2, if_pos hM, if_pos ⟨by omega, f5⟩, y2, f5, uw]
                  repeat' (intro hzz; (try (rename Two => hq; cases hq)); (try dsimp only at hzz); (try simp only [resTy, argTy, eqD, inR, big, wantOf, Bool.not_true, Bool.not_false, Bool.true_eq, decide_eq_true_eq, decide_eq_false_iff_not, Bool.not_eq_true', Bool.not_eq_false', Bool.and_eq_true, Prod.mk.injEq, and_true, true_and, Int.not_lt, Int.not_le, gt_iff_lt, ge_iff_le] at hzz); (try simp only [resTy, argTy, eqD, inR, big, wantOf, Bool.not_true, Bool.not_false, Bool.true_eq, decide_eq_true_eq, decide_eq_false_iff_not, Bool.not_eq_true', Bool.not_eq_false', Bool.and_eq_true, Prod.mk.injEq, and_true, true_and, Int.not_lt, Int.not_le, gt_iff_lt, ge_iff_le, hf, h, ho, hMd, hE, hR, hfdE, hfdL, u1, u2, hw, f1, f2, w1, w2, List.nil_append] at hzz); (try (first | contradiction | (exfalso; omega))); (try (revert hzz; intro _)))
                  all_goals try (rename Unit => hq; clear hq)
                  all_goals try ((with_reducible refine Held.mk ?_); (with_reducible (first | refine Frz.mk ?_ | refine And.intro (Frz.mk ?_) ?_ | refine And.intro ?_ (Frz.mk ?_))); repeat' first | exact True.intro | (change _ = _; with_reducible rfl) | refine And.intro ?_ ?_ | (with_reducible refine Frz.mk ?_))
                  all_goals try (refine Held.mk ?_; (try dsimp only at *); (try simp only [resTy, argTy, eqD, inR, big, wantOf, Bool.not_true, Bool.not_false, Bool.true_eq, decide_eq_true_eq, decide_eq_false_iff_not, Bool.not_eq_true', Bool.not_eq_false', Bool.and_eq_true, Prod.mk.injEq, and_true, true_and, Int.not_lt, Int.not_le, gt_iff_lt, ge_iff_le] at *); (try simp only [resTy, argTy, eqD, inR, big, wantOf, Bool.not_true, Bool.not_false, Bool.true_eq, decide_eq_true_eq, decide_eq_false_iff_not, Bool.not_eq_true', Bool.not_eq_false', Bool.and_eq_true, Prod.mk.injEq, and_true, true_and, Int.not_lt, Int.not_le, gt_iff_lt, ge_iff_le, hf, h, ho, hMd, hE, hR, hfdE, hfdL, u1, u2, hw, f1, f2, w1, w2, List.nil_append] at *))
                  all_goals try omega
                  · exact ⟨hst.1, htp⟩
                  · 
                    refine GHeld.mk ?_
                    refine Exists.intro 0 ?_
                    refine And.intro (Leaf.mk ?_) ?_
                    · repeat' first | exact True.intro | refine And.intro ?_ ?_
                      all_goals try ((change _ = _ <;> try dsimp only) <;> try with_reducible rfl)
                      all_goals try omega
                      all_goals (rfl)
                    exact ⟨Nat.zero_le _, fun j hj => by omega⟩
                  · rename_i k hk hlt q1 q2 q3 q4
                    refine GHeld.mk ?_
                    refine Exists.intro (k + 1) ?_
                    refine And.intro (Leaf.mk ?_) ?_
                    · repeat' first | exact True.intro | refine And.intro ?_ ?_
                      all_goals try ((change _ = _ <;> try dsimp only) <;> try with_reducible rfl)
                      all_goals try omega
                      all_goals (rfl)
                    refine ⟨⟨by show k + 1 ≤ l.length; omega, fun j hj => ?_⟩, by show l.length - (k + 1) < l.length - k; omega⟩
                    by_cases e : j = k
                    · rw [e]; exact ⟨⟨q1, q2⟩, q3, q4⟩
                    · exact hk.2 j (by omega)
                  · exact (show l.length ≤ 1000000000 by omega)
                  · exact ⟨htp, (show ts.length ≤ 2000000000 by omega)⟩
                  · exact Nat.le_trans (Nat.le_of_eq (Nat.zero_add _)) (Nat.le_trans (exR_len htp) (by decide))
                  · exact ⟨htp, (show ts.length ≤ 2000000000 by omega)⟩
                  · exact ⟨(show (tL (exf (lsL l) L)).length ≤ 2000000000 by omega), hok⟩
                  · exact Nat.le_trans (Nat.le_of_eq (Nat.zero_add _)) (Nat.le_trans (exR_len htp) (by decide))
                  · exact ⟨htp, (show ts.length ≤ 2000000000 by omega)⟩
                  · exact ⟨(show (tL (exf (lsL l) L)).length ≤ 2000000000 by omega), hok⟩
                · have hw : fWithin lo 3000000 1000000000 = false := decide_eq_false hlo
                  repeat' (intro hzz; (try (rename Two => hq; cases hq)); (try dsimp only at hzz); (try simp only [resTy, argTy, eqD, inR, big, wantOf, Bool.not_true, Bool.not_false, Bool.true_eq, decide_eq_true_eq, decide_eq_false_iff_not, Bool.not_eq_true', Bool.not_eq_false', Bool.and_eq_true, Prod.mk.injEq, and_true, true_and, Int.not_lt, Int.not_le, gt_iff_lt, ge_iff_le] at hzz); (try simp only [resTy, argTy, eqD, inR, big, wantOf, Bool.not_true, Bool.not_false, Bool.true_eq, decide_eq_true_eq, decide_eq_false_iff_not, Bool.not_eq_true', Bool.not_eq_false', Bool.and_eq_true, Prod.mk.injEq, and_true, true_and, Int.not_lt, Int.not_le, gt_iff_lt, ge_iff_le, hf, h, ho, hMd, hE, hR, hfdE, hfdL, u1, u2, hw, List.nil_append] at hzz); (try (first | contradiction | (exfalso; omega))); (try (revert hzz; intro _)))
                  all_goals try (rename Unit => hq; clear hq)
                  all_goals try ((with_reducible refine Held.mk ?_); (with_reducible (first | refine Frz.mk ?_ | refine And.intro (Frz.mk ?_) ?_ | refine And.intro ?_ (Frz.mk ?_))); repeat' first | exact True.intro | (change _ = _; with_reducible rfl) | refine And.intro ?_ ?_ | (with_reducible refine Frz.mk ?_))
                  all_goals try (refine Held.mk ?_; (try dsimp only at *); (try simp only [resTy, argTy, eqD, inR, big, wantOf, Bool.not_true, Bool.not_false, Bool.true_eq, decide_eq_true_eq, decide_eq_false_iff_not, Bool.not_eq_true', Bool.not_eq_false', Bool.and_eq_true, Prod.mk.injEq, and_true, true_and, Int.not_lt, Int.not_le, gt_iff_lt, ge_iff_le] at *); (try simp only [resTy, argTy, eqD, inR, big, wantOf, Bool.not_true, Bool.not_false, Bool.true_eq, decide_eq_true_eq, decide_eq_false_iff_not, Bool.not_eq_true', Bool.not_eq_false', Bool.and_eq_true, Prod.mk.injEq, and_true, true_and, Int.not_lt, Int.not_le, gt_iff_lt, ge_iff_le, hf, h, ho, hMd, hE, hR, hfdE, hfdL, u1, u2, hw, List.nil_append] at *))
                  all_goals try omega
                  · exact ⟨hst.1, htp⟩
                  · 
                    refine GHeld.mk ?_
                    refine Exists.intro 0 ?_
                    refine And.intro (Leaf.mk ?_) ?_
                    · repeat' first | exact True.intro | refine And.intro ?_ ?_
                      all_goals try ((change _ = _ <;> try dsimp only) <;> try with_reducible rfl)
                      all_goals try omega
                      all_goals (rfl)
                    exact ⟨Nat.zero_le _, fun j hj => by omega⟩
                  · rename_i k hk hlt q1 q2 q3 q4
                    refine GHeld.mk ?_
                    refine Exists.intro (k + 1) ?_
                    refine And.intro (Leaf.mk ?_) ?_
                    · repeat' first | exact True.intro | refine And.intro ?_ ?_
                      all_goals try ((change _ = _ <;> try dsimp only) <;> try with_reducible rfl)
                      all_goals try omega
                      all_goals (rfl)
                    refine ⟨⟨by show k + 1 ≤ l.length; omega, fun j hj => ?_⟩, by show l.length - (k + 1) < l.length - k; omega⟩
                    by_cases e : j = k
                    · rw [e]; exact ⟨⟨q1, q2⟩, q3, q4⟩
                    · exact hk.2 j (by omega)
                  · exact (show l.length ≤ 1000000000 by omega)
                  · exact ⟨htp, (show ts.length ≤ 2000000000 by omega)⟩
                  · exact Nat.le_trans (Nat.le_of_eq (Nat.zero_add _)) (Nat.le_trans (exR_len htp) (by decide))
                  · exact ⟨htp, (show ts.length ≤ 2000000000 by omega)⟩
                  · exact ⟨(show (tL (exf (lsL l) L)).length ≤ 2000000000 by omega), hok⟩
              · have hx : allFit (exL (lsL l) L ts s) = false := by simpa using hx
                have hE : exE (lsL l) L ts s = 8 := by unfold exE; rw [if_pos h, if_pos ho, if_pos hfit]; unfold tE; rw [hx]; rfl
                have hR : exR (lsL l) L ts s = [] := by unfold exR; rw [if_pos h, if_pos ho, if_pos hfit]; unfold tL; rw [hx]; rfl
                repeat' (intro hzz; (try (rename Two => hq; cases hq)); (try dsimp only at hzz); (try simp only [resTy, argTy, eqD, inR, big, wantOf, Bool.not_true, Bool.not_false, Bool.true_eq, decide_eq_true_eq, decide_eq_false_iff_not, Bool.not_eq_true', Bool.not_eq_false', Bool.and_eq_true, Prod.mk.injEq, and_true, true_and, Int.not_lt, Int.not_le, gt_iff_lt, ge_iff_le] at hzz); (try simp only [resTy, argTy, eqD, inR, big, wantOf, Bool.not_true, Bool.not_false, Bool.true_eq, decide_eq_true_eq, decide_eq_false_iff_not, Bool.not_eq_true', Bool.not_eq_false', Bool.and_eq_true, Prod.mk.injEq, and_true, true_and, Int.not_lt, Int.not_le, gt_iff_lt, ge_iff_le, hf, h, ho, hMd, hE, hR, hfdE, hfdL] at hzz); (try (first | contradiction | (exfalso; omega))); (try (revert hzz; intro _)))
                all_goals try (rename Unit => hq; clear hq)
                all_goals try ((with_reducible refine Held.mk ?_); (with_reducible (first | refine Frz.mk ?_ | refine And.intro (Frz.mk ?_) ?_ | refine And.intro ?_ (Frz.mk ?_))); repeat' first | exact True.intro | (change _ = _; with_reducible rfl) | refine And.intro ?_ ?_ | (with_reducible refine Frz.mk ?_))
                all_goals try (refine Held.mk ?_; (try dsimp only at *); (try simp only [resTy, argTy, eqD, inR, big, wantOf, Bool.not_true, Bool.not_false, Bool.true_eq, decide_eq_true_eq, decide_eq_false_iff_not, Bool.not_eq_true', Bool.not_eq_false', Bool.and_eq_true, Prod.mk.injEq, and_true, true_and, Int.not_lt, Int.not_le, gt_iff_lt, ge_iff_le] at *); (try simp only [resTy, argTy, eqD, inR, big, wantOf, Bool.not_true, Bool.not_false, Bool.true_eq, decide_eq_true_eq, decide_eq_false_iff_not, Bool.not_eq_true', Bool.not_eq_false', Bool.and_eq_true, Prod.mk.injEq, and_true, true_and, Int.not_lt, Int.not_le, gt_iff_lt, ge_iff_le, hf, h, ho, hMd, hE, hR, hfdE, hfdL] at *))
                all_goals try omega
                · exact ⟨hst.1, htp⟩
                · 
                  refine GHeld.mk ?_
                  refine Exists.intro 0 ?_
                  refine And.intro (Leaf.mk ?_) ?_
                  · repeat' first | exact True.intro | refine And.intro ?_ ?_
                    all_goals try ((change _ = _ <;> try dsimp only) <;> try with_reducible rfl)
                    all_goals try omega
                    all_goals (rfl)
                  exact ⟨Nat.zero_le _, fun j hj => by omega⟩
                · rename_i k hk hlt q1 q2 q3 q4
                  refine GHeld.mk ?_
                  refine Exists.intro (k + 1) ?_
                  refine And.intro (Leaf.mk ?_) ?_
                  · repeat' first | exact True.intro | refine And.intro ?_ ?_
                    all_goals try ((change _ = _ <;> try dsimp only) <;> try with_reducible rfl)
                    all_goals try omega
                    all_goals (rfl)
                  refine ⟨⟨by show k + 1 ≤ l.length; omega, fun j hj => ?_⟩, by show l.length - (k + 1) < l.length - k; omega⟩
                  by_cases e : j = k
                  · rw [e]; exact ⟨⟨q1, q2⟩, q3, q4⟩
                  · exact hk.2 j (by omega)
                · exact (show l.length ≤ 1000000000 by omega)
                · exact ⟨htp, (show ts.length ≤ 2000000000 by omega)⟩
            · 
              repeat' (intro hzz; (try (rename Two => hq; cases hq)); (try dsimp only at hzz); (try simp only [resTy, argTy, eqD, inR, big, wantOf, Bool.not_true, Bool.not_false, Bool.true_eq, decide_eq_true_eq, decide_eq_false_iff_not, Bool.not_eq_true', Bool.not_eq_false', Bool.and_eq_true, Prod.mk.injEq, and_true, true_and, Int.not_lt, Int.not_le, gt_iff_lt, ge_iff_le] at hzz); (try simp only [resTy, argTy, eqD, inR, big, wantOf, Bool.not_true, Bool.not_false, Bool.true_eq, decide_eq_true_eq, decide_eq_false_iff_not, Bool.not_eq_true', Bool.not_eq_false', Bool.and_eq_true, Prod.mk.injEq, and_true, true_and, Int.not_lt, Int.not_le, gt_iff_lt, ge_iff_le, hf, h, ho, hMd] at hzz); (try (first | contradiction | (exfalso; omega))); (try (exact (bk_end (by assumption) (by assumption) hb).elim)); (try (revert hzz; intro _)))
              all_goals try (rename Unit => hq; clear hq)
              all_goals try ((with_reducible refine Held.mk ?_); (with_reducible (first | refine Frz.mk ?_ | refine And.intro (Frz.mk ?_) ?_ | refine And.intro ?_ (Frz.mk ?_))); repeat' first | exact True.intro | (change _ = _; with_reducible rfl) | refine And.intro ?_ ?_ | (with_reducible refine Frz.mk ?_))
              all_goals try (refine Held.mk ?_; (try dsimp only at *); (try simp only [resTy, argTy, eqD, inR, big, wantOf, Bool.not_true, Bool.not_false, Bool.true_eq, decide_eq_true_eq, decide_eq_false_iff_not, Bool.not_eq_true', Bool.not_eq_false', Bool.and_eq_true, Prod.mk.injEq, and_true, true_and, Int.not_lt, Int.not_le, gt_iff_lt, ge_iff_le] at *); (try simp only [resTy, argTy, eqD, inR, big, wantOf, Bool.not_true, Bool.not_false, Bool.true_eq, decide_eq_true_eq, decide_eq_false_iff_not, Bool.not_eq_true', Bool.not_eq_false', Bool.and_eq_true, Prod.mk.injEq, and_true, true_and, Int.not_lt, Int.not_le, gt_iff_lt, ge_iff_le, hf, h, ho, hMd] at *))
              all_goals try omega
              · exact ⟨hst.1, htp⟩
              · 
                refine GHeld.mk ?_
                refine Exists.intro 0 ?_
                refine And.intro (Leaf.mk ?_) ?_
                · repeat' first | exact True.intro | refine And.intro ?_ ?_
                  all_goals try ((change _ = _ <;> try dsimp only) <;> try with_reducible rfl)
                  all_goals try omega
                  all_goals (rfl)
                exact ⟨Nat.zero_le _, fun j hj => by omega⟩
              · rename_i k hk hlt q1 q2 q3 q4
                refine GHeld.mk ?_
                refine Exists.intro (k + 1) ?_
                refine And.intro (Leaf.mk ?_) ?_
                · repeat' first | exact True.intro | refine And.intro ?_ ?_
                  all_goals try ((change _ = _ <;> try dsimp only) <;> try with_reducible rfl)
                  all_goals try omega
                  all_goals (rfl)
                refine ⟨⟨by show k + 1 ≤ l.length; omega, fun j hj => ?_⟩, by show l.length - (k + 1) < l.length - k; omega⟩
                by_cases e : j = k
                · rw [e]; exact ⟨⟨q1, q2⟩, q3, q4⟩
                · exact hk.2 j (by omega)
          · have hMd := decide_eq_false hM
            repeat' (intro hzz; (try (rename Two => hq; cases hq)); (try dsimp only at hzz); (try simp only [resTy, argTy, eqD, inR, big, wantOf, Bool.not_true, Bool.not_false, Bool.true_eq, decide_eq_true_eq, decide_eq_false_iff_not, Bool.not_eq_true', Bool.not_eq_false', Bool.and_eq_true, Prod.mk.injEq, and_true, true_and, Int.not_lt, Int.not_le, gt_iff_lt, ge_iff_le] at hzz); (try simp only [resTy, argTy, eqD, inR, big, wantOf, Bool.not_true, Bool.not_false, Bool.true_eq, decide_eq_true_eq, decide_eq_false_iff_not, Bool.not_eq_true', Bool.not_eq_false', Bool.and_eq_true, Prod.mk.injEq, and_true, true_and, Int.not_lt, Int.not_le, gt_iff_lt, ge_iff_le, hf, h, ho, hMd] at hzz); (try (first | contradiction | (exfalso; omega))); (try (revert hzz; intro _)))
            all_goals try (rename Unit => hq; clear hq)
            all_goals try ((with_reducible refine Held.mk ?_); (with_reducible (first | refine Frz.mk ?_ | refine And.intro (Frz.mk ?_) ?_ | refine And.intro ?_ (Frz.mk ?_))); repeat' first | exact True.intro | (change _ = _; with_reducible rfl) | refine And.intro ?_ ?_ | (with_reducible refine Frz.mk ?_))
            all_goals try (refine Held.mk ?_; (try dsimp only at *); (try simp only [resTy, argTy, eqD, inR, big, wantOf, Bool.not_true, Bool.not_false, Bool.true_eq, decide_eq_true_eq, decide_eq_false_iff_not, Bool.not_eq_true', Bool.not_eq_false', Bool.and_eq_true, Prod.mk.injEq, and_true, true_and, Int.not_lt, Int.not_le, gt_iff_lt, ge_iff_le] at *); (try simp only [resTy, argTy, eqD, inR, big, wantOf, Bool.not_true, Bool.not_false, Bool.true_eq, decide_eq_true_eq, decide_eq_false_iff_not, Bool.not_eq_true', Bool.not_eq_false', Bool.and_eq_true, Prod.mk.injEq, and_true, true_and, Int.not_lt, Int.not_le, gt_iff_lt, ge_iff_le, hf, h, ho, hMd] at *))
            all_goals try omega
            all_goals exact ⟨hst.1, htp⟩
        · 
          repeat' (intro hzz; (try (rename Two => hq; cases hq)); (try dsimp only at hzz); (try simp only [resTy, argTy, eqD, inR, big, wantOf, Bool.not_true, Bool.not_false, Bool.true_eq, decide_eq_true_eq, decide_eq_false_iff_not, Bool.not_eq_true', Bool.not_eq_false', Bool.and_eq_true, Prod.mk.injEq, and_true, true_and, Int.not_lt, Int.not_le, gt_iff_lt, ge_iff_le] at hzz); (try simp only [resTy, argTy, eqD, inR, big, wantOf, Bool.not_true, Bool.not_false, Bool.true_eq, decide_eq_true_eq, decide_eq_false_iff_not, Bool.not_eq_true', Bool.not_eq_false', Bool.and_eq_true, Prod.mk.injEq, and_true, true_and, Int.not_lt, Int.not_le, gt_iff_lt, ge_iff_le, hf, h, ho] at hzz); (try (first | contradiction | (exfalso; omega))); (try (revert hzz; intro _)))
          all_goals try (rename Unit => hq; clear hq)
          all_goals try ((with_reducible refine Held.mk ?_); (with_reducible (first | refine Frz.mk ?_ | refine And.intro (Frz.mk ?_) ?_ | refine And.intro ?_ (Frz.mk ?_))); repeat' first | exact True.intro | (change _ = _; with_reducible rfl) | refine And.intro ?_ ?_ | (with_reducible refine Frz.mk ?_))
          all_goals try (refine Held.mk ?_; (try dsimp only at *); (try simp only [resTy, argTy, eqD, inR, big, wantOf, Bool.not_true, Bool.not_false, Bool.true_eq, decide_eq_true_eq, decide_eq_false_iff_not, Bool.not_eq_true', Bool.not_eq_false', Bool.and_eq_true, Prod.mk.injEq, and_true, true_and, Int.not_lt, Int.not_le, gt_iff_lt, ge_iff_le] at *); (try simp only [resTy, argTy, eqD, inR, big, wantOf, Bool.not_true, Bool.not_false, Bool.true_eq, decide_eq_true_eq, decide_eq_false_iff_not, Bool.not_eq_true', Bool.not_eq_false', Bool.and_eq_true, Prod.mk.injEq, and_true, true_and, Int.not_lt, Int.not_le, gt_iff_lt, ge_iff_le, hf, h, ho] at *))
          all_goals try omega
          all_goals skip
      · 
        repeat' (intro hzz; (try (rename Two => hq; cases hq)); (try dsimp only at hzz); (try simp only [resTy, argTy, eqD, inR, big, wantOf, Bool.not_true, Bool.not_false, Bool.true_eq, decide_eq_true_eq, decide_eq_false_iff_not, Bool.not_eq_true', Bool.not_eq_false', Bool.and_eq_true, Prod.mk.injEq, and_true, true_and, Int.not_lt, Int.not_le, gt_iff_lt, ge_iff_le] at hzz); (try simp only [resTy, argTy, eqD, inR, big, wantOf, Bool.not_true, Bool.not_false, Bool.true_eq, decide_eq_true_eq, decide_eq_false_iff_not, Bool.not_eq_true', Bool.not_eq_false', Bool.and_eq_true, Prod.mk.injEq, and_true, true_and, Int.not_lt, Int.not_le, gt_iff_lt, ge_iff_le, hf, h] at hzz); (try (first | contradiction | (exfalso; omega))); (try (revert hzz; intro _)))
        all_goals try (rename Unit => hq; clear hq)
        all_goals try ((with_reducible refine Held.mk ?_); (with_reducible (first | refine Frz.mk ?_ | refine And.intro (Frz.mk ?_) ?_ | refine And.intro ?_ (Frz.mk ?_))); repeat' first | exact True.intro | (change _ = _; with_reducible rfl) | refine And.intro ?_ ?_ | (with_reducible refine Frz.mk ?_))
        all_goals try (refine Held.mk ?_; (try dsimp only at *); (try simp only [resTy, argTy, eqD, inR, big, wantOf, Bool.not_true, Bool.not_false, Bool.true_eq, decide_eq_true_eq, decide_eq_false_iff_not, Bool.not_eq_true', Bool.not_eq_false', Bool.and_eq_true, Prod.mk.injEq, and_true, true_and, Int.not_lt, Int.not_le, gt_iff_lt, ge_iff_le] at *); (try simp only [resTy, argTy, eqD, inR, big, wantOf, Bool.not_true, Bool.not_false, Bool.true_eq, decide_eq_true_eq, decide_eq_false_iff_not, Bool.not_eq_true', Bool.not_eq_false', Bool.and_eq_true, Prod.mk.injEq, and_true, true_and, Int.not_lt, Int.not_le, gt_iff_lt, ge_iff_le, hf, h] at *))
        all_goals try omega
        all_goals skip
    · 
      repeat' (intro hzz; (try (rename Two => hq; cases hq)); (try dsimp only at hzz); (try simp only [resTy, argTy, eqD, inR, big, wantOf, Bool.not_true, Bool.not_false, Bool.true_eq, decide_eq_true_eq, decide_eq_false_iff_not, Bool.not_eq_true', Bool.not_eq_false', Bool.and_eq_true, Prod.mk.injEq, and_true, true_and, Int.not_lt, Int.not_le, gt_iff_lt, ge_iff_le] at hzz); (try simp only [resTy, argTy, eqD, inR, big, wantOf, Bool.not_true, Bool.not_false, Bool.true_eq, decide_eq_true_eq, decide_eq_false_iff_not, Bool.not_eq_true', Bool.not_eq_false', Bool.and_eq_true, Prod.mk.injEq, and_true, true_and, Int.not_lt, Int.not_le, gt_iff_lt, ge_iff_le, hf] at hzz); (try (first | contradiction | (exfalso; omega))); (try (revert hzz; intro _)))
      all_goals try (rename Unit => hq; clear hq)
      all_goals try ((with_reducible refine Held.mk ?_); (with_reducible (first | refine Frz.mk ?_ | refine And.intro (Frz.mk ?_) ?_ | refine And.intro ?_ (Frz.mk ?_))); repeat' first | exact True.intro | (change _ = _; with_reducible rfl) | refine And.intro ?_ ?_ | (with_reducible refine Frz.mk ?_))
      all_goals try (refine Held.mk ?_; (try dsimp only at *); (try simp only [resTy, argTy, eqD, inR, big, wantOf, Bool.not_true, Bool.not_false, Bool.true_eq, decide_eq_true_eq, decide_eq_false_iff_not, Bool.not_eq_true', Bool.not_eq_false', Bool.and_eq_true, Prod.mk.injEq, and_true, true_and, Int.not_lt, Int.not_le, gt_iff_lt, ge_iff_le] at *); (try simp only [resTy, argTy, eqD, inR, big, wantOf, Bool.not_true, Bool.not_false, Bool.true_eq, decide_eq_true_eq, decide_eq_false_iff_not, Bool.not_eq_true', Bool.not_eq_false', Bool.and_eq_true, Prod.mk.injEq, and_true, true_and, Int.not_lt, Int.not_le, gt_iff_lt, ge_iff_le, hf] at *))
      all_goals try omega
  · have hf : few l.length = false := by simpa using hf
    repeat' (intro hzz; (try (rename Two => hq; cases hq)); (try dsimp only at hzz); (try simp only [resTy, argTy, eqD, inR, big, wantOf, Bool.not_true, Bool.not_false, Bool.true_eq, decide_eq_true_eq, decide_eq_false_iff_not, Bool.not_eq_true', Bool.not_eq_false', Bool.and_eq_true, Prod.mk.injEq, and_true, true_and, Int.not_lt, Int.not_le, gt_iff_lt, ge_iff_le] at hzz); (try simp only [resTy, argTy, eqD, inR, big, wantOf, Bool.not_true, Bool.not_false, Bool.true_eq, decide_eq_true_eq, decide_eq_false_iff_not, Bool.not_eq_true', Bool.not_eq_false', Bool.and_eq_true, Prod.mk.injEq, and_true, true_and, Int.not_lt, Int.not_le, gt_iff_lt, ge_iff_le, hf] at hzz); (try (first | contradiction | (exfalso; omega))); (try (revert hzz; intro _)))
    all_goals try (rename Unit => hq; clear hq)
    all_goals try ((with_reducible refine Held.mk ?_); (with_reducible (first | refine Frz.mk ?_ | refine And.intro (Frz.mk ?_) ?_ | refine And.intro ?_ (Frz.mk ?_))); repeat' first | exact True.intro | (change _ = _; with_reducible rfl) | refine And.intro ?_ ?_ | (with_reducible refine Frz.mk ?_))
    all_goals try (refine Held.mk ?_; (try dsimp only at *); (try simp only [resTy, argTy, eqD, inR, big, wantOf, Bool.not_true, Bool.not_false, Bool.true_eq, decide_eq_true_eq, decide_eq_false_iff_not, Bool.not_eq_true', Bool.not_eq_false', Bool.and_eq_true, Prod.mk.injEq, and_true, true_and, Int.not_lt, Int.not_le, gt_iff_lt, ge_iff_le] at *); (try simp only [resTy, argTy, eqD, inR, big, wantOf, Bool.not_true, Bool.not_false, Bool.true_eq, decide_eq_true_eq, decide_eq_false_iff_not, Bool.not_eq_true', Bool.not_eq_false', Bool.and_eq_true, Prod.mk.injEq, and_true, true_and, Int.not_lt, Int.not_le, gt_iff_lt, ge_iff_le, hf] at *))
    all_goals try omega

end Go.Eng.Pu

namespace Go.Proofs.Ytcoimlnplaidiaa
open Go.Eng Go.Eng.Pu Go.ChangeShapes Go.WideShapes Go.ChangeAt Go.RowKit
set_option linter.all false
set_option maxRecDepth 100000

theorem pulseBack_ok : Ok 15 (lawSpec [(.sl RawT), StartT, I64]) := ⟨fun w M x vs bs hM hA _ => h15.1 w M x vs bs hM hA trivial, h15.2⟩

theorem pulseBack_lifted (os : Os) (started : os.Started) (H : Type) (enc : TypeId × Value → H) :
    ReturnsInHanded {} Try.checked os 15 .any (Rows.pulseBackSpec.pre6 enc Try.prog Try.f15 Rows.pulseBackRow.domain false) (Rows.pulseBackSpec.post enc Try.prog Try.f15 false true false false) :=
  law_lifted pulseBack_ok Try.func15 (by kernel_rfl) ⟨by kernel_rfl, by kernel_rfl, by kernel_rfl, trivial⟩ rfl (by kernel_rfl) (by kernel_rfl) (by kernel_rfl)
    (fun H ds hl => by
      have hn : Try.f15.params.size = 3 := by kernel_rfl
      rw [hn] at hl
      match ds, hl with
      | [d0, d1, d2], _ => rfl) os started H enc
    (ChangeSpec.witness6 (enc := enc) (C := Try.checked) false ⟨#[], #[.slice none 0 0, .agg #[.int .i64 0, .slice none 0 0, .int .i64 0], .int .i64 0], []⟩ 8 (by kernel_rfl) (by kernel_rfl) (by kernel_rfl) (by kernel_rfl))

theorem pulseBack_holds : Rows.PulseBackSaid :=
  OpenClaim.holds_of_wide 15 Try.f15 rfl rfl rfl rfl rfl rfl rfl ⟨rfl, rfl, rfl, rfl, rfl⟩ rfl rfl rfl rfl rfl (by kernel_rfl) Try.func15 (by kernel_rfl)
    (of_decide_eq_true (by kernel_rfl)) (by unfold Func.isWrapper; first | (rw [if_pos (by decide +kernel)]; kernel_rfl) | (rw [if_neg (by decide +kernel)]; exact ⟨rfl, rfl⟩))
    (fun os started H enc _ => pulseBack_lifted os started H enc)
#print axioms pulseBack_holds
end Go.Proofs.Ytcoimlnplaidiaa
