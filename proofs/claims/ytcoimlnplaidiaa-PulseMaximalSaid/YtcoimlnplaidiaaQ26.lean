/- Contracts: the first maximal register, by recursion; the reference's check of primes. Conditions: each contract's own. -/
import Derived.Test.YtcoimlnplaidiaaQ15
import Derived.Test.YtcoimlnplaidiaaQ25
namespace Go.Eng.Pu
open Go.Eng Go.Proofs
set_option linter.all false
set_option maxRecDepth 100000
set_option maxHeartbeats 8000000

@[reducible] def sRIsMax : Spec := { pats := [.dat Reg0], res := [{ t := .bool }], pre := fun x => chk x.1.1 x.1.2.1 = 0 ∧ pLen (List.length (α := Int) x.1.2.1), f := fun x => (decide ((per x.1.1 x.1.2.1 1 : Int) = most x.1.1), ()) }

/-- ref.IsMaximal -/
theorem h64 : Ok 64 sRIsMax := by
  refine mk (ctr := [(24, sRPer), (68, sMost)]) ⟨h24, h68, trivial⟩ (nt := 8) Try.func64 rfl rfl rfl rfl (by kernel_rfl) (by kernel_rfl) (fun _ => []) ?_
  rintro ⟨⟨(L : Int), (xs : List Int), _⟩, _⟩ ⟨(hc : chk L xs = 0), (hl : pLen xs.length)⟩
  have h1 := one_pSt hc hl
  have h2 := (chk_zero hc).1
  repeat' (intro hzz; (try (rename Two => hq; cases hq)); (try dsimp only at hzz); (try simp only [resTy, argTy, eqD, inR, big, wantOf, Bool.not_true, Bool.not_false, Bool.true_eq, decide_eq_true_eq, decide_eq_false_iff_not, Bool.not_eq_true', Bool.not_eq_false', Bool.and_eq_true, Prod.mk.injEq, and_true, true_and, Int.not_lt, Int.not_le, gt_iff_lt, ge_iff_le] at hzz); (try (first | contradiction | (exfalso; omega))); (try (revert hzz; intro _)))
  all_goals try (rename Unit => hq; clear hq)
  all_goals try ((with_reducible refine Held.mk ?_); (with_reducible (first | refine Frz.mk ?_ | refine And.intro (Frz.mk ?_) ?_ | refine And.intro ?_ (Frz.mk ?_))); repeat' first | exact True.intro | (change _ = _; with_reducible rfl) | refine And.intro ?_ ?_ | (with_reducible refine Frz.mk ?_))
  all_goals try (refine Held.mk ?_; (try dsimp only at *); (try simp only [resTy, argTy, eqD, inR, big, wantOf, Bool.not_true, Bool.not_false, Bool.true_eq, decide_eq_true_eq, decide_eq_false_iff_not, Bool.not_eq_true', Bool.not_eq_false', Bool.and_eq_true, Prod.mk.injEq, and_true, true_and, Int.not_lt, Int.not_le, gt_iff_lt, ge_iff_le] at *))
  all_goals try omega

@[reducible] def sSameR : Spec := { pats := [.dat Reg0, .dat Reg0], res := [{ t := .bool }], pre := fun x => pLen (List.length (α := Int) x.1.2.1) ∧ pLen (List.length (α := Int) x.2.1.2.1), f := fun x => (decide ((show Int from x.1.1) = x.2.1.1) && decide ((show List Int from x.1.2.1) = x.2.1.2.1), ()) }

/-- ref.Same -/
theorem h65 : Ok 65 sSameR := by
  refine mk (ctr := [(26, sInts)]) ⟨h26, trivial⟩ (nt := 17) Try.func65 rfl rfl rfl rfl (by kernel_rfl) (by kernel_rfl) (fun _ => []) ?_
  rintro ⟨⟨(L : Int), (xs : List Int), _⟩, ⟨(M : Int), (ys : List Int), _⟩, _⟩ ⟨(h1 : pLen xs.length), (h2 : pLen ys.length)⟩
  repeat' (intro hzz; (try (rename Two => hq; cases hq)); (try dsimp only at hzz); (try simp only [resTy, argTy, eqD, inR, big, wantOf, Bool.not_true, Bool.not_false, Bool.true_eq, decide_eq_true_eq, decide_eq_false_iff_not, Bool.not_eq_true', Bool.not_eq_false', Bool.and_eq_true, Prod.mk.injEq, and_true, true_and, Int.not_lt, Int.not_le, gt_iff_lt, ge_iff_le] at hzz); (try (first | contradiction | (exfalso; omega))); (try (revert hzz; intro _)))
  all_goals try (rename Unit => hq; clear hq)
  all_goals try ((with_reducible refine Held.mk ?_); (with_reducible (first | refine Frz.mk ?_ | refine And.intro (Frz.mk ?_) ?_ | refine And.intro ?_ (Frz.mk ?_))); repeat' first | exact True.intro | (change _ = _; with_reducible rfl) | refine And.intro ?_ ?_ | (with_reducible refine Frz.mk ?_))
  all_goals try (refine Held.mk ?_; (try dsimp only at *); (try simp only [resTy, argTy, eqD, inR, big, wantOf, Bool.not_true, Bool.not_false, Bool.true_eq, decide_eq_true_eq, decide_eq_false_iff_not, Bool.not_eq_true', Bool.not_eq_false', Bool.and_eq_true, Prod.mk.injEq, and_true, true_and, Int.not_lt, Int.not_le, gt_iff_lt, ge_iff_le] at *))
  all_goals try omega
  · exact ⟨h1, h2⟩
  · rename_i h
    rw [decide_eq_true h, Bool.true_and]
  · rename_i h
    rw [decide_eq_false h, Bool.false_and]

/-- ref.CheckMaximal -/
theorem h63 : Ok 63 sCheckMax := by
  refine mk (ctr := [(22, sChk), (25, sWithin), (68, sMost), (67, sRPrimes), (26, sInts), (64, sRIsMax)]) ⟨h22, h25, h68, h67, h26, h64, trivial⟩ (nt := 52) Try.func63 rfl rfl rfl rfl (by kernel_rfl) (by kernel_rfl) (fun x => [fun _ => { σ := Nat, pat := fun k => [sI 6 k], inv := fun k => k ≤ List.length (α := Int) x.2.1 ∧ prE x.2.1 (List.length (α := Int) x.2.1 - k) k = prE x.2.1 (List.length (α := Int) x.2.1) 0, meas := fun k => List.length (α := Int) x.2.1 - k }]) ?_
  rintro ⟨⟨(L : Int), (xs : List Int), _⟩, (ps : List Int), _⟩ ⟨(hl : pLen xs.length), (hq : pLen ps.length)⟩
  have := hq.out
  by_cases hc : chk L xs = 0
  · have hL := (chk_zero hc).1
    have hP := P2_in hL
    have hm : 3 ≤ most L ∧ most L ≤ 255 := by unfold most; omega
    have hmo : isMost (most L) := mosts hL
    have hpo : pLen (prO (most L)).length := by have := (prO_len hL).1; unfold pLen; omega
    have ho : opErr L xs 1 = 0 := by
      unfold opErr stErr
      rw [if_pos hc, if_pos ⟨by omega, by omega⟩]
    by_cases h8 : ps.length ≤ 8
    · have u : cmErr L xs ps = if prE ps ps.length 0 = 0 then (if ps = prO (most L) ∧ atI L xs 1 (most L) = 1 then mxE L xs ps ps.length 0 else 20) else prE ps ps.length 0 := by
        unfold cmErr; rw [if_pos ho, if_pos h8]
      have v : ps = prO (most L) → cmErr L xs ps = if (per L xs 1 : Int) = most L then 0 else 20 := fun h => by rw [h]; exact cm_right hc hl
      have hcl : chk L xs = 0 ∧ pLen xs.length := ⟨hc, hl⟩
      repeat' (intro hzz; (try (rename Two => hq; cases hq)); (try dsimp only at hzz); (try simp only [resTy, argTy, eqD, inR, big, wantOf, Bool.not_true, Bool.not_false, Bool.true_eq, decide_eq_true_eq, decide_eq_false_iff_not, Bool.not_eq_true', Bool.not_eq_false', Bool.and_eq_true, Prod.mk.injEq, and_true, true_and, Int.not_lt, Int.not_le, gt_iff_lt, ge_iff_le] at hzz); (try simp only [resTy, argTy, eqD, inR, big, wantOf, Bool.not_true, Bool.not_false, Bool.true_eq, decide_eq_true_eq, decide_eq_false_iff_not, Bool.not_eq_true', Bool.not_eq_false', Bool.and_eq_true, Prod.mk.injEq, and_true, true_and, Int.not_lt, Int.not_le, gt_iff_lt, ge_iff_le, fWithin, getD_i, hc] at hzz); (try (first | contradiction | (exfalso; omega))); (try (revert hzz; intro _)))
      all_goals try (rename Unit => hq; clear hq)
      all_goals try ((with_reducible refine Held.mk ?_); (with_reducible (first | refine Frz.mk ?_ | refine And.intro (Frz.mk ?_) ?_ | refine And.intro ?_ (Frz.mk ?_))); repeat' first | exact True.intro | (change _ = _; with_reducible rfl) | refine And.intro ?_ ?_ | (with_reducible refine Frz.mk ?_))
      all_goals try (refine Held.mk ?_; (try dsimp only at *); (try simp only [resTy, argTy, eqD, inR, big, wantOf, Bool.not_true, Bool.not_false, Bool.true_eq, decide_eq_true_eq, decide_eq_false_iff_not, Bool.not_eq_true', Bool.not_eq_false', Bool.and_eq_true, Prod.mk.injEq, and_true, true_and, Int.not_lt, Int.not_le, gt_iff_lt, ge_iff_le] at *); (try simp only [resTy, argTy, eqD, inR, big, wantOf, Bool.not_true, Bool.not_false, Bool.true_eq, decide_eq_true_eq, decide_eq_false_iff_not, Bool.not_eq_true', Bool.not_eq_false', Bool.and_eq_true, Prod.mk.injEq, and_true, true_and, Int.not_lt, Int.not_le, gt_iff_lt, ge_iff_le, fWithin, getD_i, hc] at *))
      all_goals try omega
      · 
        refine GHeld.mk ?_
        refine Exists.intro 0 ?_
        refine And.intro (Leaf.mk ?_) ?_
        · repeat' first | exact True.intro | refine And.intro ?_ ?_
          all_goals try ((change _ = _ <;> try dsimp only) <;> try with_reducible rfl)
          all_goals try omega
        exact ⟨Nat.zero_le _, rfl⟩
      · rename_i k hk hg h
        have e := hk.2
        rw [prE_step (by omega), if_neg h] at e
        rw [u, ← e]; rfl
      · rename_i k hk hg h3 h4 h5
        have e := hk.2
        rw [getD_m ps k (by omega)] at h5
        rw [prE_step (by omega), if_pos h3, if_pos ⟨by omega, h5⟩] at e
        rw [u, ← e]; rfl
      · rename_i k hk hg h3 h4 h5
        have e := hk.2
        rw [getD_m ps k (by omega)] at h5
        rw [prE_step (by omega), if_pos h3, if_neg (by omega)] at e
        refine GHeld.mk ?_
        refine Exists.intro (k + 1) ?_
        refine And.intro (Leaf.mk ?_) ?_
        · repeat' first | exact True.intro | refine And.intro ?_ ?_
          all_goals try ((change _ = _ <;> try dsimp only) <;> try with_reducible rfl)
          all_goals try omega
        exact ⟨⟨by show k + 1 ≤ ps.length; omega, e⟩, by show ps.length - (k + 1) < ps.length - k; omega⟩
      · rename_i k hk hg h3 h4
        have e := hk.2
        rw [prE_step (by omega), if_pos h3, if_neg (by omega)] at e
        refine GHeld.mk ?_
        refine Exists.intro (k + 1) ?_
        refine And.intro (Leaf.mk ?_) ?_
        · repeat' first | exact True.intro | refine And.intro ?_ ?_
          all_goals try ((change _ = _ <;> try dsimp only) <;> try with_reducible rfl)
          all_goals try omega
        exact ⟨⟨by show k + 1 ≤ ps.length; omega, e⟩, by show ps.length - (k + 1) < ps.length - k; omega⟩
      · exact ⟨hq, hpo⟩
      · rename_i k hk hg h1 h
        rw [v h1, if_neg h]
      · rename_i k hk hg h1 h
        rw [v h1, if_pos h]
      · rename_i k hk hg h
        have e := hk.2
        rw [show ps.length - k = 0 from by omega] at e
        have e : prE ps ps.length 0 = 0 := e.symm
        rw [u, if_pos e, if_neg (fun hh => h hh.1)]
    · have u : cmErr L xs ps = 8 := by unfold cmErr; rw [if_pos ho, if_neg h8]
      repeat' (intro hzz; (try (rename Two => hq; cases hq)); (try dsimp only at hzz); (try simp only [resTy, argTy, eqD, inR, big, wantOf, Bool.not_true, Bool.not_false, Bool.true_eq, decide_eq_true_eq, decide_eq_false_iff_not, Bool.not_eq_true', Bool.not_eq_false', Bool.and_eq_true, Prod.mk.injEq, and_true, true_and, Int.not_lt, Int.not_le, gt_iff_lt, ge_iff_le] at hzz); (try simp only [resTy, argTy, eqD, inR, big, wantOf, Bool.not_true, Bool.not_false, Bool.true_eq, decide_eq_true_eq, decide_eq_false_iff_not, Bool.not_eq_true', Bool.not_eq_false', Bool.and_eq_true, Prod.mk.injEq, and_true, true_and, Int.not_lt, Int.not_le, gt_iff_lt, ge_iff_le, fWithin, getD_i, hc] at hzz); (try (first | contradiction | (exfalso; omega))); (try (revert hzz; intro _)))
      all_goals try (rename Unit => hq; clear hq)
      all_goals try ((with_reducible refine Held.mk ?_); (with_reducible (first | refine Frz.mk ?_ | refine And.intro (Frz.mk ?_) ?_ | refine And.intro ?_ (Frz.mk ?_))); repeat' first | exact True.intro | (change _ = _; with_reducible rfl) | refine And.intro ?_ ?_ | (with_reducible refine Frz.mk ?_))
      all_goals try (refine Held.mk ?_; (try dsimp only at *); (try simp only [resTy, argTy, eqD, inR, big, wantOf, Bool.not_true, Bool.not_false, Bool.true_eq, decide_eq_true_eq, decide_eq_false_iff_not, Bool.not_eq_true', Bool.not_eq_false', Bool.and_eq_true, Prod.mk.injEq, and_true, true_and, Int.not_lt, Int.not_le, gt_iff_lt, ge_iff_le] at *); (try simp only [resTy, argTy, eqD, inR, big, wantOf, Bool.not_true, Bool.not_false, Bool.true_eq, decide_eq_true_eq, decide_eq_false_iff_not, Bool.not_eq_true', Bool.not_eq_false', Bool.and_eq_true, Prod.mk.injEq, and_true, true_and, Int.not_lt, Int.not_le, gt_iff_lt, ge_iff_le, fWithin, getD_i, hc] at *))
      all_goals try omega
  · have u : cmErr L xs ps = chk L xs := by
      have ho : opErr L xs 1 = chk L xs := by unfold opErr; rw [if_neg hc]
      unfold cmErr
      rw [ho, if_neg hc]
    repeat' (intro hzz; (try (rename Two => hq; cases hq)); (try dsimp only at hzz); (try simp only [resTy, argTy, eqD, inR, big, wantOf, Bool.not_true, Bool.not_false, Bool.true_eq, decide_eq_true_eq, decide_eq_false_iff_not, Bool.not_eq_true', Bool.not_eq_false', Bool.and_eq_true, Prod.mk.injEq, and_true, true_and, Int.not_lt, Int.not_le, gt_iff_lt, ge_iff_le] at hzz); (try simp only [resTy, argTy, eqD, inR, big, wantOf, Bool.not_true, Bool.not_false, Bool.true_eq, decide_eq_true_eq, decide_eq_false_iff_not, Bool.not_eq_true', Bool.not_eq_false', Bool.and_eq_true, Prod.mk.injEq, and_true, true_and, Int.not_lt, Int.not_le, gt_iff_lt, ge_iff_le, fWithin, getD_i, u] at hzz); (try (first | contradiction | (exfalso; omega))); (try (revert hzz; intro _)))
    all_goals try (rename Unit => hq; clear hq)
    all_goals try ((with_reducible refine Held.mk ?_); (with_reducible (first | refine Frz.mk ?_ | refine And.intro (Frz.mk ?_) ?_ | refine And.intro ?_ (Frz.mk ?_))); repeat' first | exact True.intro | (change _ = _; with_reducible rfl) | refine And.intro ?_ ?_ | (with_reducible refine Frz.mk ?_))
    all_goals try (refine Held.mk ?_; (try dsimp only at *); (try simp only [resTy, argTy, eqD, inR, big, wantOf, Bool.not_true, Bool.not_false, Bool.true_eq, decide_eq_true_eq, decide_eq_false_iff_not, Bool.not_eq_true', Bool.not_eq_false', Bool.and_eq_true, Prod.mk.injEq, and_true, true_and, Int.not_lt, Int.not_le, gt_iff_lt, ge_iff_le] at *); (try simp only [resTy, argTy, eqD, inR, big, wantOf, Bool.not_true, Bool.not_false, Bool.true_eq, decide_eq_true_eq, decide_eq_false_iff_not, Bool.not_eq_true', Bool.not_eq_false', Bool.and_eq_true, Prod.mk.injEq, and_true, true_and, Int.not_lt, Int.not_le, gt_iff_lt, ge_iff_le, fWithin, getD_i, u] at *))
    all_goals try omega

/-! ### The first maximal register -/

/-- The last tap; 0 where there is none. -/
def lst (xs : List Int) : Int := xs.getD (xs.length - 1) 0

def fmGo (im : List Int → Bool) (rec : List Int → Option (List Int)) (L : Int) (taps : List Int) : Nat → Int → Option (List Int)
  | 0, _ => none
  | c + 1, n => match (if n < L then rec (taps ++ [n]) else if im (taps ++ [n]) = true then some (taps ++ [n]) else none) with
    | some r => some r
    | none => fmGo im rec L taps c (n + 1)

def fm (im : List Int → Bool) (L : Int) : Nat → List Int → Option (List Int)
  | 0, _ => none
  | f + 1, taps => fmGo im (fm im L f) L taps (L - lst taps).toNat (lst taps + 1)

/-- Taps that may be the first ones. -/
def gd (L : Int) (taps : List Int) : Prop := 2 ≤ L ∧ L ≤ 8 ∧ regE (L - 1) taps taps.length 0 = 0

theorem regE_app {L M : Int} (hLM : L ≤ M) {n : Int} (hn1 : 1 ≤ n) (hn2 : n ≤ M) (ys : List Int) : ∀ (k i : Nat), i + k = ys.length → regE L ys k i = 0 → (ys.length = 0 ∨ ys.getD (ys.length - 1) 0 < n) → regE M (ys ++ [n]) (k + 1) i = 0
  | 0, i, hi, _, hlast => by
    have hi : i = ys.length := by omega
    subst hi
    have e : (ys ++ [n]).getD ys.length 0 = n := by simp [List.getD]
    simp only [regE, e]
    rw [if_pos ⟨hn1, hn2⟩]
    by_cases h0 : ys.length = 0
    · rw [if_neg (by omega)]
    · have e2 : (ys ++ [n]).getD (ys.length - 1) 0 = ys.getD (ys.length - 1) 0 := by
        simp only [List.getD]; rw [List.getElem?_append_left (by omega)]
      rw [e2, if_neg (by rcases hlast with h | h <;> omega)]
  | k + 1, i, hi, h, hlast => by
    have e : (ys ++ [n]).getD i 0 = ys.getD i 0 := by
      simp only [List.getD]; rw [List.getElem?_append_left (by omega)]
    have e2 : 0 < i → (ys ++ [n]).getD (i - 1) 0 = ys.getD (i - 1) 0 := fun _ => by
      simp only [List.getD]; rw [List.getElem?_append_left (by omega)]
    rw [regE] at h ⊢
    split at h
    · rename_i ha
      split at h
      · cases h
      · rename_i hb
        rw [e, if_pos ⟨ha.1, by omega⟩]
        rw [if_neg (fun hh => hb ⟨hh.1, by rw [← e2 hh.1]; exact hh.2⟩)]
        exact regE_app hLM hn1 hn2 ys k (i + 1) (by omega) h hlast
    · cases h

theorem gd_last {L : Int} {taps : List Int} (h : gd L taps) : 0 ≤ lst taps ∧ lst taps < L := by
  obtain ⟨h1, h2, h3⟩ := h
  unfold lst
  by_cases h0 : taps.length = 0
  · have : taps = [] := List.eq_nil_of_length_eq_zero h0
    subst this
    simp; omega
  · have := regE_zero h3 (taps.length - 1) (by omega) (by omega)
    omega

theorem gd_next {L n : Int} {taps : List Int} (h : gd L taps) (h1 : lst taps < n) (h2 : n < L) : gd L (taps ++ [n]) := by
  obtain ⟨q1, q2, q3⟩ := h
  have hl := gd_last ⟨q1, q2, q3⟩
  refine ⟨q1, q2, ?_⟩
  rw [List.length_append]
  refine regE_app (Int.le_refl _) (by omega) (by omega) taps taps.length 0 (by omega) q3 ?_
  by_cases h0 : taps.length = 0
  · exact .inl h0
  · exact .inr h1

theorem gd_reg {L : Int} {taps : List Int} (h : gd L taps) : chk L (taps ++ [L]) = 0 := by
  obtain ⟨q1, q2, q3⟩ := h
  have hl := gd_last ⟨q1, q2, q3⟩
  have e : regE L (taps ++ [L]) (taps ++ [L]).length 0 = 0 := by
    rw [List.length_append]
    refine regE_app (by omega) (by omega) (Int.le_refl _) taps taps.length 0 (by omega) q3 ?_
    by_cases h0 : taps.length = 0
    · exact .inl h0
    · exact .inr hl.2
  unfold chk
  rw [if_pos ⟨q1, q2⟩, if_neg (by simp), if_pos e, if_pos]
  simp [List.getD]

theorem gd_max {L : Int} {taps : List Int} (h : gd L taps) : mx ([0] ++ taps) taps.length = lst taps := by
  obtain ⟨q1, q2, q3⟩ := h
  have hz := regE_zero q3
  have e : ∀ j, ([0] ++ taps).getD (j + 1) 0 = taps.getD j 0 := fun j => rfl
  rw [mx_asc]
  · unfold lst
    cases hl : taps.length with
    | zero =>
      have : taps = [] := List.eq_nil_of_length_eq_zero hl
      subst this; rfl
    | succ k => exact e k
  · intro j h1 h2
    obtain ⟨i, rfl⟩ : ∃ i, j = i + 1 := ⟨j - 1, by omega⟩
    rw [Nat.add_sub_cancel, e]
    have := hz i (by omega) (by omega)
    cases i with
    | zero => show (0 : Int) < _; omega
    | succ i =>
      have h3 := this.2.2 (by omega)
      rw [Nat.add_sub_cancel] at h3
      rw [e]; exact h3

theorem gd_len {L : Int} {taps : List Int} (h : gd L taps) : taps.length ≤ 8 := by
  obtain ⟨q1, q2, q3⟩ := h
  have hz := regE_zero q3
  have key : ∀ j, j < taps.length → (j : Int) + 1 ≤ taps.getD j 0 := by
    intro j
    induction j with
    | zero => intro hj; have := hz 0 (by omega) (by omega); omega
    | succ j ih =>
      intro hj
      have h1 := ih (by omega)
      have h2 := (hz (j + 1) (by omega) (by omega)).2.2 (by omega)
      rw [Nat.add_sub_cancel] at h2
      omega
  by_cases h8 : taps.length ≤ 8
  · exact h8
  · have := key 8 (by omega)
    have := hz 8 (by omega) (by omega)
    omega

def imx (L : Int) (xs : List Int) : Bool := decide ((per L xs 1 : Int) = most L)

theorem lst_app (xs : List Int) (n : Int) : lst (xs ++ [n]) = n := by
  unfold lst
  rw [List.length_append]
  simp [List.getD]

theorem fmG_rs {im : List Int → Bool} {rec : List Int → Option (List Int)} {L n : Int} {taps : List Int} {m : Nat} (hm : 0 < m) (hn : n < L) (h : (rec (taps ++ [n])).isSome = true) : fmGo im rec L taps m n = rec (taps ++ [n]) := by
  cases m with
  | zero => omega
  | succ m =>
    rw [fmGo, if_pos hn]
    cases he : rec (taps ++ [n]) with
    | none => rw [he] at h; cases h
    | some r => rfl

theorem fmG_rn {im : List Int → Bool} {rec : List Int → Option (List Int)} {L n : Int} {taps : List Int} {m : Nat} (hm : 0 < m) (hn : n < L) (h : (rec (taps ++ [n])).isSome = false) : fmGo im rec L taps m n = fmGo im rec L taps (m - 1) (n + 1) := by
  cases m with
  | zero => omega
  | succ m =>
    rw [fmGo, if_pos hn]
    cases he : rec (taps ++ [n]) with
    | none => rfl
    | some r => rw [he] at h; cases h

theorem fmG_is {im : List Int → Bool} {rec : List Int → Option (List Int)} {L n : Int} {taps : List Int} {m : Nat} (hm : 0 < m) (hn : ¬ n < L) (h : im (taps ++ [n]) = true) : fmGo im rec L taps m n = some (taps ++ [n]) := by
  cases m with
  | zero => omega
  | succ m => rw [fmGo, if_neg hn, if_pos h]

theorem fmG_in {im : List Int → Bool} {rec : List Int → Option (List Int)} {L n : Int} {taps : List Int} {m : Nat} (hm : 0 < m) (hn : ¬ n < L) (h : ¬ im (taps ++ [n]) = true) : fmGo im rec L taps m n = fmGo im rec L taps (m - 1) (n + 1) := by
  cases m with
  | zero => omega
  | succ m => rw [fmGo, if_neg hn, if_neg h]; rfl

@[reducible] def sFM (f : Nat) : Spec := { pats := [.dat I64, .dat (.sl I64)], res := [{ t := .osl I64 }], pre := fun x => gd x.1 x.2.1 ∧ 0 < List.length (α := Int) x.2.1 ∧ (Int.toNat (x.1 - lst x.2.1)) ≤ f, f := fun x => (fm (imx x.1) x.1 f x.2.1, ()) }

/-- firstMaximal, one call deeper -/
theorem h130s (f : Nat) (ih : Ok 130 (sFM f)) : Ok 130 (sFM (f + 1)) := by
  refine mk (ctr := [(158, sCloneS), (89, sMax), (121, sIsMax), (130, sFM f)]) ⟨h158s, h89, h121, ih, trivial⟩ (nt := 37) Try.func130 rfl rfl rfl rfl (by kernel_rfl) (by kernel_rfl) (fun x => [fun _ => { σ := Nat, pat := fun k => [sI 5 (lst x.2.1 + 1 + k)], inv := fun k => k ≤ Int.toNat (x.1 - lst x.2.1) ∧ fmGo (imx x.1) (fm (imx x.1) x.1 f) x.1 x.2.1 (Int.toNat (x.1 - lst x.2.1) - k) (lst x.2.1 + 1 + k) = fm (imx x.1) x.1 (f + 1) x.2.1, meas := fun k => Int.toNat (x.1 - lst x.2.1) - k }]) ?_
  rintro ⟨(L : Int), (taps : List Int), _⟩ ⟨(hg : gd L taps), (h0 : 0 < taps.length), (hf : (L - lst taps).toNat ≤ f + 1)⟩
  have hlast := gd_last hg
  have hlen := gd_len hg
  have hmx := gd_max hg
  have hL := hg.1
  have hL8 := hg.2.1
  have hl9 : ([0] ++ taps).length = taps.length + 1 := by simp
  have hl10 : (([0] : List Int) ++ taps).length - 1 = taps.length := by simp
  have hl11 : ∀ n : Int, (taps ++ [n]).length = taps.length + 1 := fun n => by simp
  repeat' (intro hzz; (try (rename Two => hq; cases hq)); (try dsimp only at hzz); (try simp only [resTy, argTy, eqD, inR, big, wantOf, Bool.not_true, Bool.not_false, Bool.true_eq, decide_eq_true_eq, decide_eq_false_iff_not, Bool.not_eq_true', Bool.not_eq_false', Bool.and_eq_true, Prod.mk.injEq, and_true, true_and, Int.not_lt, Int.not_le, gt_iff_lt, ge_iff_le] at hzz); (try (first | contradiction | (exfalso; omega))); (try (revert hzz; intro _)))
  all_goals try (rename Unit => hq; clear hq)
  all_goals try ((with_reducible refine Held.mk ?_); (with_reducible (first | refine Frz.mk ?_ | refine And.intro (Frz.mk ?_) ?_ | refine And.intro ?_ (Frz.mk ?_))); repeat' first | exact True.intro | (change _ = _; with_reducible rfl) | refine And.intro ?_ ?_ | (with_reducible refine Frz.mk ?_))
  all_goals try (refine Held.mk ?_; (try dsimp only at *); (try simp only [resTy, argTy, eqD, inR, big, wantOf, Bool.not_true, Bool.not_false, Bool.true_eq, decide_eq_true_eq, decide_eq_false_iff_not, Bool.not_eq_true', Bool.not_eq_false', Bool.and_eq_true, Prod.mk.injEq, and_true, true_and, Int.not_lt, Int.not_le, gt_iff_lt, ge_iff_le] at *))
  all_goals try omega
  · show 1 + taps.length ≤ _; omega
  · rw [hl9]; exact ⟨by omega, by unfold pLen; omega⟩
  · rw [hl10, hmx]; omega
  · 
    refine GHeld.mk ?_
    refine Exists.intro 0 ?_
    refine And.intro (Leaf.mk ?_) ?_
    · repeat' first | exact True.intro | refine And.intro ?_ ?_
      all_goals try ((change _ = _ <;> try dsimp only) <;> try with_reducible rfl)
      all_goals try omega
      all_goals ((rw [hl10, hmx]; omega))
    refine ⟨Nat.zero_le _, ?_⟩
    show fmGo (imx L) (fm (imx L) L f) L taps ((L - lst taps).toNat - 0) (lst taps + 1 + ((0 : Nat) : Int)) = fm (imx L) L (f + 1) taps
    rw [show lst taps + 1 + ((0 : Nat) : Int) = lst taps + 1 by omega]; rfl
  · show taps.length + 1 ≤ _; omega
  · rename_i k hk h1 h2
    refine ⟨gd_next hg (by omega) h2, by rw [hl11]; omega, ?_⟩
    rw [lst_app]; omega
  · rename_i k hk h1 h2 h3
    rw [← hk.2, fmG_rs (by omega) h2 h3]
  · rename_i k hk h1 h2 h3
    have e := hk.2
    rw [fmG_rn (by omega) h2 h3] at e
    refine GHeld.mk ?_
    refine Exists.intro (k + 1) ?_
    refine And.intro (Leaf.mk ?_) ?_
    · repeat' first | exact True.intro | refine And.intro ?_ ?_
      all_goals try ((change _ = _ <;> try dsimp only) <;> try with_reducible rfl)
      all_goals try omega
    refine ⟨⟨by show k + 1 ≤ (L - lst taps).toNat; omega, ?_⟩, by show (L - lst taps).toNat - (k + 1) < (L - lst taps).toNat - k; omega⟩
    rw [← e]
    show fmGo _ _ L taps ((L - lst taps).toNat - (k + 1)) (lst taps + 1 + ((k + 1 : Nat) : Int)) = fmGo _ _ L taps ((L - lst taps).toNat - k - 1) (lst taps + 1 + (k : Int) + 1)
    rw [show lst taps + 1 + ((k + 1 : Nat) : Int) = lst taps + 1 + (k : Int) + 1 by omega, show (L - lst taps).toNat - (k + 1) = (L - lst taps).toNat - k - 1 by omega]
  · rename_i k hk h1 h2
    rw [show lst taps + 1 + (k : Int) = L by omega, hl11]
    exact ⟨gd_reg hg, by unfold pLen; omega⟩
  · rename_i k hk h1 h2 h3
    have e := hk.2
    rw [fmG_in (by omega) (by omega) (fun hh => h3 (of_decide_eq_true hh))] at e
    refine GHeld.mk ?_
    refine Exists.intro (k + 1) ?_
    refine And.intro (Leaf.mk ?_) ?_
    · repeat' first | exact True.intro | refine And.intro ?_ ?_
      all_goals try ((change _ = _ <;> try dsimp only) <;> try with_reducible rfl)
      all_goals try omega
    refine ⟨⟨by show k + 1 ≤ (L - lst taps).toNat; omega, ?_⟩, by show (L - lst taps).toNat - (k + 1) < (L - lst taps).toNat - k; omega⟩
    rw [← e]
    show fmGo _ _ L taps ((L - lst taps).toNat - (k + 1)) (lst taps + 1 + ((k + 1 : Nat) : Int)) = fmGo _ _ L taps ((L - lst taps).toNat - k - 1) (lst taps + 1 + (k : Int) + 1)
    rw [show lst taps + 1 + ((k + 1 : Nat) : Int) = lst taps + 1 + (k : Int) + 1 by omega, show (L - lst taps).toNat - (k + 1) = (L - lst taps).toNat - k - 1 by omega]
  · rw [hl11]; omega
  · rename_i k hk h1 h2 h3
    refine ⟨by rw [hl11]; omega, ?_⟩
    rw [← hk.2, fmG_is (by omega) (by omega) (decide_eq_true h3)]
  · rename_i k hk h1
    rw [← hk.2, show (L - lst taps).toNat - k = 0 by omega]; rfl

/-- firstMaximal -/
theorem h130 : ∀ f, Ok 130 (sFM f)
  | 0 => ⟨fun w M x vs bs _ _ hp => by
      obtain ⟨(L : Int), (taps : List Int), _⟩ := x
      obtain ⟨(h1 : gd L taps), _, (h2 : (L - lst taps).toNat ≤ 0)⟩ := hp
      have := gd_last h1
      omega, h130b.2⟩
  | f + 1 => h130s f (h130 f)

end Go.Eng.Pu
