/- Contracts: numbers with whole parts: from complex numbers and back. Conditions: each contract's own. -/
import Derived.Test.YtcoimlnplaidiaaDoorQ44
import Derived.Test.YtcoimlnplaidiaaDoorQ7
namespace Go.Eng.Pu
open Go.Eng Go.Proofs
set_option linter.all false
set_option maxRecDepth 100000
set_option maxHeartbeats 8000000

abbrev rOwn (t k el : Nat) (e : Ty) (xs : List e.Den) : St := [.slot t (.one (.o k xs.length)), .row k el e xs]

theorem eE_zero {z : Nat × Nat} (h : eE z = 0) : pE z.1 = 0 ∧ pE z.2 = 0 := by
  unfold eE at h
  split at h
  · cases h
  · split at h
    · cases h
    · rename_i h2; omega

theorem pE_zero {x : Nat} (h : pE x = 0) : fN .f32 x = true ∧ fWh .f32 x = true ∧ -16777216 ≤ fT .f32 x ∧ fT .f32 x ≤ 16777216 ∧ floatToIntVal .f32 x .i64 = some (fT .f32 x) := by
  unfold pE at h
  split at h
  · rename_i hN
    split at h
    · cases h
    · rename_i hb
      split at h
      · rename_i hw
        have ht := fT_small (x := x) (fun hh => hb (.inl hh)) (fun hh => hb (.inr hh))
        exact ⟨hN, hw, ht.1, ht.2, f2i_fT hN (by omega) (by omega)⟩
      · cases h
  · cases h

theorem lE_ok {xs : CL} (h : lE xs = 0) : 1 ≤ xs.length ∧ xs.length ≤ 1024 ∧ ∀ i, i < xs.length → eE (xs.getD i (0, 0)) = 0 := by
  unfold lE at h
  split at h
  · cases h
  · split at h
    · cases h
    · refine ⟨by omega, by omega, ?_⟩
      have key : ∀ k, k ≤ xs.length → lF (xs.drop k) = 0 ∧ ∀ i, i < k → eE (xs.getD i (0, 0)) = 0 := by
        intro k
        induction k with
        | zero => intro _; exact ⟨h, fun i hi => by omega⟩
        | succ k ih =>
          intro hk
          obtain ⟨a, b⟩ := ih (by omega)
          rw [lF_step (by omega)] at a
          have c : eE (xs.getD k (0, 0)) = 0 := by
            by_cases hc : eE (xs.getD k (0, 0)) = 0
            · exact hc
            · rw [if_neg hc] at a; exact a
          rw [if_pos c] at a
          refine ⟨a, fun i hi => ?_⟩
          by_cases he : i = k
          · rw [he]; exact c
          · exact b i (by omega)
      exact (key xs.length (Nat.le_refl _)).2

theorem eE_a {z : Nat × Nat} (h : pE z.1 = 27 ∨ pE z.2 = 27) : eE z = 27 := if_pos h
theorem eE_b {z : Nat × Nat} (h1 : ¬ pE z.1 = 27) (h2 : ¬ pE z.2 = 27) (h : ¬ pE z.1 = 0 ∨ ¬ pE z.2 = 0) : eE z = 2 := by
  unfold eE; rw [if_neg (fun hh => hh.elim h1 h2), if_pos h]
theorem eE_c {z : Nat × Nat} (h1 : pE z.1 = 0) (h2 : pE z.2 = 0) : eE z = 0 := by
  unfold eE; rw [h1, h2]; rfl

def prF (xs : CL) (i : Nat) : IP := prT (xs.getD i (0, 0))

theorem lP_err {xs : CL} {e : Int} (h : e = lE xs) (hne : e ≠ 0) : [] = lP xs ∧ e = lE xs := by
  refine ⟨?_, h⟩
  unfold lP
  rw [if_neg (by rw [← h]; exact hne)]

theorem lP_len {xs : CL} (h : lE xs = 0) : (lP xs).length = xs.length := by
  unfold lP
  rw [if_pos h]; exact tab_len _ _

@[reducible] def sRecd : Spec := { pats := [.dat (.sl C64)], res := [{ own := some 69, t := .sl PairT }, { t := I64 }], pre := fun _ => True, f := fun x => (lP x.1, lE x.1, ()) }

/-- recorded -/
theorem h91n : Ok 43 sRecd := by
  refine mkN (X := x0) (hX := x0_ok) (ctr := [(64, sPartE)]) ⟨h147n, trivial⟩ (nt := 55) Tryd.func43 rfl rfl rfl rfl (by kernel_rfl) (by kernel_rfl) (fun x => [fun _ => { σ := Nat, pat := fun k => [sI 19 k] ++ rOwn 4 60004 69 PairT (tab (prF x.1) k), inv := fun k => k ≤ List.length (α := Nat × Nat) x.1 ∧ lF (List.drop (α := Nat × Nat) k x.1) = lF x.1, meas := fun k => List.length (α := Nat × Nat) x.1 - k }]) ?_
  rintro ⟨(xs : CL), _⟩ _
  repeat' (intro hzz; (try (rename Two => hq; cases hq)); (try dsimp only at hzz); (try simp only [resTy, argTy, eqD, inR, big, wantOf, Bool.not_true, Bool.not_false, Bool.true_eq, decide_eq_true_eq, decide_eq_false_iff_not, Bool.not_eq_true', Bool.not_eq_false', Bool.and_eq_true, Prod.mk.injEq, and_true, true_and, Int.not_lt, Int.not_le, gt_iff_lt, ge_iff_le] at hzz); (try simp only [resTy, argTy, eqD, inR, big, wantOf, Bool.not_true, Bool.not_false, Bool.true_eq, decide_eq_true_eq, decide_eq_false_iff_not, Bool.not_eq_true', Bool.not_eq_false', Bool.and_eq_true, Prod.mk.injEq, and_true, true_and, Int.not_lt, Int.not_le, gt_iff_lt, ge_iff_le, getD_c] at hzz); (try (first | contradiction | (exfalso; omega))); (try (revert hzz; intro _)))
  all_goals try (rename Unit => hq; clear hq)
  all_goals try ((with_reducible refine Held.mk ?_); (with_reducible (first | refine Frz.mk ?_ | refine And.intro (Frz.mk ?_) ?_ | refine And.intro ?_ (Frz.mk ?_))); repeat' first | exact True.intro | (change _ = _; with_reducible rfl) | refine And.intro ?_ ?_ | (with_reducible refine Frz.mk ?_))
  all_goals try (refine Held.mk ?_; (try dsimp only at *); (try simp only [resTy, argTy, eqD, inR, big, wantOf, Bool.not_true, Bool.not_false, Bool.true_eq, decide_eq_true_eq, decide_eq_false_iff_not, Bool.not_eq_true', Bool.not_eq_false', Bool.and_eq_true, Prod.mk.injEq, and_true, true_and, Int.not_lt, Int.not_le, gt_iff_lt, ge_iff_le] at *); (try simp only [resTy, argTy, eqD, inR, big, wantOf, Bool.not_true, Bool.not_false, Bool.true_eq, decide_eq_true_eq, decide_eq_false_iff_not, Bool.not_eq_true', Bool.not_eq_false', Bool.and_eq_true, Prod.mk.injEq, and_true, true_and, Int.not_lt, Int.not_le, gt_iff_lt, ge_iff_le, getD_c] at *))
  all_goals try omega
  · rename_i h
    exact lP_err (by unfold lE; rw [if_pos (by omega)]) (by decide)
  · rename_i h0 h
    exact lP_err (by unfold lE; rw [if_neg (by omega), if_pos (by omega)]) (by decide)
  · 
    refine GHeld.mk ?_
    refine Exists.intro 0 ?_
    refine And.intro (Leaf.mk ?_) ?_
    · repeat' first | exact True.intro | refine And.intro ?_ ?_
      all_goals try ((change _ = _ <;> try dsimp only) <;> try with_reducible rfl)
      all_goals try omega
      all_goals (rfl)
    exact ⟨Nat.zero_le _, rfl⟩
  · rename_i h0 h1 k hk hlt q1 q2
    exact lP_err (lE_err h0 h1 hk hlt (eE_a (.inr q2)) (by decide)) (by decide)
  · rename_i h0 h1 k hk hlt q1 q2 q3 q4
    exact lP_err (lE_err h0 h1 hk hlt (eE_b q1 q2 (.inr q4)) (by decide)) (by decide)
  · rename_i h0 h1 k hk hlt q1 q2 q3 q4
    rw [(pE_zero q3).2.2.2.2]; rfl
  · rename_i h0 h1 k hk hlt q1 q2 q3 q4
    rw [(pE_zero q4).2.2.2.2]; rfl
  · rename_i h0 h1 k hk hlt q1 q2 q3 q4
    rw [tab_len]; show k + 1 ≤ 2147483648; omega
  · rename_i h0 h1 k hk hlt q1 q2 q3 q4
    have hn := lE_next hk hlt (eE_c q3 q4)
    have e : tab (prF xs) k ++ [((floatToIntVal .f32 (xs.getD k (0, 0)).1 .i64).getD 0, (floatToIntVal .f32 (xs.getD k (0, 0)).2 .i64).getD 0, ())] = tab (prF xs) (k + 1) := by
      rw [(pE_zero q3).2.2.2.2, (pE_zero q4).2.2.2.2]; rfl
    refine GHeld.mk ?_
    refine Exists.intro (k + 1) ?_
    refine And.intro (Leaf.mk ?_) ?_
    · repeat' first | exact True.intro | refine And.intro ?_ ?_
      all_goals try ((change _ = _ <;> try dsimp only) <;> try with_reducible rfl)
      all_goals try omega
      all_goals (first | exact e | exact congrArg List.length e)
    exact ⟨hn, by show xs.length - (k + 1) < xs.length - k; omega⟩
  · rename_i h0 h1 k hk hlt q1 q2 q3
    exact lP_err (lE_err h0 h1 hk hlt (eE_b q1 q2 (.inl q3)) (by decide)) (by decide)
  · rename_i h0 h1 k hk hlt q1
    exact lP_err (lE_err h0 h1 hk hlt (eE_a (.inl q1)) (by decide)) (by decide)
  · rename_i h0 h1 k hk hge
    have h := lE_end h0 h1 hk hge
    refine ⟨?_, h⟩
    unfold lP
    rw [if_pos h.symm, show k = xs.length by omega]; rfl

def lsF (l : List (Nat × Nat × Unit)) (i : Nat) : Nat × Nat := ((l.getD i (0, 0, ())).1, (l.getD i (0, 0, ())).2.1)
/-- Raw parts as complex numbers. -/
def lsL (l : List (Nat × Nat × Unit)) : CL := tab (lsF l) l.length

@[reducible] def sListW : Spec := { pats := [.dat (.sl RawT)], res := [{ own := some 48, t := .sl C64 }], pre := fun x => List.length (α := Nat × Nat × Unit) x.1 ≤ 1000000000, f := fun x => (lsL x.1, ()) }

/-- List -/
theorem h30n : Ok 24 sListW := by
  refine mkN (X := x0) (hX := x0_ok) (ctr := []) trivial (nt := 26) Tryd.func24 rfl rfl rfl rfl (by kernel_rfl) (by kernel_rfl) (fun x => [fun _ => { σ := Nat, pat := fun k => [sI 4 k] ++ rOwn 3 60003 48 C64 (tab (lsF x.1) k), inv := fun k => k ≤ List.length (α := Nat × Nat × Unit) x.1, meas := fun k => List.length (α := Nat × Nat × Unit) x.1 - k }]) ?_
  rintro ⟨(l : List (Nat × Nat × Unit)), _⟩ (hl : l.length ≤ 1000000000)
  repeat' (intro hzz; (try (rename Two => hq; cases hq)); (try dsimp only at hzz); (try simp only [resTy, argTy, eqD, inR, big, wantOf, Bool.not_true, Bool.not_false, Bool.true_eq, decide_eq_true_eq, decide_eq_false_iff_not, Bool.not_eq_true', Bool.not_eq_false', Bool.and_eq_true, Prod.mk.injEq, and_true, true_and, Int.not_lt, Int.not_le, gt_iff_lt, ge_iff_le] at hzz); (try (first | contradiction | (exfalso; omega))); (try (revert hzz; intro _)))
  all_goals try (rename Unit => hq; clear hq)
  all_goals try ((with_reducible refine Held.mk ?_); (with_reducible (first | refine Frz.mk ?_ | refine And.intro (Frz.mk ?_) ?_ | refine And.intro ?_ (Frz.mk ?_))); repeat' first | exact True.intro | (change _ = _; with_reducible rfl) | refine And.intro ?_ ?_ | (with_reducible refine Frz.mk ?_))
  all_goals try (refine Held.mk ?_; (try dsimp only at *); (try simp only [resTy, argTy, eqD, inR, big, wantOf, Bool.not_true, Bool.not_false, Bool.true_eq, decide_eq_true_eq, decide_eq_false_iff_not, Bool.not_eq_true', Bool.not_eq_false', Bool.and_eq_true, Prod.mk.injEq, and_true, true_and, Int.not_lt, Int.not_le, gt_iff_lt, ge_iff_le] at *))
  all_goals try omega
  · 
    refine GHeld.mk ?_
    refine Exists.intro 0 ?_
    refine And.intro (Leaf.mk ?_) ?_
    · repeat' first | exact True.intro | refine And.intro ?_ ?_
      all_goals try ((change _ = _ <;> try dsimp only) <;> try with_reducible rfl)
      all_goals try omega
      all_goals (rfl)
    exact Nat.zero_le _
  · rename_i k hk hlt
    rw [tab_len]; show k + 1 ≤ 2147483648; omega
  · rename_i k hk hlt
    refine GHeld.mk ?_
    refine Exists.intro (k + 1) ?_
    refine And.intro (Leaf.mk ?_) ?_
    · repeat' first | exact True.intro | refine And.intro ?_ ?_
      all_goals try ((change _ = _ <;> try dsimp only) <;> try with_reducible rfl)
      all_goals try omega
      all_goals (rfl)
    exact ⟨by show k + 1 ≤ l.length; omega, by show l.length - (k + 1) < l.length - k; omega⟩
  · rename_i k hk hge
    rw [show k = l.length by omega]; rfl

@[reducible] def sSize : Spec := { pats := [.dat I64], res := [{ t := I64 }], pre := fun x => okI x.1, f := fun x => (((show Int from x.1).natAbs : Int), ()) }

/-- base.Size -/
theorem h141 : Ok 78 sSize := by
  refine mk (ctr := []) trivial (nt := 7) Tryd.func78 rfl rfl rfl rfl (by kernel_rfl) (by kernel_rfl) (fun _ => []) ?_
  rintro ⟨(n : Int), _⟩ (h : okI n)
  repeat' (intro hzz; (try (rename Two => hq; cases hq)); (try dsimp only at hzz); (try simp only [resTy, argTy, eqD, inR, big, wantOf, Bool.not_true, Bool.not_false, Bool.true_eq, decide_eq_true_eq, decide_eq_false_iff_not, Bool.not_eq_true', Bool.not_eq_false', Bool.and_eq_true, Prod.mk.injEq, and_true, true_and, Int.not_lt, Int.not_le, gt_iff_lt, ge_iff_le] at hzz); (try simp only [resTy, argTy, eqD, inR, big, wantOf, Bool.not_true, Bool.not_false, Bool.true_eq, decide_eq_true_eq, decide_eq_false_iff_not, Bool.not_eq_true', Bool.not_eq_false', Bool.and_eq_true, Prod.mk.injEq, and_true, true_and, Int.not_lt, Int.not_le, gt_iff_lt, ge_iff_le, okI] at hzz); (try (revert hzz; intro _)))
  all_goals try (rename Unit => hq; clear hq)
  all_goals try ((with_reducible refine Held.mk ?_); (with_reducible (first | refine Frz.mk ?_ | refine And.intro (Frz.mk ?_) ?_ | refine And.intro ?_ (Frz.mk ?_))); repeat' first | exact True.intro | (change _ = _; with_reducible rfl) | refine And.intro ?_ ?_ | (with_reducible refine Frz.mk ?_))
  all_goals try (refine Held.mk ?_; (try dsimp only at *); (try simp only [resTy, argTy, eqD, inR, big, wantOf, Bool.not_true, Bool.not_false, Bool.true_eq, decide_eq_true_eq, decide_eq_false_iff_not, Bool.not_eq_true', Bool.not_eq_false', Bool.and_eq_true, Prod.mk.injEq, and_true, true_and, Int.not_lt, Int.not_le, gt_iff_lt, ge_iff_le] at *); (try simp only [resTy, argTy, eqD, inR, big, wantOf, Bool.not_true, Bool.not_false, Bool.true_eq, decide_eq_true_eq, decide_eq_false_iff_not, Bool.not_eq_true', Bool.not_eq_false', Bool.and_eq_true, Prod.mk.injEq, and_true, true_and, Int.not_lt, Int.not_le, gt_iff_lt, ge_iff_le, okI] at *))
  all_goals try omega
  simp only [cond_true]
  split <;> omega

/-! ### Back to complex numbers -/

def fits (p : IP) : Bool := fRec p.1 && fRec p.2.1
def nmF (ps : List IP) (i : Nat) : Nat × Nat := (floatOfInt .f32 (ps.getD i (0, 0, ())).1, floatOfInt .f32 (ps.getD i (0, 0, ())).2.1)
def allFit (ps : List IP) : Bool := ps.all fits
def tE (ps : List IP) : Int := if allFit ps = true then 0 else 8
def tL (ps : List IP) : CL := if allFit ps = true then tab (nmF ps) ps.length else []

theorem fit_no {ps : List IP} {k : Nat} (hk : k < ps.length) (h : fits (ps.getD k (0, 0, ())) = false) : allFit ps = false := by
  unfold allFit
  rw [List.all_eq_false]
  exact ⟨ps.getD k (0, 0, ()), by simp only [List.getD, List.getElem?_eq_getElem hk, Option.getD_some]; exact List.getElem_mem hk, by rw [h]; exact Bool.false_ne_true⟩

theorem fit_all {ps : List IP} (h : ∀ j, j < ps.length → fits (ps.getD j (0, 0, ())) = true) : allFit ps = true := by
  unfold allFit
  rw [List.all_eq_true]
  intro p hp
  obtain ⟨j, hj, rfl⟩ := List.mem_iff_getElem.1 hp
  have := h j hj
  simpa only [List.getD, List.getElem?_eq_getElem hj, Option.getD_some] using this

theorem t_no {ps : List IP} (h : allFit ps = false) : [] = tL ps ∧ 8 = tE ps := by
  unfold tL tE; rw [h]; exact ⟨rfl, rfl⟩
theorem t_yes {ps : List IP} (h : allFit ps = true) : tab (nmF ps) ps.length = tL ps ∧ 0 = tE ps := by
  unfold tL tE; rw [h]; exact ⟨rfl, rfl⟩

theorem getD_p (ps : List IP) (i : Nat) : List.getD ps ((i : Int)).toNat (Ty.dflt PairT) = ps.getD i (0, 0, ()) := rfl

@[reducible] def sTold : Spec := { pats := [.dat (.sl PairT)], res := [{ own := some 48, t := .sl C64 }, { t := I64 }], pre := fun x => List.length (α := IP) x.1 ≤ 2000000000, f := fun x => (tL x.1, tE x.1, ()) }

/-- told -/
theorem h93n : Ok 30 sTold := by
  refine mkN (X := x0) (hX := x0_ok) (ctr := [(42, sFits), (58, sNumber)]) ⟨h137, h148, trivial⟩ (nt := 23) Tryd.func30 rfl rfl rfl rfl (by kernel_rfl) (by kernel_rfl) (fun x => [fun _ => { σ := Nat, pat := fun k => [sI 9 k] ++ rOwn 4 60004 48 C64 (tab (nmF x.1) k), inv := fun k => k ≤ List.length (α := IP) x.1 ∧ ∀ j, j < k → fits (List.getD (α := IP) x.1 j (0, 0, ())) = true, meas := fun k => List.length (α := IP) x.1 - k }]) ?_
  rintro ⟨(ps : List IP), _⟩ (hl : ps.length ≤ 2000000000)
  repeat' (intro hzz; (try (rename Two => hq; cases hq)); (try dsimp only at hzz); (try simp only [resTy, argTy, eqD, inR, big, wantOf, Bool.not_true, Bool.not_false, Bool.true_eq, decide_eq_true_eq, decide_eq_false_iff_not, Bool.not_eq_true', Bool.not_eq_false', Bool.and_eq_true, Prod.mk.injEq, and_true, true_and, Int.not_lt, Int.not_le, gt_iff_lt, ge_iff_le] at hzz); (try simp only [resTy, argTy, eqD, inR, big, wantOf, Bool.not_true, Bool.not_false, Bool.true_eq, decide_eq_true_eq, decide_eq_false_iff_not, Bool.not_eq_true', Bool.not_eq_false', Bool.and_eq_true, Prod.mk.injEq, and_true, true_and, Int.not_lt, Int.not_le, gt_iff_lt, ge_iff_le, getD_p] at hzz); (try (first | contradiction | (exfalso; omega))); (try (revert hzz; intro _)))
  all_goals try (rename Unit => hq; clear hq)
  all_goals try ((with_reducible refine Held.mk ?_); (with_reducible (first | refine Frz.mk ?_ | refine And.intro (Frz.mk ?_) ?_ | refine And.intro ?_ (Frz.mk ?_))); repeat' first | exact True.intro | (change _ = _; with_reducible rfl) | refine And.intro ?_ ?_ | (with_reducible refine Frz.mk ?_))
  all_goals try (refine Held.mk ?_; (try dsimp only at *); (try simp only [resTy, argTy, eqD, inR, big, wantOf, Bool.not_true, Bool.not_false, Bool.true_eq, decide_eq_true_eq, decide_eq_false_iff_not, Bool.not_eq_true', Bool.not_eq_false', Bool.and_eq_true, Prod.mk.injEq, and_true, true_and, Int.not_lt, Int.not_le, gt_iff_lt, ge_iff_le] at *); (try simp only [resTy, argTy, eqD, inR, big, wantOf, Bool.not_true, Bool.not_false, Bool.true_eq, decide_eq_true_eq, decide_eq_false_iff_not, Bool.not_eq_true', Bool.not_eq_false', Bool.and_eq_true, Prod.mk.injEq, and_true, true_and, Int.not_lt, Int.not_le, gt_iff_lt, ge_iff_le, getD_p] at *))
  all_goals try omega
  · 
    refine GHeld.mk ?_
    refine Exists.intro 0 ?_
    refine And.intro (Leaf.mk ?_) ?_
    · repeat' first | exact True.intro | refine And.intro ?_ ?_
      all_goals try ((change _ = _ <;> try dsimp only) <;> try with_reducible rfl)
      all_goals try omega
      all_goals (rfl)
    exact ⟨Nat.zero_le _, fun j hj => by omega⟩
  · rename_i k hk hlt h
    exact t_no (fit_no (by omega) h)
  · rename_i k hk hlt h
    rw [tab_len]; show k + 1 ≤ 2147483648; omega
  · rename_i k hk hlt h
    refine GHeld.mk ?_
    refine Exists.intro (k + 1) ?_
    refine And.intro (Leaf.mk ?_) ?_
    · repeat' first | exact True.intro | refine And.intro ?_ ?_
      all_goals try ((change _ = _ <;> try dsimp only) <;> try with_reducible rfl)
      all_goals try omega
      all_goals (rfl)
    refine ⟨⟨by show k + 1 ≤ ps.length; omega, fun j hj => ?_⟩, by show ps.length - (k + 1) < ps.length - k; omega⟩
    by_cases he : j = k
    · rw [he]
      show (fRec _ && fRec _) = true
      simp only [Bool.and_eq_true, decide_eq_true_eq]
      exact h
    · exact hk.2 j (by omega)
  · rename_i k hk hge
    have := t_yes (fit_all fun j hj => hk.2 j (by omega))
    rwa [show k = ps.length by omega]

/-- All numbers of a list are small. -/
def okL (B : Int) (ps : List IP) : Prop := ∀ i : Nat, (-B ≤ (ps.getD i (0, 0, ())).1 ∧ (ps.getD i (0, 0, ())).1 ≤ B) ∧ (-B ≤ (ps.getD i (0, 0, ())).2.1 ∧ (ps.getD i (0, 0, ())).2.1 ≤ B)

theorem fit_size {p : IP} : fits p = (decide ((p.1.natAbs : Int) ≤ 16777216) && decide ((p.2.1.natAbs : Int) ≤ 16777216)) := by
  unfold fits
  show (decide (-16777216 ≤ p.1 ∧ p.1 ≤ 16777216) && decide (-16777216 ≤ p.2.1 ∧ p.2.1 ≤ 16777216)) = _
  congr 1 <;> rw [decide_eq_decide] <;> omega

@[reducible] def sNums : Spec := { pats := [.dat (.sl PairT)], res := [{ own := some 48, t := .sl C64 }, { t := .bool }], pre := fun x => List.length (α := IP) x.1 ≤ 2000000000 ∧ okL 4000000000000000000 x.1, f := fun x => (tL x.1, allFit x.1, ()) }

/-- ref.numbers -/
theorem h150n : Ok 59 sNums := by
  refine mkN (X := x0) (hX := x0_ok) (ctr := [(78, sSize)]) ⟨h141, trivial⟩ (nt := 45) Tryd.func59 rfl rfl rfl rfl (by kernel_rfl) (by kernel_rfl) (fun x => [fun _ => { σ := Nat, pat := fun k => [sI 5 k] ++ rOwn 4 60004 48 C64 (tab (nmF x.1) k), inv := fun k => k ≤ List.length (α := IP) x.1 ∧ ∀ j, j < k → fits (List.getD (α := IP) x.1 j (0, 0, ())) = true, meas := fun k => List.length (α := IP) x.1 - k }]) ?_
  rintro ⟨(ps : List IP), _⟩ ⟨(hl : ps.length ≤ 2000000000), (hp : okL 4000000000000000000 ps)⟩
  repeat' (intro hzz; (try (rename Two => hq; cases hq)); (try dsimp only at hzz); (try simp only [resTy, argTy, eqD, inR, big, wantOf, Bool.not_true, Bool.not_false, Bool.true_eq, decide_eq_true_eq, decide_eq_false_iff_not, Bool.not_eq_true', Bool.not_eq_false', Bool.and_eq_true, Prod.mk.injEq, and_true, true_and, Int.not_lt, Int.not_le, gt_iff_lt, ge_iff_le] at hzz); (try simp only [resTy, argTy, eqD, inR, big, wantOf, Bool.not_true, Bool.not_false, Bool.true_eq, decide_eq_true_eq, decide_eq_false_iff_not, Bool.not_eq_true', Bool.not_eq_false', Bool.and_eq_true, Prod.mk.injEq, and_true, true_and, Int.not_lt, Int.not_le, gt_iff_lt, ge_iff_le, getD_p] at hzz); (try (first | contradiction | (exfalso; omega))); (try (revert hzz; intro _)))
  all_goals try (rename Unit => hq; clear hq)
  all_goals try ((with_reducible refine Held.mk ?_); (with_reducible (first | refine Frz.mk ?_ | refine And.intro (Frz.mk ?_) ?_ | refine And.intro ?_ (Frz.mk ?_))); repeat' first | exact True.intro | (change _ = _; with_reducible rfl) | refine And.intro ?_ ?_ | (with_reducible refine Frz.mk ?_))
  all_goals try (refine Held.mk ?_; (try dsimp only at *); (try simp only [resTy, argTy, eqD, inR, big, wantOf, Bool.not_true, Bool.not_false, Bool.true_eq, decide_eq_true_eq, decide_eq_false_iff_not, Bool.not_eq_true', Bool.not_eq_false', Bool.and_eq_true, Prod.mk.injEq, and_true, true_and, Int.not_lt, Int.not_le, gt_iff_lt, ge_iff_le] at *); (try simp only [resTy, argTy, eqD, inR, big, wantOf, Bool.not_true, Bool.not_false, Bool.true_eq, decide_eq_true_eq, decide_eq_false_iff_not, Bool.not_eq_true', Bool.not_eq_false', Bool.and_eq_true, Prod.mk.injEq, and_true, true_and, Int.not_lt, Int.not_le, gt_iff_lt, ge_iff_le, getD_p] at *))
  all_goals try omega
  · 
    refine GHeld.mk ?_
    refine Exists.intro 0 ?_
    refine And.intro (Leaf.mk ?_) ?_
    · repeat' first | exact True.intro | refine And.intro ?_ ?_
      all_goals try ((change _ = _ <;> try dsimp only) <;> try with_reducible rfl)
      all_goals try omega
      all_goals (rfl)
    exact ⟨Nat.zero_le _, fun j hj => by omega⟩
  · exact (hp _).1
  · exact (hp _).2
  · rename_i k hk hlt h1 h2
    have hf := fit_no (ps := ps) (k := k) (by omega) (by rw [fit_size, decide_eq_false (p := ((ps.getD k (0, 0, ())).2.1.natAbs : Int) ≤ 16777216) (by omega), Bool.and_false])
    exact ⟨(t_no hf).1, hf.symm⟩
  · rename_i k hk hlt h1 h2
    rw [tab_len]; show k + 1 ≤ 2147483648; omega
  · rename_i k hk hlt h1 h2
    refine GHeld.mk ?_
    refine Exists.intro (k + 1) ?_
    refine And.intro (Leaf.mk ?_) ?_
    · repeat' first | exact True.intro | refine And.intro ?_ ?_
      all_goals try ((change _ = _ <;> try dsimp only) <;> try with_reducible rfl)
      all_goals try omega
      all_goals (rfl)
    refine ⟨⟨by show k + 1 ≤ ps.length; omega, fun j hj => ?_⟩, by show ps.length - (k + 1) < ps.length - k; omega⟩
    by_cases he : j = k
    · rw [he, fit_size, decide_eq_true h1, decide_eq_true h2]; rfl
    · exact hk.2 j (by omega)
  · rename_i k hk hlt h1
    have hf := fit_no (ps := ps) (k := k) (by omega) (by rw [fit_size, decide_eq_false (p := ((ps.getD k (0, 0, ())).1.natAbs : Int) ≤ 16777216) (by omega), Bool.false_and])
    exact ⟨(t_no hf).1, hf.symm⟩
  · rename_i k hk hge
    have hf := fit_all (ps := ps) fun j hj => hk.2 j (by omega)
    exact ⟨by have := (t_yes hf).1; rwa [show k = ps.length by omega], hf⟩

@[reducible] def sToldR : Spec := { pats := [.dat (.sl PairT)], res := [{ own := some 48, t := .sl C64 }, { t := I64 }], pre := fun x => List.length (α := IP) x.1 ≤ 2000000000 ∧ okL 4000000000000000000 x.1, f := fun x => (tL x.1, tE x.1, ()) }

/-- ref.told -/
theorem h97n : Ok 32 sToldR := by
  refine mkN (X := x0) (hX := x0_ok) (ctr := [(59, sNums)]) ⟨h150n, trivial⟩ (nt := 14) Tryd.func32 rfl rfl rfl rfl (by kernel_rfl) (by kernel_rfl) (fun _ => []) ?_
  rintro ⟨(ps : List IP), _⟩ ⟨(hl : ps.length ≤ 2000000000), (hp : okL 4000000000000000000 ps)⟩
  by_cases hf : allFit ps = true
  · have u : tE ps = 0 := (t_yes hf).2.symm
    repeat' (intro hzz; (try (rename Two => hq; cases hq)); (try dsimp only at hzz); (try simp only [resTy, argTy, eqD, inR, big, wantOf, Bool.not_true, Bool.not_false, Bool.true_eq, decide_eq_true_eq, decide_eq_false_iff_not, Bool.not_eq_true', Bool.not_eq_false', Bool.and_eq_true, Prod.mk.injEq, and_true, true_and, Int.not_lt, Int.not_le, gt_iff_lt, ge_iff_le] at hzz); (try simp only [resTy, argTy, eqD, inR, big, wantOf, Bool.not_true, Bool.not_false, Bool.true_eq, decide_eq_true_eq, decide_eq_false_iff_not, Bool.not_eq_true', Bool.not_eq_false', Bool.and_eq_true, Prod.mk.injEq, and_true, true_and, Int.not_lt, Int.not_le, gt_iff_lt, ge_iff_le, hf, u] at hzz); (try (first | contradiction | (exfalso; omega))); (try (revert hzz; intro _)))
    all_goals try (rename Unit => hq; clear hq)
    all_goals try ((with_reducible refine Held.mk ?_); (with_reducible (first | refine Frz.mk ?_ | refine And.intro (Frz.mk ?_) ?_ | refine And.intro ?_ (Frz.mk ?_))); repeat' first | exact True.intro | (change _ = _; with_reducible rfl) | refine And.intro ?_ ?_ | (with_reducible refine Frz.mk ?_))
    all_goals try (refine Held.mk ?_; (try dsimp only at *); (try simp only [resTy, argTy, eqD, inR, big, wantOf, Bool.not_true, Bool.not_false, Bool.true_eq, decide_eq_true_eq, decide_eq_false_iff_not, Bool.not_eq_true', Bool.not_eq_false', Bool.and_eq_true, Prod.mk.injEq, and_true, true_and, Int.not_lt, Int.not_le, gt_iff_lt, ge_iff_le] at *); (try simp only [resTy, argTy, eqD, inR, big, wantOf, Bool.not_true, Bool.not_false, Bool.true_eq, decide_eq_true_eq, decide_eq_false_iff_not, Bool.not_eq_true', Bool.not_eq_false', Bool.and_eq_true, Prod.mk.injEq, and_true, true_and, Int.not_lt, Int.not_le, gt_iff_lt, ge_iff_le, hf, u] at *))
    all_goals try omega
    exact ⟨hl, hp⟩
  · have hf : allFit ps = false := by simpa using hf
    have u := (t_no hf).1
    have v : tE ps = 8 := (t_no hf).2.symm
    repeat' (intro hzz; (try (rename Two => hq; cases hq)); (try dsimp only at hzz); (try simp only [resTy, argTy, eqD, inR, big, wantOf, Bool.not_true, Bool.not_false, Bool.true_eq, decide_eq_true_eq, decide_eq_false_iff_not, Bool.not_eq_true', Bool.not_eq_false', Bool.and_eq_true, Prod.mk.injEq, and_true, true_and, Int.not_lt, Int.not_le, gt_iff_lt, ge_iff_le] at hzz); (try simp only [resTy, argTy, eqD, inR, big, wantOf, Bool.not_true, Bool.not_false, Bool.true_eq, decide_eq_true_eq, decide_eq_false_iff_not, Bool.not_eq_true', Bool.not_eq_false', Bool.and_eq_true, Prod.mk.injEq, and_true, true_and, Int.not_lt, Int.not_le, gt_iff_lt, ge_iff_le, hf, v] at hzz); (try (first | contradiction | (exfalso; omega))); (try (revert hzz; intro _)))
    all_goals try (rename Unit => hq; clear hq)
    all_goals try ((with_reducible refine Held.mk ?_); (with_reducible (first | refine Frz.mk ?_ | refine And.intro (Frz.mk ?_) ?_ | refine And.intro ?_ (Frz.mk ?_))); repeat' first | exact True.intro | (change _ = _; with_reducible rfl) | refine And.intro ?_ ?_ | (with_reducible refine Frz.mk ?_))
    all_goals try (refine Held.mk ?_; (try dsimp only at *); (try simp only [resTy, argTy, eqD, inR, big, wantOf, Bool.not_true, Bool.not_false, Bool.true_eq, decide_eq_true_eq, decide_eq_false_iff_not, Bool.not_eq_true', Bool.not_eq_false', Bool.and_eq_true, Prod.mk.injEq, and_true, true_and, Int.not_lt, Int.not_le, gt_iff_lt, ge_iff_le] at *); (try simp only [resTy, argTy, eqD, inR, big, wantOf, Bool.not_true, Bool.not_false, Bool.true_eq, decide_eq_true_eq, decide_eq_false_iff_not, Bool.not_eq_true', Bool.not_eq_false', Bool.and_eq_true, Prod.mk.injEq, and_true, true_and, Int.not_lt, Int.not_le, gt_iff_lt, ge_iff_le, hf, v] at *))
    all_goals try omega
    all_goals first | exact ⟨hl, hp⟩ | exact u

/-- ref.Pairs -/
@[reducible] def sPairs : Spec := { pats := [.dat (.sl C64)], res := [{ own := some 37, t := .sl PairT }], pre := fun x => lE x.1 = 0, f := fun x => (lP x.1, ()) }
end Go.Eng.Pu
