/- Contracts of CheckWeights of the program and of the reference. Conditions: right lines for the latter. -/
import Derived.Test.YtimkbccpbjabiaaL30
namespace Go.Eng.Lp
open Go.Eng Go.Proofs
set_option linter.all false
set_option maxRecDepth 100000
set_option maxHeartbeats 8000000

def wRow : List Int → Int
  | [] => 0
  | n :: r => if 1 ≤ n ∧ n ≤ 1000000000000 then wRow r else 2
def dotF (row w : List Int) (k : Nat) : Int := row.getD k 0 * w.getD k 0
def prRows (w : List Int) : Nat → List (List Int) → Int
  | _, [] => 0
  | i, r :: t => if 1000 * w.getD i 0 ≤ sm (dotF r w) w.length then 20 else prRows w (i + 1) t
def cwErrR (rows : List (List Int)) (w : List Int) : Int := if w.length = rows.length then (if wRow w = 0 then prRows w 0 rows else wRow w) else 10
def cwErr (rows : List (List Int)) (w : List Int) : Int := if fCheckLines rows = 0 then cwErrR rows w else fCheckLines rows

theorem wRow_step {w : List Int} {k : Nat} (h : k < w.length) : wRow (w.drop k) = if 1 ≤ w.getD k 0 ∧ w.getD k 0 ≤ 1000000000000 then wRow (w.drop (k + 1)) else 2 := by
  rw [drop_get h]; rfl
theorem prRows_step {w : List Int} {rows : List (List Int)} {k : Nat} (h : k < rows.length) : prRows w k (rows.drop k) = if 1000 * w.getD k 0 ≤ sm (dotF (rows.getD k []) w) w.length then 20 else prRows w (k + 1) (rows.drop (k + 1)) := by
  rw [drop_getL h]; rfl
theorem wRow_ok : ∀ {w : List Int}, wRow w = 0 → ∀ k, k < w.length → 1 ≤ w.getD k 0 ∧ w.getD k 0 ≤ 1000000000000
  | [], _, k, h => by simp at h
  | x :: r, h, k, hk => by
    simp only [wRow] at h
    split at h
    · rename_i hx
      cases k with
      | zero => exact hx
      | succ k => exact wRow_ok h k (by simpa using hk)
    · omega
theorem Lines.get {rows : List (List Int)} (h : Lines rows) {i k : Nat} (hi : i < rows.length) (hk : k < rows.length) : 0 ≤ (rows.getD i []).getD k 0 ∧ (rows.getD i []).getD k 0 ≤ 2000 := by
  have hm := getD_mem' [] hi
  have hl := h.len _ hm
  exact h.val _ hm _ (getD_mem' 0 (by omega))
theorem Lines.row {rows : List (List Int)} (h : Lines rows) {i : Nat} (hi : i < rows.length) : (rows.getD i []).length = rows.length := h.len _ (getD_mem' [] hi)

theorem dot_le {rows : List (List Int)} {w : List Int} (h : Lines rows) (hw : wRow w = 0) (hl : w.length = rows.length) {i k : Nat} (hi : i < rows.length) (hk : k < rows.length) : 0 ≤ dotF (rows.getD i []) w k ∧ dotF (rows.getD i []) w k ≤ 2000000000000000 := by
  have a := h.get hi hk
  have b := wRow_ok hw k (by omega)
  have c := mul_bd (x := (rows.getD i []).getD k 0) (d := w.getD k 0) (X := 2000) (B := 1000000000000) (by omega) (by omega) (by omega) (by omega)
  have d : 0 ≤ (rows.getD i []).getD k 0 * w.getD k 0 := Int.mul_nonneg a.1 (by omega)
  simp only [dotF]; omega
theorem dots_le {rows : List (List Int)} {w : List Int} (h : Lines rows) (hw : wRow w = 0) (hl : w.length = rows.length) {i k : Nat} (hi : i < rows.length) (hk : k ≤ rows.length) : 0 ≤ sm (dotF (rows.getD i []) w) k ∧ sm (dotF (rows.getD i []) w) k ≤ 8000000000000000 := by
  have h1 := sm_le (f := dotF (rows.getD i []) w) (B := 2000000000000000) k (fun j hj => by have := dot_le h hw hl hi (k := j) (by omega); omega)
  have h2 := sm_nn (f := dotF (rows.getD i []) w) k (fun j hj => (dot_le h hw hl hi (k := j) (by omega)).1)
  have h3 := h.le
  omega

theorem cw_of {rows : List (List Int)} {w : List Int} (h : (if fCheckLines rows = 0 then bif decide ((w.length : Int) = rows.length) then 0 else 10 else fCheckLines rows) = 0) : Lines rows ∧ w.length = rows.length ∧ cwErr rows w = cwErrR rows w := by
  by_cases hc : fCheckLines rows = 0
  · refine ⟨lines_of hc, ?_, by simp only [cwErr]; rw [if_pos hc]⟩
    by_cases hl : w.length = rows.length
    · exact hl
    · have hd : decide ((w.length : Int) = rows.length) = false := decide_eq_false (by omega)
      rw [if_pos hc, hd] at h; simp at h
  · rw [if_neg hc] at h; exact absurd h hc
theorem cw_no {rows : List (List Int)} {w : List Int} (h : ¬ (if fCheckLines rows = 0 then bif decide ((w.length : Int) = rows.length) then 0 else 10 else fCheckLines rows) = 0) : (if fCheckLines rows = 0 then bif decide ((w.length : Int) = rows.length) then 0 else 10 else fCheckLines rows) = cwErr rows w := by
  by_cases hc : fCheckLines rows = 0
  · by_cases hl : w.length = rows.length
    · have hd : decide ((w.length : Int) = rows.length) = true := decide_eq_true (by omega)
      rw [if_pos hc, hd] at h; simp at h
    · have hd : decide ((w.length : Int) = rows.length) = false := decide_eq_false (by omega)
      simp only [cwErr, cwErrR]; rw [if_pos hc, if_pos hc, if_neg hl, hd]; rfl
  · simp only [cwErr]; rw [if_neg hc, if_neg hc]
theorem cwR_two {rows : List (List Int)} {w : List Int} (hl : w.length = rows.length) (h : wRow w = 2) : cwErrR rows w = 2 := by
  simp only [cwErrR]; rw [if_pos hl, h, if_neg (by decide)]
theorem cwR_pr {rows : List (List Int)} {w : List Int} (hl : w.length = rows.length) (h : wRow w = 0) : cwErrR rows w = prRows w 0 rows := by
  simp only [cwErrR]; rw [if_pos hl, if_pos h]
theorem w_end {w : List Int} {k : Nat} (hI : wRow (w.drop k) = wRow w) (hk : w.length ≤ k) : wRow w = 0 := by
  rw [List.drop_eq_nil_of_le hk] at hI; exact hI.symm

@[reducible] def sCheckWeights : Spec := { pats := [.dat LinesT, .dat (.sl I64)], res := [{ t := I64 }], pre := fun _ => True, f := fun x => (cwErr x.1.1 x.2.1, ()) }
def cwA (s : Nat) (w : List Int) : LoopAnn := { σ := Nat, pat := fun k => [sI s k], inv := fun k => k ≤ w.length ∧ wRow (w.drop k) = wRow w, meas := fun k => w.length - k }
def cwB (s : Nat) (rows : List (List Int)) (w : List Int) : LoopAnn := { σ := Nat, pat := fun k => [sI s k], inv := fun k => k ≤ rows.length ∧ prRows w k (rows.drop k) = prRows w 0 rows, meas := fun k => rows.length - k }
def cwC (o s c : Nat) (rows : List (List Int)) (w : List Int) (st : St) : LoopAnn := withI o st fun i => { σ := Nat, pat := fun k => [sI s k, sI c (sm (dotF (rows.getD i.toNat []) w) k)], inv := fun k => k ≤ rows.length, meas := fun k => rows.length - k }

/-- CheckWeights -/
theorem h44 : Ok 44 sCheckWeights := by
  refine mk (ctr := [(47, sCheckLines), (82, sUnless), (81, sFirst), (89, sWithin)]) ⟨h47, h82, h81, h89, trivial⟩ (nt := 69) Try.func44 rfl rfl rfl rfl (by kernel_rfl) (by kernel_rfl) (fun x => [fun _ => cwA 29 x.2.1, fun _ => cwB 40 x.1.1 x.2.1, cwC 40 47 10 x.1.1 x.2.1]) ?_
  rintro ⟨⟨(rows : List (List Int)), _⟩, (w : List Int), _⟩ _
  repeat' (intro hzz; (try (rename Two => hq; cases hq)); (try dsimp only at hzz); (try simp only [resTy, argTy, eqD, inR, big, wantOf, Bool.not_true, Bool.not_false, Bool.true_eq, decide_eq_true_eq, decide_eq_false_iff_not, Bool.not_eq_true', Bool.not_eq_false', Bool.and_eq_true, Prod.mk.injEq, and_true, true_and, Int.not_lt, Int.not_le, gt_iff_lt, ge_iff_le] at hzz); (try simp only [resTy, argTy, eqD, inR, big, wantOf, Bool.not_true, Bool.not_false, Bool.true_eq, decide_eq_true_eq, decide_eq_false_iff_not, Bool.not_eq_true', Bool.not_eq_false', Bool.and_eq_true, Prod.mk.injEq, and_true, true_and, Int.not_lt, Int.not_le, gt_iff_lt, ge_iff_le, getD_l, getD_i, first2, fWithin, Int.toNat_natCast, getD_l2, getD_i2] at hzz); (try (revert hzz; intro _)))
  all_goals try (rename Unit => hq; clear hq)
  all_goals try ((with_reducible refine Held.mk ?_); (with_reducible (first | refine Frz.mk ?_ | refine And.intro (Frz.mk ?_) ?_ | refine And.intro ?_ (Frz.mk ?_))); repeat' first | exact True.intro | (change _ = _; with_reducible rfl) | refine And.intro ?_ ?_ | (with_reducible refine Frz.mk ?_))
  all_goals try (refine Held.mk ?_; (try dsimp only at *); (try simp only [resTy, argTy, eqD, inR, big, wantOf, Bool.not_true, Bool.not_false, Bool.true_eq, decide_eq_true_eq, decide_eq_false_iff_not, Bool.not_eq_true', Bool.not_eq_false', Bool.and_eq_true, Prod.mk.injEq, and_true, true_and, Int.not_lt, Int.not_le, gt_iff_lt, ge_iff_le] at *); (try simp only [resTy, argTy, eqD, inR, big, wantOf, Bool.not_true, Bool.not_false, Bool.true_eq, decide_eq_true_eq, decide_eq_false_iff_not, Bool.not_eq_true', Bool.not_eq_false', Bool.and_eq_true, Prod.mk.injEq, and_true, true_and, Int.not_lt, Int.not_le, gt_iff_lt, ge_iff_le, getD_l, getD_i, first2, fWithin, Int.toNat_natCast, getD_l2, getD_i2] at *))
  all_goals try omega
  · exact pLen2 (by simp)
  · rename_i h
    exact cw_no h
  all_goals (rename (if fCheckLines rows = 0 then _ else _) = 0 => hE; replace hE := cw_of hE; have hL := hE.1; have hw := hE.2.1; have h4 := hL.le)
  ·
    refine GHeld.mk ?_
    refine Exists.intro (0 : Nat) ?_
    refine And.intro (Leaf.mk ?_) ?_
    · repeat' first | exact True.intro | refine And.intro ?_ ?_
      all_goals try ((change _ = _ <;> try dsimp only) <;> try with_reducible rfl)
      all_goals try omega
      all_goals (rfl)
    exact ⟨Nat.zero_le _, rfl⟩
  · rename_i k hI hk hb
    have e := hI.2
    rw [wRow_step (by omega), if_neg hb] at e
    rw [hE.2.2, cwR_two hw e.symm]
  · rename_i k hI hk hb
    omega
  · rename_i k hI hk hb
    have e := hI.2
    rw [wRow_step (by omega), if_pos hb] at e
    refine GHeld.mk ?_
    refine Exists.intro (k + 1) ?_
    refine And.intro (Leaf.mk ?_) ?_
    · repeat' first | exact True.intro | refine And.intro ?_ ?_
      all_goals try ((change _ = _ <;> try dsimp only) <;> try with_reducible rfl)
      all_goals try omega
      all_goals (rfl)
    refine ⟨⟨by change k + 1 ≤ w.length; omega, e⟩, ?_⟩
    change w.length - (k + 1) < w.length - k
    omega
  ·
    refine GHeld.mk ?_
    refine Exists.intro (0 : Nat) ?_
    refine And.intro (Leaf.mk ?_) ?_
    · repeat' first | exact True.intro | refine And.intro ?_ ?_
      all_goals try ((change _ = _ <;> try dsimp only) <;> try with_reducible rfl)
      all_goals try omega
      all_goals (rfl)
    exact ⟨Nat.zero_le _, rfl⟩
  ·
    refine GHeld.mk ?_
    refine Exists.intro (0 : Nat) ?_
    refine And.intro (Leaf.mk ?_) ?_
    · repeat' first | exact True.intro | refine And.intro ?_ ?_
      all_goals try ((change _ = _ <;> try dsimp only) <;> try with_reducible rfl)
      all_goals try omega
      all_goals (rfl)
    exact Nat.zero_le _
  all_goals (have hrow := fun (i : Nat) (hi : i < rows.length) => hL.row hi)
  · rename_i q hq hq2 k hI hk j hJ hj
    have := hrow k (by omega)
    omega
  · rename_i q hq hq2 k hI hk j hJ hj
    have := hrow k (by omega)
    have a := dot_le hL (w_end hq.2 (by omega)) hw (i := k) (k := j) (by omega) (by omega)
    simp only [dotF] at a
    omega
  · rename_i q hq hq2 k hI hk j hJ hj
    have := hrow k (by omega)
    have a := dot_le hL (w_end hq.2 (by omega)) hw (i := k) (k := j) (by omega) (by omega)
    have b := dots_le hL (w_end hq.2 (by omega)) hw (i := k) (k := j) (by omega) (by omega)
    simp only [dotF] at a
    omega
  · rename_i q hq hq2 k hI hk j hJ hj
    omega
  · rename_i q hq hq2 k hI hk j hJ hj
    have := hrow k (by omega)
    refine GHeld.mk ?_
    refine Exists.intro (j + 1) ?_
    refine And.intro (Leaf.mk ?_) ?_
    · repeat' first | exact True.intro | refine And.intro ?_ ?_
      all_goals try ((change _ = _ <;> try dsimp only) <;> try with_reducible rfl)
      all_goals try omega
      all_goals (rfl)
    change j + 1 ≤ rows.length ∧ rows.length - (j + 1) < rows.length - j
    omega
  · rename_i q hq hq2 k hI hk j hJ hj
    omega
  · rename_i q hq hq2 k hI hk j hJ hj
    have a := wRow_ok (w_end hq.2 (by omega)) k (by omega)
    omega
  · rename_i q hq hq2 k hI hk j hJ hj hc
    have := hrow k (by omega)
    have e := hI.2
    obtain rfl : j = w.length := by omega
    rw [prRows_step (by omega), if_pos hc] at e
    rw [hE.2.2, cwR_pr hw (w_end hq.2 (by omega)), ← e]
  · rename_i q hq hq2 k hI hk j hJ hj hc
    omega
  · rename_i q hq hq2 k hI hk j hJ hj hc
    have := hrow k (by omega)
    have e := hI.2
    obtain rfl : j = w.length := by omega
    rw [prRows_step (by omega), if_neg (by omega)] at e
    refine GHeld.mk ?_
    refine Exists.intro (k + 1) ?_
    refine And.intro (Leaf.mk ?_) ?_
    · repeat' first | exact True.intro | refine And.intro ?_ ?_
      all_goals try ((change _ = _ <;> try dsimp only) <;> try with_reducible rfl)
      all_goals try omega
      all_goals (rfl)
    refine ⟨⟨by change k + 1 ≤ rows.length; omega, e⟩, ?_⟩
    change rows.length - (k + 1) < rows.length - k
    omega
  · rename_i q hq hq2 k hI hk
    have e := hI.2
    rw [List.drop_eq_nil_of_le (by omega)] at e
    rw [hE.2.2, cwR_pr hw (w_end hq.2 (by omega)), ← e]; rfl

@[reducible] def sCheckWeightsR : Spec := { pats := [.dat LinesT, .dat (.sl I64)], res := [{ t := I64 }], pre := fun x => Lines x.1.1, f := fun x => (cwErrR x.1.1 x.2.1, ()) }
/-- ref.CheckWeights -/
theorem h48 : Ok 48 sCheckWeightsR := by
  refine mk (ctr := [(17, sWithin)]) ⟨h17, trivial⟩ (nt := 61) Try.func48 rfl rfl rfl rfl (by kernel_rfl) (by kernel_rfl) (fun x => [fun _ => cwA 5 x.2.1, fun _ => cwB 6 x.1.1 x.2.1, cwC 6 8 7 x.1.1 x.2.1]) ?_
  rintro ⟨⟨(rows : List (List Int)), _⟩, (w : List Int), _⟩ (hL : Lines rows)
  repeat' (intro hzz; (try (rename Two => hq; cases hq)); (try dsimp only at hzz); (try simp only [resTy, argTy, eqD, inR, big, wantOf, Bool.not_true, Bool.not_false, Bool.true_eq, decide_eq_true_eq, decide_eq_false_iff_not, Bool.not_eq_true', Bool.not_eq_false', Bool.and_eq_true, Prod.mk.injEq, and_true, true_and, Int.not_lt, Int.not_le, gt_iff_lt, ge_iff_le] at hzz); (try simp only [resTy, argTy, eqD, inR, big, wantOf, Bool.not_true, Bool.not_false, Bool.true_eq, decide_eq_true_eq, decide_eq_false_iff_not, Bool.not_eq_true', Bool.not_eq_false', Bool.and_eq_true, Prod.mk.injEq, and_true, true_and, Int.not_lt, Int.not_le, gt_iff_lt, ge_iff_le, getD_l, getD_i, fWithin, Int.toNat_natCast, getD_l2, getD_i2] at hzz); (try (revert hzz; intro _)))
  all_goals try (rename Unit => hq; clear hq)
  all_goals try ((with_reducible refine Held.mk ?_); (with_reducible (first | refine Frz.mk ?_ | refine And.intro (Frz.mk ?_) ?_ | refine And.intro ?_ (Frz.mk ?_))); repeat' first | exact True.intro | (change _ = _; with_reducible rfl) | refine And.intro ?_ ?_ | (with_reducible refine Frz.mk ?_))
  all_goals try (refine Held.mk ?_; (try dsimp only at *); (try simp only [resTy, argTy, eqD, inR, big, wantOf, Bool.not_true, Bool.not_false, Bool.true_eq, decide_eq_true_eq, decide_eq_false_iff_not, Bool.not_eq_true', Bool.not_eq_false', Bool.and_eq_true, Prod.mk.injEq, and_true, true_and, Int.not_lt, Int.not_le, gt_iff_lt, ge_iff_le] at *); (try simp only [resTy, argTy, eqD, inR, big, wantOf, Bool.not_true, Bool.not_false, Bool.true_eq, decide_eq_true_eq, decide_eq_false_iff_not, Bool.not_eq_true', Bool.not_eq_false', Bool.and_eq_true, Prod.mk.injEq, and_true, true_and, Int.not_lt, Int.not_le, gt_iff_lt, ge_iff_le, getD_l, getD_i, fWithin, Int.toNat_natCast, getD_l2, getD_i2] at *))
  all_goals try omega
  · rename_i hw
    simp only [cwErrR]; rw [if_neg (by omega)]
  all_goals (rename (w.length : Int) = rows.length => hw0; have hw : w.length = rows.length := by omega)
  all_goals have h4 := hL.le
  ·
    refine GHeld.mk ?_
    refine Exists.intro (0 : Nat) ?_
    refine And.intro (Leaf.mk ?_) ?_
    · repeat' first | exact True.intro | refine And.intro ?_ ?_
      all_goals try ((change _ = _ <;> try dsimp only) <;> try with_reducible rfl)
      all_goals try omega
      all_goals (rfl)
    exact ⟨Nat.zero_le _, rfl⟩
  · rename_i k hI hk hb
    have e := hI.2
    rw [wRow_step (by omega), if_neg hb] at e
    rw [cwR_two hw e.symm]
  · rename_i k hI hk hb
    omega
  · rename_i k hI hk hb
    have e := hI.2
    rw [wRow_step (by omega), if_pos hb] at e
    refine GHeld.mk ?_
    refine Exists.intro (k + 1) ?_
    refine And.intro (Leaf.mk ?_) ?_
    · repeat' first | exact True.intro | refine And.intro ?_ ?_
      all_goals try ((change _ = _ <;> try dsimp only) <;> try with_reducible rfl)
      all_goals try omega
      all_goals (rfl)
    refine ⟨⟨by change k + 1 ≤ w.length; omega, e⟩, ?_⟩
    change w.length - (k + 1) < w.length - k
    omega
  ·
    refine GHeld.mk ?_
    refine Exists.intro (0 : Nat) ?_
    refine And.intro (Leaf.mk ?_) ?_
    · repeat' first | exact True.intro | refine And.intro ?_ ?_
      all_goals try ((change _ = _ <;> try dsimp only) <;> try with_reducible rfl)
      all_goals try omega
      all_goals (rfl)
    exact ⟨Nat.zero_le _, rfl⟩
  ·
    refine GHeld.mk ?_
    refine Exists.intro (0 : Nat) ?_
    refine And.intro (Leaf.mk ?_) ?_
    · repeat' first | exact True.intro | refine And.intro ?_ ?_
      all_goals try ((change _ = _ <;> try dsimp only) <;> try with_reducible rfl)
      all_goals try omega
      all_goals (rfl)
    exact Nat.zero_le _
  all_goals (have hrow := fun (i : Nat) (hi : i < rows.length) => hL.row hi)
  · rename_i q hq hq2 k hI hk j hJ hj
    have := hrow k (by omega)
    omega
  · rename_i q hq hq2 k hI hk j hJ hj
    have := hrow k (by omega)
    have a := dot_le hL (w_end hq.2 (by omega)) hw (i := k) (k := j) (by omega) (by omega)
    simp only [dotF] at a
    omega
  · rename_i q hq hq2 k hI hk j hJ hj
    have := hrow k (by omega)
    have a := dot_le hL (w_end hq.2 (by omega)) hw (i := k) (k := j) (by omega) (by omega)
    have b := dots_le hL (w_end hq.2 (by omega)) hw (i := k) (k := j) (by omega) (by omega)
    simp only [dotF] at a
    omega
  · rename_i q hq hq2 k hI hk j hJ hj
    omega
  · rename_i q hq hq2 k hI hk j hJ hj
    have := hrow k (by omega)
    refine GHeld.mk ?_
    refine Exists.intro (j + 1) ?_
    refine And.intro (Leaf.mk ?_) ?_
    · repeat' first | exact True.intro | refine And.intro ?_ ?_
      all_goals try ((change _ = _ <;> try dsimp only) <;> try with_reducible rfl)
      all_goals try omega
      all_goals (rfl)
    change j + 1 ≤ rows.length ∧ rows.length - (j + 1) < rows.length - j
    omega
  · rename_i q hq hq2 k hI hk j hJ hj
    have a := wRow_ok (w_end hq.2 (by omega)) k (by omega)
    omega
  · rename_i q hq hq2 k hI hk j hJ hj hc
    have := hrow k (by omega)
    have e := hI.2
    obtain rfl : j = w.length := by omega
    rw [prRows_step (by omega), if_pos hc] at e
    rw [cwR_pr hw (w_end hq.2 (by omega)), ← e]
  · rename_i q hq hq2 k hI hk j hJ hj hc
    omega
  · rename_i q hq hq2 k hI hk j hJ hj hc
    have := hrow k (by omega)
    have e := hI.2
    obtain rfl : j = w.length := by omega
    rw [prRows_step (by omega), if_neg (by omega)] at e
    refine GHeld.mk ?_
    refine Exists.intro (k + 1) ?_
    refine And.intro (Leaf.mk ?_) ?_
    · repeat' first | exact True.intro | refine And.intro ?_ ?_
      all_goals try ((change _ = _ <;> try dsimp only) <;> try with_reducible rfl)
      all_goals try omega
      all_goals (rfl)
    refine ⟨⟨by change k + 1 ≤ rows.length; omega, e⟩, ?_⟩
    change rows.length - (k + 1) < rows.length - k
    omega
  · rename_i q hq hq2 k hI hk
    have e := hI.2
    rw [List.drop_eq_nil_of_le (by omega)] at e
    rw [cwR_pr hw (w_end hq.2 (by omega)), ← e]; rfl

end Go.Eng.Lp
