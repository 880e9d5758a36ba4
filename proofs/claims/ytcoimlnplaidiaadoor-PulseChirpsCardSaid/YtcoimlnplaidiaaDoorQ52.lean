/- Contracts: sweeps: Swept, of the program and of the reference. Conditions: each contract's own. -/
import Derived.Test.YtcoimlnplaidiaaDoorQ52A
namespace Go.Eng.Pu
open Go.Eng Go.Proofs
set_option linter.all false
set_option maxRecDepth 100000
set_option maxHeartbeats 8000000

def timesP (a b : IP) : IP := (a.1 * b.1 - a.2.1 * b.2.1, a.1 * b.2.1 + a.2.1 * b.1, ())
def okT (a b : IP) : Prop := okI (a.1 * b.1) ∧ okI (a.2.1 * b.2.1) ∧ okI (a.1 * b.2.1) ∧ okI (a.2.1 * b.1)
theorem mul_in24 {a b : Int} (ha : -16777216 ≤ a ∧ a ≤ 16777216) (hb : -16777216 ≤ b ∧ b ≤ 16777216) : -281474976710656 ≤ a * b ∧ a * b ≤ 281474976710656 := by
  have h1 : a.natAbs ≤ 16777216 := by omega
  have h2 : b.natAbs ≤ 16777216 := by omega
  have h3 : (a * b).natAbs ≤ 16777216 * 16777216 := by rw [Int.natAbs_mul]; exact Nat.mul_le_mul h1 h2
  omega

theorem okT_24 {a b : IP} (ha : inBP 16777216 a) (hb : inBP 16777216 b) : okT a b := by
  have h1 := mul_in24 ha.1 hb.1
  have h2 := mul_in24 ha.2 hb.2
  have h3 := mul_in24 ha.1 hb.2
  have h4 := mul_in24 ha.2 hb.1
  exact ⟨by unfold okI; omega, by unfold okI; omega, by unfold okI; omega, by unfold okI; omega⟩

theorem timesP_in {a b : IP} (ha : inBP 16777216 a) (hb : inBP 16777216 b) : inBP 562949953421312 (timesP a b) := by
  have h1 := mul_in24 ha.1 hb.1
  have h2 := mul_in24 ha.2 hb.2
  have h3 := mul_in24 ha.1 hb.2
  have h4 := mul_in24 ha.2 hb.1
  show (-562949953421312 ≤ a.1 * b.1 - a.2.1 * b.2.1 ∧ a.1 * b.1 - a.2.1 * b.2.1 ≤ 562949953421312) ∧ (-562949953421312 ≤ a.1 * b.2.1 + a.2.1 * b.1 ∧ a.1 * b.2.1 + a.2.1 * b.1 ≤ 562949953421312)
  omega

@[reducible] def sTimes : Spec := { pats := [.dat PairT, .dat PairT], res := [{ t := PairT }], pre := fun x => okT x.1 x.2.1, f := fun x => (timesP x.1 x.2.1, ()) }

/-- pair.times -/
theorem h134 : Ok 38 sTimes := by
  refine mk (ctr := []) trivial (nt := 28) Tryd.func38 rfl rfl rfl rfl (by kernel_rfl) (by kernel_rfl) (fun _ => []) ?_
  rintro ⟨⟨(a : Int), (b : Int), _⟩, ⟨(c : Int), (d : Int), _⟩, _⟩ ⟨(h1 : okI (a * c)), (h2 : okI (b * d)), (h3 : okI (a * d)), (h4 : okI (b * c))⟩
  repeat' (intro hzz; (try (rename Two => hq; cases hq)); (try dsimp only at hzz); (try simp only [resTy, argTy, eqD, inR, big, wantOf, Bool.not_true, Bool.not_false, Bool.true_eq, decide_eq_true_eq, decide_eq_false_iff_not, Bool.not_eq_true', Bool.not_eq_false', Bool.and_eq_true, Prod.mk.injEq, and_true, true_and, Int.not_lt, Int.not_le, gt_iff_lt, ge_iff_le] at hzz); (try simp only [resTy, argTy, eqD, inR, big, wantOf, Bool.not_true, Bool.not_false, Bool.true_eq, decide_eq_true_eq, decide_eq_false_iff_not, Bool.not_eq_true', Bool.not_eq_false', Bool.and_eq_true, Prod.mk.injEq, and_true, true_and, Int.not_lt, Int.not_le, gt_iff_lt, ge_iff_le, okI] at hzz); (try (revert hzz; intro _)))
  all_goals try (rename Unit => hq; clear hq)
  all_goals try ((with_reducible refine Held.mk ?_); (with_reducible (first | refine Frz.mk ?_ | refine And.intro (Frz.mk ?_) ?_ | refine And.intro ?_ (Frz.mk ?_))); repeat' first | exact True.intro | (change _ = _; with_reducible rfl) | refine And.intro ?_ ?_ | (with_reducible refine Frz.mk ?_))
  all_goals try (refine Held.mk ?_; (try dsimp only at *); (try simp only [resTy, argTy, eqD, inR, big, wantOf, Bool.not_true, Bool.not_false, Bool.true_eq, decide_eq_true_eq, decide_eq_false_iff_not, Bool.not_eq_true', Bool.not_eq_false', Bool.and_eq_true, Prod.mk.injEq, and_true, true_and, Int.not_lt, Int.not_le, gt_iff_lt, ge_iff_le] at *); (try simp only [resTy, argTy, eqD, inR, big, wantOf, Bool.not_true, Bool.not_false, Bool.true_eq, decide_eq_true_eq, decide_eq_false_iff_not, Bool.not_eq_true', Bool.not_eq_false', Bool.and_eq_true, Prod.mk.injEq, and_true, true_and, Int.not_lt, Int.not_le, gt_iff_lt, ge_iff_le, okI] at *))
  all_goals try omega
  exact ⟨rfl, rfl⟩

/-- The error of two lists. -/
def twE (a b : CL) : Int := if lE a = 0 then lE b else lE a
def twL (a b : CL) : List IP := if lE a = 0 then lP b else []

@[reducible] def sTwoL : Spec := { pats := [.dat (.sl C64), .dat (.sl C64)], res := [{ t := .sl PairT }, { t := .sl PairT }, { t := I64 }], pre := fun _ => True, f := fun x => (lP x.1, twL x.1 x.2.1, twE x.1 x.2.1, ()) }

theorem lP_nil {xs : CL} (h : ¬ lE xs = 0) : lP xs = [] := by unfold lP; rw [if_neg h]

/-- two -/
theorem h133 : Ok 36 sTwoL := by
  refine mk (ctr := [(43, sRecdD)]) ⟨h91d, trivial⟩ (nt := 26) Tryd.func36 rfl rfl rfl rfl (by kernel_rfl) (by kernel_rfl) (fun _ => []) ?_
  rintro ⟨(a : CL), (b : CL), _⟩ _
  by_cases h : lE a = 0
  · have u : twE a b = lE b := by unfold twE; rw [if_pos h]
    have v : twL a b = lP b := by unfold twL; rw [if_pos h]
    repeat' (intro hzz; (try (rename Two => hq; cases hq)); (try dsimp only at hzz); (try simp only [resTy, argTy, eqD, inR, big, wantOf, Bool.not_true, Bool.not_false, Bool.true_eq, decide_eq_true_eq, decide_eq_false_iff_not, Bool.not_eq_true', Bool.not_eq_false', Bool.and_eq_true, Prod.mk.injEq, and_true, true_and, Int.not_lt, Int.not_le, gt_iff_lt, ge_iff_le] at hzz); (try simp only [resTy, argTy, eqD, inR, big, wantOf, Bool.not_true, Bool.not_false, Bool.true_eq, decide_eq_true_eq, decide_eq_false_iff_not, Bool.not_eq_true', Bool.not_eq_false', Bool.and_eq_true, Prod.mk.injEq, and_true, true_and, Int.not_lt, Int.not_le, gt_iff_lt, ge_iff_le, h, u, v] at hzz); (try (first | contradiction | (exfalso; omega))); (try (revert hzz; intro _)))
    all_goals try (rename Unit => hq; clear hq)
    all_goals try ((with_reducible refine Held.mk ?_); (with_reducible (first | refine Frz.mk ?_ | refine And.intro (Frz.mk ?_) ?_ | refine And.intro ?_ (Frz.mk ?_))); repeat' first | exact True.intro | (change _ = _; with_reducible rfl) | refine And.intro ?_ ?_ | (with_reducible refine Frz.mk ?_))
    all_goals try (refine Held.mk ?_; (try dsimp only at *); (try simp only [resTy, argTy, eqD, inR, big, wantOf, Bool.not_true, Bool.not_false, Bool.true_eq, decide_eq_true_eq, decide_eq_false_iff_not, Bool.not_eq_true', Bool.not_eq_false', Bool.and_eq_true, Prod.mk.injEq, and_true, true_and, Int.not_lt, Int.not_le, gt_iff_lt, ge_iff_le] at *); (try simp only [resTy, argTy, eqD, inR, big, wantOf, Bool.not_true, Bool.not_false, Bool.true_eq, decide_eq_true_eq, decide_eq_false_iff_not, Bool.not_eq_true', Bool.not_eq_false', Bool.and_eq_true, Prod.mk.injEq, and_true, true_and, Int.not_lt, Int.not_le, gt_iff_lt, ge_iff_le, h, u, v] at *))
    all_goals try omega
  · have u : twE a b = lE a := by unfold twE; rw [if_neg h]
    have v : twL a b = [] := by unfold twL; rw [if_neg h]
    have w := lP_nil h
    repeat' (intro hzz; (try (rename Two => hq; cases hq)); (try dsimp only at hzz); (try simp only [resTy, argTy, eqD, inR, big, wantOf, Bool.not_true, Bool.not_false, Bool.true_eq, decide_eq_true_eq, decide_eq_false_iff_not, Bool.not_eq_true', Bool.not_eq_false', Bool.and_eq_true, Prod.mk.injEq, and_true, true_and, Int.not_lt, Int.not_le, gt_iff_lt, ge_iff_le] at hzz); (try simp only [resTy, argTy, eqD, inR, big, wantOf, Bool.not_true, Bool.not_false, Bool.true_eq, decide_eq_true_eq, decide_eq_false_iff_not, Bool.not_eq_true', Bool.not_eq_false', Bool.and_eq_true, Prod.mk.injEq, and_true, true_and, Int.not_lt, Int.not_le, gt_iff_lt, ge_iff_le, u, v, w] at hzz); (try (first | contradiction | (exfalso; omega))); (try (revert hzz; intro _)))
    all_goals try (rename Unit => hq; clear hq)
    all_goals try ((with_reducible refine Held.mk ?_); (with_reducible (first | refine Frz.mk ?_ | refine And.intro (Frz.mk ?_) ?_ | refine And.intro ?_ (Frz.mk ?_))); repeat' first | exact True.intro | (change _ = _; with_reducible rfl) | refine And.intro ?_ ?_ | (with_reducible refine Frz.mk ?_))
    all_goals try (refine Held.mk ?_; (try dsimp only at *); (try simp only [resTy, argTy, eqD, inR, big, wantOf, Bool.not_true, Bool.not_false, Bool.true_eq, decide_eq_true_eq, decide_eq_false_iff_not, Bool.not_eq_true', Bool.not_eq_false', Bool.and_eq_true, Prod.mk.injEq, and_true, true_and, Int.not_lt, Int.not_le, gt_iff_lt, ge_iff_le] at *); (try simp only [resTy, argTy, eqD, inR, big, wantOf, Bool.not_true, Bool.not_false, Bool.true_eq, decide_eq_true_eq, decide_eq_false_iff_not, Bool.not_eq_true', Bool.not_eq_false', Bool.and_eq_true, Prod.mk.injEq, and_true, true_and, Int.not_lt, Int.not_le, gt_iff_lt, ge_iff_le, u, v, w] at *))
    all_goals try omega

@[reducible] def sBothE : Spec := { pats := [.dat (.sl C64), .dat (.sl C64)], res := [{ t := I64 }], pre := fun _ => True, f := fun x => (twE x.1 x.2.1, ()) }

/-! ### Swept -/

abbrev zP : IP := (0, 0, ())
/-- The sum of the products of the first numbers of a list with those of another one, at a place. -/
def swV (ps qs : List IP) (j : Nat) : Nat → IP
  | 0 => (0, 0, ())
  | m + 1 => if m ≤ j ∧ j - m < qs.length then plusP (swV ps qs j m) (timesP (ps.getD m (0, 0, ())) (qs.getD (j - m) (0, 0, ()))) else swV ps qs j m
/-- The rows when the loops have come to i and k. -/
def swG (ps qs : List IP) (i k j : Nat) : IP := if i ≤ j ∧ j - i < k then plusP (swV ps qs j i) (timesP (ps.getD i (0, 0, ())) (qs.getD (j - i) (0, 0, ()))) else swV ps qs j i
def swN (ps qs : List IP) : Nat := ps.length + qs.length - 1
def swL (ps qs : List IP) : List IP := tab (fun j => swV ps qs j ps.length) (swN ps qs)

theorem swG_zero (ps qs : List IP) (n : Nat) : repl (n : Int) (0, 0, ()) = tab (swG ps qs 0 0) n := by
  rw [repl_tab]
  refine tab_congr n fun i _ => ?_
  unfold swG
  rw [if_neg (by omega)]; rfl
theorem swG_step {ps qs : List IP} {i k n : Nat} (h : i + k < n) : (tab (swG ps qs i k) n).set (i + k) (plusP ((tab (swG ps qs i k) n).getD (i + k) (0, 0, ())) (timesP (ps.getD i (0, 0, ())) (qs.getD k (0, 0, ())))) = tab (swG ps qs i (k + 1)) n := by
  rw [tab_set, tab_get _ _ _ _ h]
  refine tab_congr n fun j _ => ?_
  unfold swG
  by_cases hj : j = i + k
  · subst hj
    rw [if_pos rfl, if_neg (by omega), if_pos (by omega), Nat.add_sub_cancel_left]
  · rw [if_neg hj]
    by_cases h2 : i ≤ j ∧ j - i < k
    · rw [if_pos h2, if_pos (by omega)]
    · rw [if_neg h2, if_neg (by omega)]
theorem swG_next (ps qs : List IP) (i n : Nat) : tab (swG ps qs i qs.length) n = tab (swG ps qs (i + 1) 0) n := tab_congr n fun j _ => by
  unfold swG
  rw [if_neg (show ¬ (i + 1 ≤ j ∧ j - (i + 1) < 0) by omega)]
  rfl
theorem swG_all (ps qs : List IP) : tab (swG ps qs ps.length 0) (swN ps qs) = swL ps qs := tab_congr _ fun j _ => by
  unfold swG
  rw [if_neg (by omega)]

theorem swV_in {ps qs : List IP} (ha : okL 16777216 ps) (hb : okL 16777216 qs) (j : Nat) : ∀ m : Nat, inBP (m * 562949953421312) (swV ps qs j m)
  | 0 => by show (_ ≤ (0 : Int) ∧ (0 : Int) ≤ _) ∧ (_ ≤ (0 : Int) ∧ (0 : Int) ≤ _); omega
  | m + 1 => by
    have ih := swV_in ha hb j m
    have e : swV ps qs j (m + 1) = if m ≤ j ∧ j - m < qs.length then plusP (swV ps qs j m) (timesP (ps.getD m (0, 0, ())) (qs.getD (j - m) (0, 0, ()))) else swV ps qs j m := rfl
    rw [e]
    split
    · have := plusP_in ih (timesP_in (okL_inBP ha m) (okL_inBP hb (j - m)))
      rw [show ((m + 1 : Nat) : Int) * 562949953421312 = (m : Int) * 562949953421312 + 562949953421312 by omega]
      exact this
    · obtain ⟨a1, a2⟩ := ih
      exact ⟨⟨by omega, by omega⟩, ⟨by omega, by omega⟩⟩

theorem swG_in {ps qs : List IP} (ha : okL 16777216 ps) (hb : okL 16777216 qs) {i k : Nat} (hi : i ≤ 1024) (j : Nat) : inBP 577023702256844800 (swG ps qs i k j) := by
  have ih := swV_in ha hb j i
  unfold swG
  split
  · exact inBP_mono (plusP_in ih (timesP_in (okL_inBP ha i) (okL_inBP hb (j - i)))) (by omega)
  · exact inBP_mono ih (by omega)

theorem swG_ok {ps qs : List IP} (ha : okL 16777216 ps) (hb : okL 16777216 qs) {i k n : Nat} (hi : i ≤ 1024) : okL 577023702256844800 (tab (swG ps qs i k) n) := okL_tab (by omega) fun j _ => swG_in ha hb hi j

/-- The error and the result of a sweep. -/
def swE (a b : CL) : Int := if twE a b = 0 then (if 1024 < swN (lP a) (lP b) then 8 else tE (swL (lP a) (lP b))) else twE a b
def swR (a b : CL) : CL := if twE a b = 0 then (if 1024 < swN (lP a) (lP b) then [] else tL (swL (lP a) (lP b))) else []

@[reducible] def sSwept : Spec := { pats := [.dat (.sl C64), .dat (.sl C64)], res := [{ own := some 48, t := .sl C64 }, { t := I64 }], pre := fun _ => True, f := fun x => (swR x.1 x.2.1, swE x.1 x.2.1, ()) }

theorem twE_zero {a b : CL} (h : twE a b = 0) : lE a = 0 ∧ lE b = 0 := by
  unfold twE at h
  split at h
  · rename_i h1; exact ⟨h1, h⟩
  · rename_i h1; exact absurd h h1

/-- Swept -/
theorem h72 : Ok 15 sSwept := by
  refine mk (ctr := [(36, sTwoL), (38, sTimes), (37, sPlus), (30, sTold)]) ⟨h133, h134, h122, h93n, trivial⟩ (nt := 70) Tryd.func15 rfl rfl rfl rfl (by kernel_rfl) (by kernel_rfl) (fun x => [fun _ => { σ := Nat, pat := fun i => [sI 37 i] ++ rOwn 10 34 69 PairT (tab (swG (lP x.1) (lP x.2.1) i 0) (swN (lP x.1) (lP x.2.1))), inv := fun i => i ≤ List.length (α := IP) (lP x.1), meas := fun i => List.length (α := IP) (lP x.1) - i }, fun st => withI 37 st fun i => { σ := Nat, pat := fun k => [sI 44 k] ++ rOwn 10 34 69 PairT (tab (swG (lP x.1) (lP x.2.1) i.toNat k) (swN (lP x.1) (lP x.2.1))), inv := fun k => k ≤ List.length (α := IP) (lP x.2.1), meas := fun k => List.length (α := IP) (lP x.2.1) - k }]) ?_
  rintro ⟨(a : CL), (b : CL), _⟩ _
  by_cases h : twE a b = 0
  · obtain ⟨ha, hb⟩ := twE_zero h
    have hla := lP_len ha
    have hlb := lP_len hb
    have hla2 := lE_ok ha
    have hlb2 := lE_ok hb
    have hoa := lP_okL ha
    have hob := lP_okL hb
    have ht : twL a b = lP b := by unfold twL; rw [if_pos ha]
    have hN : ((lP a).length : Int) + ((lP b).length : Int) - 1 = (swN (lP a) (lP b) : Nat) := by unfold swN; omega
    have hNl : swN (lP a) (lP b) = (lP a).length + (lP b).length - 1 := rfl
    by_cases hn : 1024 < swN (lP a) (lP b)
    · have u : swE a b = 8 := by unfold swE; rw [if_pos h, if_pos hn]
      have v : swR a b = [] := by unfold swR; rw [if_pos h, if_pos hn]
      repeat' (intro hzz; (try (rename Two => hq; cases hq)); (try dsimp only at hzz); (try simp only [resTy, argTy, eqD, inR, big, wantOf, Bool.not_true, Bool.not_false, Bool.true_eq, decide_eq_true_eq, decide_eq_false_iff_not, Bool.not_eq_true', Bool.not_eq_false', Bool.and_eq_true, Prod.mk.injEq, and_true, true_and, Int.not_lt, Int.not_le, gt_iff_lt, ge_iff_le] at hzz); (try simp only [resTy, argTy, eqD, inR, big, wantOf, Bool.not_true, Bool.not_false, Bool.true_eq, decide_eq_true_eq, decide_eq_false_iff_not, Bool.not_eq_true', Bool.not_eq_false', Bool.and_eq_true, Prod.mk.injEq, and_true, true_and, Int.not_lt, Int.not_le, gt_iff_lt, ge_iff_le, h, ht, hN, u, v] at hzz); (try (first | contradiction | (exfalso; omega))); (try (revert hzz; intro _)))
      all_goals try (rename Unit => hq; clear hq)
      all_goals try ((with_reducible refine Held.mk ?_); (with_reducible (first | refine Frz.mk ?_ | refine And.intro (Frz.mk ?_) ?_ | refine And.intro ?_ (Frz.mk ?_))); repeat' first | exact True.intro | (change _ = _; with_reducible rfl) | refine And.intro ?_ ?_ | (with_reducible refine Frz.mk ?_))
      all_goals try (refine Held.mk ?_; (try dsimp only at *); (try simp only [resTy, argTy, eqD, inR, big, wantOf, Bool.not_true, Bool.not_false, Bool.true_eq, decide_eq_true_eq, decide_eq_false_iff_not, Bool.not_eq_true', Bool.not_eq_false', Bool.and_eq_true, Prod.mk.injEq, and_true, true_and, Int.not_lt, Int.not_le, gt_iff_lt, ge_iff_le] at *); (try simp only [resTy, argTy, eqD, inR, big, wantOf, Bool.not_true, Bool.not_false, Bool.true_eq, decide_eq_true_eq, decide_eq_false_iff_not, Bool.not_eq_true', Bool.not_eq_false', Bool.and_eq_true, Prod.mk.injEq, and_true, true_and, Int.not_lt, Int.not_le, gt_iff_lt, ge_iff_le, h, ht, hN, u, v] at *))
      all_goals try omega
    · have u : swE a b = tE (swL (lP a) (lP b)) := by unfold swE; rw [if_pos h, if_neg hn]
      have v : swR a b = tL (swL (lP a) (lP b)) := by unfold swR; rw [if_pos h, if_neg hn]
      have hik : ∀ i k : Nat, ((i : Int) + (k : Int)).toNat = i + k := fun i k => by omega
      have e0 : repl (((lP a).length : Int) + ((twL a b).length : Int) - 1) ((0 : Int), (0 : Int), ()) = tab (swG (lP a) (lP b) 0 0) (swN (lP a) (lP b)) := by rw [ht, hN]; exact swG_zero _ _ _
      have e1 : (repl (((lP a).length : Int) + ((twL a b).length : Int) - 1) ((0 : Int), (0 : Int), ())).length = swN (lP a) (lP b) := by rw [e0]; exact tab_len _ _
      have hso := fun (i k : Nat) (hi : i ≤ 1024) => swG_ok (i := i) (k := k) (n := swN (lP a) (lP b)) hoa hob hi
      repeat' (intro hzz; (try (rename Two => hq; cases hq)); (try dsimp only at hzz); (try simp only [resTy, argTy, eqD, inR, big, wantOf, Bool.not_true, Bool.not_false, Bool.true_eq, decide_eq_true_eq, decide_eq_false_iff_not, Bool.not_eq_true', Bool.not_eq_false', Bool.and_eq_true, Prod.mk.injEq, and_true, true_and, Int.not_lt, Int.not_le, gt_iff_lt, ge_iff_le] at hzz); (try simp only [resTy, argTy, eqD, inR, big, wantOf, Bool.not_true, Bool.not_false, Bool.true_eq, decide_eq_true_eq, decide_eq_false_iff_not, Bool.not_eq_true', Bool.not_eq_false', Bool.and_eq_true, Prod.mk.injEq, and_true, true_and, Int.not_lt, Int.not_le, gt_iff_lt, ge_iff_le, h, ht, hN, u, v, tab_len, getD_p, hik, Int.toNat_natCast] at hzz); (try (first | contradiction | (exfalso; omega))); (try (revert hzz; intro _)))
      all_goals try (rename Unit => hq; clear hq)
      all_goals try ((with_reducible refine Held.mk ?_); (with_reducible (first | refine Frz.mk ?_ | refine And.intro (Frz.mk ?_) ?_ | refine And.intro ?_ (Frz.mk ?_))); repeat' first | exact True.intro | (change _ = _; with_reducible rfl) | refine And.intro ?_ ?_ | (with_reducible refine Frz.mk ?_))
      all_goals try (refine Held.mk ?_; (try dsimp only at *); (try simp only [resTy, argTy, eqD, inR, big, wantOf, Bool.not_true, Bool.not_false, Bool.true_eq, decide_eq_true_eq, decide_eq_false_iff_not, Bool.not_eq_true', Bool.not_eq_false', Bool.and_eq_true, Prod.mk.injEq, and_true, true_and, Int.not_lt, Int.not_le, gt_iff_lt, ge_iff_le] at *); (try simp only [resTy, argTy, eqD, inR, big, wantOf, Bool.not_true, Bool.not_false, Bool.true_eq, decide_eq_true_eq, decide_eq_false_iff_not, Bool.not_eq_true', Bool.not_eq_false', Bool.and_eq_true, Prod.mk.injEq, and_true, true_and, Int.not_lt, Int.not_le, gt_iff_lt, ge_iff_le, h, ht, hN, u, v, tab_len, getD_p, hik, Int.toNat_natCast] at *))
      all_goals try omega
      · 
        refine GHeld.mk ?_
        refine Exists.intro 0 ?_
        refine And.intro (Leaf.mk ?_) ?_
        · repeat' first | exact True.intro | refine And.intro ?_ ?_
          all_goals try ((change _ = _ <;> try dsimp only) <;> try with_reducible rfl)
          all_goals try omega
          all_goals (first | exact e0 | exact congrArg List.length e0)
        exact Nat.zero_le _
      · rename_i i hi hlt
        refine GHeld.mk ?_
        refine Exists.intro 0 ?_
        refine And.intro (Leaf.mk ?_) ?_
        · repeat' first | exact True.intro | refine And.intro ?_ ?_
          all_goals try ((change _ = _ <;> try dsimp only) <;> try with_reducible rfl)
          all_goals try omega
          all_goals (rfl)
        exact Nat.zero_le _
      · rename_i i hi hlt k hk hlk
        exact okT_24 (okL_inBP hoa i) (okL_inBP hob k)
      · rename_i i hi hlt k hk hlk
        have b1 := hso i k (by omega) (i + k)
        have b2 := timesP_in (okL_inBP hoa i) (okL_inBP hob k)
        exact ⟨by show okI ((tab (swG (lP a) (lP b) i k) (swN (lP a) (lP b))).getD (i + k) (0, 0, ())).1; unfold okI; omega, by show okI ((tab (swG (lP a) (lP b) i k) (swN (lP a) (lP b))).getD (i + k) (0, 0, ())).2.1; unfold okI; omega, okI_le b2.1 (by decide), okI_le b2.2 (by decide)⟩
      · rename_i i hi hlt k hk hlk
        have e : (tab (swG (lP a) (lP b) i k) (swN (lP a) (lP b))).set ((i : Int) + (k : Int)).toNat (plusP ((tab (swG (lP a) (lP b) i k) (swN (lP a) (lP b))).getD ((i : Int) + (k : Int)).toNat (0, 0, ())) (timesP ((lP a).getD i (0, 0, ())) ((twL a b).getD k (0, 0, ())))) = tab (swG (lP a) (lP b) i (k + 1)) (swN (lP a) (lP b)) := by
          rw [show twL a b = lP b by unfold twL; rw [if_pos ha], show ((i : Int) + (k : Int)).toNat = i + k by omega]
          exact swG_step (by omega)
        refine GHeld.mk ?_
        refine Exists.intro (k + 1) ?_
        refine And.intro (Leaf.mk ?_) ?_
        · repeat' first | exact True.intro | refine And.intro ?_ ?_
          all_goals try ((change _ = _ <;> try dsimp only) <;> try with_reducible rfl)
          all_goals try omega
          all_goals (first | exact e | exact (tab_len _ _).trans (tab_len _ _).symm | rfl)
        exact ⟨by show k + 1 ≤ (lP b).length; omega, by show (lP b).length - (k + 1) < (lP b).length - k; omega⟩
      · rename_i i hi hlt k hk hge
        have e : tab (swG (lP a) (lP b) i k) (swN (lP a) (lP b)) = tab (swG (lP a) (lP b) (i + 1) 0) (swN (lP a) (lP b)) := by
          rw [show k = (lP b).length by omega]; exact swG_next _ _ _ _
        refine GHeld.mk ?_
        refine Exists.intro (i + 1) ?_
        refine And.intro (Leaf.mk ?_) ?_
        · repeat' first | exact True.intro | refine And.intro ?_ ?_
          all_goals try ((change _ = _ <;> try dsimp only) <;> try with_reducible rfl)
          all_goals try omega
          all_goals (first | exact e | exact congrArg List.length e | rfl)
        exact ⟨by show i + 1 ≤ (lP a).length; omega, by show (lP a).length - (i + 1) < (lP a).length - i; omega⟩
      · rename_i i hi hge
        exact e1.trans (tab_len _ _).symm
      · rename_i i hi hge
        rw [show i = (lP a).length by omega, swG_all]; exact ⟨rfl, rfl⟩
  · have u : swE a b = twE a b := by unfold swE; rw [if_neg h]
    have v : swR a b = [] := by unfold swR; rw [if_neg h]
    repeat' (intro hzz; (try (rename Two => hq; cases hq)); (try dsimp only at hzz); (try simp only [resTy, argTy, eqD, inR, big, wantOf, Bool.not_true, Bool.not_false, Bool.true_eq, decide_eq_true_eq, decide_eq_false_iff_not, Bool.not_eq_true', Bool.not_eq_false', Bool.and_eq_true, Prod.mk.injEq, and_true, true_and, Int.not_lt, Int.not_le, gt_iff_lt, ge_iff_le] at hzz); (try simp only [resTy, argTy, eqD, inR, big, wantOf, Bool.not_true, Bool.not_false, Bool.true_eq, decide_eq_true_eq, decide_eq_false_iff_not, Bool.not_eq_true', Bool.not_eq_false', Bool.and_eq_true, Prod.mk.injEq, and_true, true_and, Int.not_lt, Int.not_le, gt_iff_lt, ge_iff_le, u, v] at hzz); (try (first | contradiction | (exfalso; omega))); (try (revert hzz; intro _)))
    all_goals try (rename Unit => hq; clear hq)
    all_goals try ((with_reducible refine Held.mk ?_); (with_reducible (first | refine Frz.mk ?_ | refine And.intro (Frz.mk ?_) ?_ | refine And.intro ?_ (Frz.mk ?_))); repeat' first | exact True.intro | (change _ = _; with_reducible rfl) | refine And.intro ?_ ?_ | (with_reducible refine Frz.mk ?_))
    all_goals try (refine Held.mk ?_; (try dsimp only at *); (try simp only [resTy, argTy, eqD, inR, big, wantOf, Bool.not_true, Bool.not_false, Bool.true_eq, decide_eq_true_eq, decide_eq_false_iff_not, Bool.not_eq_true', Bool.not_eq_false', Bool.and_eq_true, Prod.mk.injEq, and_true, true_and, Int.not_lt, Int.not_le, gt_iff_lt, ge_iff_le] at *); (try simp only [resTy, argTy, eqD, inR, big, wantOf, Bool.not_true, Bool.not_false, Bool.true_eq, decide_eq_true_eq, decide_eq_false_iff_not, Bool.not_eq_true', Bool.not_eq_false', Bool.and_eq_true, Prod.mk.injEq, and_true, true_and, Int.not_lt, Int.not_le, gt_iff_lt, ge_iff_le, u, v] at *))
    all_goals try omega

end Go.Eng.Pu
