/- Chirps, of the program and of the reference; the law PulseChirps as a contract. Conditions: the variable turns holds what its text lays. -/
import Derived.Test.YtcoimlnplaidiaaDoorD0
import Derived.Test.YtcoimlnplaidiaaDoorQ53
import Derived.Test.YtcoimlnplaidiaaDoorQ16
import Derived.Test.YtcoimlnplaidiaaDoorQ46
import Derived.Test.YtcoimlnplaidiaaDoorQ32
namespace Go.Eng.Pu
open Go.Eng Go.Proofs
set_option linter.all false
set_option maxRecDepth 100000
set_option maxHeartbeats 8000000

/-- The sum of t / slow for all t below k. -/
def qC (slow : Int) (k : Nat) : Int := sm (fun t => (t : Int).tdiv slow) k
theorem qC_in {slow : Int} (h : 1 ≤ slow) : ∀ k : Nat, k ≤ 1024 → 0 ≤ qC slow k ∧ qC slow k ≤ k * 1024
  | 0, _ => by simp [qC, sm]
  | k + 1, hk => by
    have a := qC_in h k (by omega)
    have b : 0 ≤ (k : Int).tdiv slow ∧ (k : Int).tdiv slow ≤ k := by
      rw [Int.tdiv_eq_ediv_of_nonneg (by omega)]
      exact ⟨Int.ediv_nonneg (by omega) (by omega), Int.ediv_le_self _ (by omega)⟩
    have e : qC slow (k + 1) = qC slow k + (k : Int).tdiv slow := rfl
    rw [e]
    omega

def chP (slow : Int) (k : Nat) : IP := qrt (qC slow (k + 1))
def chL' (count slow : Int) : List IP := tab (chP slow) count.toNat
def chOk (count slow : Int) : Bool := decide (1 ≤ count ∧ count ≤ 1024) && decide (1 ≤ slow ∧ slow ≤ 1000)
def chE (count slow : Int) : Int := if chOk count slow = true then 0 else 2
def chR (count slow : Int) : CL := if chOk count slow = true then tL (chL' count slow) else []

theorem qrt_fit (n : Int) : inBP 1 (qrt n) := by
  unfold qrt
  have key : ∀ i : Nat, inBP 1 (qL.getD i (0, 0, ())) := fun i => by
    match i with
    | 0 => exact ⟨⟨by decide, by decide⟩, ⟨by decide, by decide⟩⟩
    | 1 => exact ⟨⟨by decide, by decide⟩, ⟨by decide, by decide⟩⟩
    | 2 => exact ⟨⟨by decide, by decide⟩, ⟨by decide, by decide⟩⟩
    | 3 => exact ⟨⟨by decide, by decide⟩, ⟨by decide, by decide⟩⟩
    | i + 4 => exact (show inBP 1 ((0 : Int), (0 : Int), ()) from ⟨⟨by decide, by decide⟩, ⟨by decide, by decide⟩⟩)
  exact key _

theorem chL_ok (count slow : Int) : okL 1 (chL' count slow) := okL_tab (by decide) fun k _ => qrt_fit _
theorem chL_fit (count slow : Int) : allFit (chL' count slow) = true := by
  unfold allFit
  rw [List.all_eq_true]
  intro p hp
  obtain ⟨j, hj, e⟩ := List.mem_iff_getElem.1 hp
  have := chL_ok count slow j
  rw [List.getD_eq_getElem?_getD, List.getElem?_eq_getElem hj, Option.getD_some, e] at this
  show (fRec p.1 && fRec p.2.1) = true
  rw [show fRec p.1 = true from decide_eq_true ⟨by omega, by omega⟩, show fRec p.2.1 = true from decide_eq_true ⟨by omega, by omega⟩]; rfl
theorem chE_told {count slow : Int} : tE (chL' count slow) = 0 := by unfold tE; rw [if_pos (chL_fit count slow)]
theorem chR_ok (count slow : Int) : okC (chR count slow) := by unfold chR; split; exact tL_ok _; exact okC_nil

@[reducible] def sChirp : Spec := { pats := [.dat I64, .dat I64, .gl 0 TurnT], res := [{ own := some 48, t := .sl C64 }, { t := I64 }], pre := fun x => x.2.2.1 = turnsD, f := fun x => (chR x.1 x.2.1, chE x.1 x.2.1, ()) }

/-- Chirp -/
theorem h7d : Ok 7 sChirp := by
  refine mk (ctr := [(28, sPeriod), (29, sWithin), (30, sTold)]) ⟨h108, h86, h93n, trivial⟩ (nt := 38) Tryd.func7 rfl rfl rfl rfl (by kernel_rfl) (by kernel_rfl) (fun x => [fun _ => { σ := Nat, pat := fun k => [sI 18 k, sI 7 (qC x.2.1 k)] ++ rOwn 6 60006 69 PairT (tab (chP x.2.1) k), inv := fun k => k ≤ x.1.toNat, meas := fun k => x.1.toNat - k }]) ?_
  rintro ⟨(c : Int), (s : Int), t, _⟩ ht
  have ht : t = turnsD := ht
  subst ht
  by_cases hc : 1 ≤ c ∧ c ≤ 1024
  · by_cases hs : 1 ≤ s ∧ s ≤ 1000
    · have ho : chOk c s = true := by unfold chOk; rw [decide_eq_true hc, decide_eq_true hs]; rfl
      have u : chE c s = 0 := by unfold chE; rw [if_pos ho]
      have v : chR c s = tL (chL' c s) := by unfold chR; rw [if_pos ho]
      have dv : ∀ k : Nat, 0 ≤ (k : Int).tdiv s ∧ (k : Int).tdiv s ≤ k := fun k => by
        rw [Int.tdiv_eq_ediv_of_nonneg (by omega)]
        exact ⟨Int.ediv_nonneg (by omega) (by omega), Int.ediv_le_self _ (by omega)⟩
      repeat' (intro hzz; (try (rename Two => hq; cases hq)); (try dsimp only at hzz); (try simp only [resTy, argTy, eqD, inR, big, wantOf, Bool.not_true, Bool.not_false, Bool.true_eq, decide_eq_true_eq, decide_eq_false_iff_not, Bool.not_eq_true', Bool.not_eq_false', Bool.and_eq_true, Prod.mk.injEq, and_true, true_and, Int.not_lt, Int.not_le, gt_iff_lt, ge_iff_le] at hzz); (try simp only [resTy, argTy, eqD, inR, big, wantOf, Bool.not_true, Bool.not_false, Bool.true_eq, decide_eq_true_eq, decide_eq_false_iff_not, Bool.not_eq_true', Bool.not_eq_false', Bool.and_eq_true, Prod.mk.injEq, and_true, true_and, Int.not_lt, Int.not_le, gt_iff_lt, ge_iff_le, u, v] at hzz); (try (first | contradiction | (exfalso; omega))); (try (revert hzz; intro _)))
      all_goals try (rename Unit => hq; clear hq)
      all_goals try ((with_reducible refine Held.mk ?_); (with_reducible (first | refine Frz.mk ?_ | refine And.intro (Frz.mk ?_) ?_ | refine And.intro ?_ (Frz.mk ?_))); repeat' first | exact True.intro | (change _ = _; with_reducible rfl) | refine And.intro ?_ ?_ | (with_reducible refine Frz.mk ?_))
      all_goals try (refine Held.mk ?_; (try dsimp only at *); (try simp only [resTy, argTy, eqD, inR, big, wantOf, Bool.not_true, Bool.not_false, Bool.true_eq, decide_eq_true_eq, decide_eq_false_iff_not, Bool.not_eq_true', Bool.not_eq_false', Bool.and_eq_true, Prod.mk.injEq, and_true, true_and, Int.not_lt, Int.not_le, gt_iff_lt, ge_iff_le] at *); (try simp only [resTy, argTy, eqD, inR, big, wantOf, Bool.not_true, Bool.not_false, Bool.true_eq, decide_eq_true_eq, decide_eq_false_iff_not, Bool.not_eq_true', Bool.not_eq_false', Bool.and_eq_true, Prod.mk.injEq, and_true, true_and, Int.not_lt, Int.not_le, gt_iff_lt, ge_iff_le, u, v] at *))
      all_goals try omega
      · 
        refine GHeld.mk ?_
        refine Exists.intro 0 ?_
        refine And.intro (Leaf.mk ?_) ?_
        · repeat' first | exact True.intro | refine And.intro ?_ ?_
          all_goals try ((change _ = _ <;> try dsimp only) <;> try with_reducible rfl)
          all_goals try omega
          all_goals (rfl)
        exact Nat.zero_le _
      · rename_i k hk hlt
        have := dv k
        exact ⟨by omega, (show (-9223372036854775808 : Int) ≤ (k : Int).tdiv s by omega), (show (k : Int).tdiv s ≤ (9223372036854775807 : Int) by omega)⟩
      · rename_i k hk hlt
        have := dv k
        have := qC_in hs.1 k (by omega)
        exact ⟨(show (-9223372036854775808 : Int) ≤ qC s k + (k : Int).tdiv s by omega), (show qC s k + (k : Int).tdiv s ≤ (9223372036854775807 : Int) by omega)⟩
      · rename_i k hk hlt
        have := dv k
        have := qC_in hs.1 k (by omega)
        rw [Int.tmod_eq_emod_of_nonneg (show (0 : Int) ≤ qC s k + (k : Int).tdiv s by omega)]
        exact ⟨Int.emod_nonneg _ (by decide), Int.emod_lt_of_pos _ (by decide)⟩
      · rename_i k hk hlt
        rw [tab_len]; show k + 1 ≤ 2147483648; omega
      · rename_i k hk hlt
        refine GHeld.mk ?_
        refine Exists.intro (k + 1) ?_
        refine And.intro (Leaf.mk ?_) ?_
        · repeat' first | exact True.intro | refine And.intro ?_ ?_
          all_goals try ((change _ = _ <;> try dsimp only) <;> try with_reducible rfl)
          all_goals try omega
          all_goals (rfl)
        exact ⟨by show k + 1 ≤ c.toNat; omega, by show c.toNat - (k + 1) < c.toNat - k; omega⟩
      · rename_i k hk hge
        rw [tab_len]; omega
      · rename_i k hk hge
        rw [show k = c.toNat by omega]
        exact ⟨rfl, chE_told⟩
    · have ho : chOk c s = false := by unfold chOk; rw [decide_eq_false hs, Bool.and_false]
      have u : chE c s = 2 := by unfold chE; rw [ho]; rfl
      have v : chR c s = [] := by unfold chR; rw [ho]; rfl
      repeat' (intro hzz; (try (rename Two => hq; cases hq)); (try dsimp only at hzz); (try simp only [resTy, argTy, eqD, inR, big, wantOf, Bool.not_true, Bool.not_false, Bool.true_eq, decide_eq_true_eq, decide_eq_false_iff_not, Bool.not_eq_true', Bool.not_eq_false', Bool.and_eq_true, Prod.mk.injEq, and_true, true_and, Int.not_lt, Int.not_le, gt_iff_lt, ge_iff_le] at hzz); (try simp only [resTy, argTy, eqD, inR, big, wantOf, Bool.not_true, Bool.not_false, Bool.true_eq, decide_eq_true_eq, decide_eq_false_iff_not, Bool.not_eq_true', Bool.not_eq_false', Bool.and_eq_true, Prod.mk.injEq, and_true, true_and, Int.not_lt, Int.not_le, gt_iff_lt, ge_iff_le, u, v] at hzz); (try (first | contradiction | (exfalso; omega))); (try (revert hzz; intro _)))
      all_goals try (rename Unit => hq; clear hq)
      all_goals try ((with_reducible refine Held.mk ?_); (with_reducible (first | refine Frz.mk ?_ | refine And.intro (Frz.mk ?_) ?_ | refine And.intro ?_ (Frz.mk ?_))); repeat' first | exact True.intro | (change _ = _; with_reducible rfl) | refine And.intro ?_ ?_ | (with_reducible refine Frz.mk ?_))
      all_goals try (refine Held.mk ?_; (try dsimp only at *); (try simp only [resTy, argTy, eqD, inR, big, wantOf, Bool.not_true, Bool.not_false, Bool.true_eq, decide_eq_true_eq, decide_eq_false_iff_not, Bool.not_eq_true', Bool.not_eq_false', Bool.and_eq_true, Prod.mk.injEq, and_true, true_and, Int.not_lt, Int.not_le, gt_iff_lt, ge_iff_le] at *); (try simp only [resTy, argTy, eqD, inR, big, wantOf, Bool.not_true, Bool.not_false, Bool.true_eq, decide_eq_true_eq, decide_eq_false_iff_not, Bool.not_eq_true', Bool.not_eq_false', Bool.and_eq_true, Prod.mk.injEq, and_true, true_and, Int.not_lt, Int.not_le, gt_iff_lt, ge_iff_le, u, v] at *))
      all_goals try omega
  · have ho : chOk c s = false := by unfold chOk; rw [decide_eq_false hc, Bool.false_and]
    have u : chE c s = 2 := by unfold chE; rw [ho]; rfl
    have v : chR c s = [] := by unfold chR; rw [ho]; rfl
    repeat' (intro hzz; (try (rename Two => hq; cases hq)); (try dsimp only at hzz); (try simp only [resTy, argTy, eqD, inR, big, wantOf, Bool.not_true, Bool.not_false, Bool.true_eq, decide_eq_true_eq, decide_eq_false_iff_not, Bool.not_eq_true', Bool.not_eq_false', Bool.and_eq_true, Prod.mk.injEq, and_true, true_and, Int.not_lt, Int.not_le, gt_iff_lt, ge_iff_le] at hzz); (try simp only [resTy, argTy, eqD, inR, big, wantOf, Bool.not_true, Bool.not_false, Bool.true_eq, decide_eq_true_eq, decide_eq_false_iff_not, Bool.not_eq_true', Bool.not_eq_false', Bool.and_eq_true, Prod.mk.injEq, and_true, true_and, Int.not_lt, Int.not_le, gt_iff_lt, ge_iff_le, u, v] at hzz); (try (first | contradiction | (exfalso; omega))); (try (revert hzz; intro _)))
    all_goals try (rename Unit => hq; clear hq)
    all_goals try ((with_reducible refine Held.mk ?_); (with_reducible (first | refine Frz.mk ?_ | refine And.intro (Frz.mk ?_) ?_ | refine And.intro ?_ (Frz.mk ?_))); repeat' first | exact True.intro | (change _ = _; with_reducible rfl) | refine And.intro ?_ ?_ | (with_reducible refine Frz.mk ?_))
    all_goals try (refine Held.mk ?_; (try dsimp only at *); (try simp only [resTy, argTy, eqD, inR, big, wantOf, Bool.not_true, Bool.not_false, Bool.true_eq, decide_eq_true_eq, decide_eq_false_iff_not, Bool.not_eq_true', Bool.not_eq_false', Bool.and_eq_true, Prod.mk.injEq, and_true, true_and, Int.not_lt, Int.not_le, gt_iff_lt, ge_iff_le] at *); (try simp only [resTy, argTy, eqD, inR, big, wantOf, Bool.not_true, Bool.not_false, Bool.true_eq, decide_eq_true_eq, decide_eq_false_iff_not, Bool.not_eq_true', Bool.not_eq_false', Bool.and_eq_true, Prod.mk.injEq, and_true, true_and, Int.not_lt, Int.not_le, gt_iff_lt, ge_iff_le, u, v] at *))
    all_goals try omega

/-- ref.Chirp -/
@[reducible] def sChirpR : Spec := { pats := [.dat I64, .dat I64], res := [{ own := some 48, t := .sl C64 }, { t := I64 }], pre := fun _ => True, f := fun x => (chR x.1 x.2.1, chE x.1 x.2.1, ()) }
theorem h8d : Ok 8 sChirpR := by
  refine mk (ctr := [(13, sWithin), (31, sQuart), (32, sToldR)]) ⟨h25, h140, h97n, trivial⟩ (nt := 36) Tryd.func8 rfl rfl rfl rfl (by kernel_rfl) (by kernel_rfl) (fun x => [fun _ => { σ := Nat, pat := fun k => [sI 8 k, sI 7 (qC x.2.1 k)] ++ rOwn 6 60006 37 PairT (tab (chP x.2.1) k), inv := fun k => k ≤ x.1.toNat, meas := fun k => x.1.toNat - k }]) ?_
  rintro ⟨(c : Int), (s : Int), _⟩ _
  by_cases hc : 1 ≤ c ∧ c ≤ 1024
  · by_cases hs : 1 ≤ s ∧ s ≤ 1000
    · have ho : chOk c s = true := by unfold chOk; rw [decide_eq_true hc, decide_eq_true hs]; rfl
      have u : chE c s = 0 := by unfold chE; rw [if_pos ho]
      have v : chR c s = tL (chL' c s) := by unfold chR; rw [if_pos ho]
      have dv : ∀ k : Nat, 0 ≤ (k : Int).tdiv s ∧ (k : Int).tdiv s ≤ k := fun k => by
        rw [Int.tdiv_eq_ediv_of_nonneg (by omega)]
        exact ⟨Int.ediv_nonneg (by omega) (by omega), Int.ediv_le_self _ (by omega)⟩
      repeat' (intro hzz; (try (rename Two => hq; cases hq)); (try dsimp only at hzz); (try simp only [resTy, argTy, eqD, inR, big, wantOf, Bool.not_true, Bool.not_false, Bool.true_eq, decide_eq_true_eq, decide_eq_false_iff_not, Bool.not_eq_true', Bool.not_eq_false', Bool.and_eq_true, Prod.mk.injEq, and_true, true_and, Int.not_lt, Int.not_le, gt_iff_lt, ge_iff_le] at hzz); (try simp only [resTy, argTy, eqD, inR, big, wantOf, Bool.not_true, Bool.not_false, Bool.true_eq, decide_eq_true_eq, decide_eq_false_iff_not, Bool.not_eq_true', Bool.not_eq_false', Bool.and_eq_true, Prod.mk.injEq, and_true, true_and, Int.not_lt, Int.not_le, gt_iff_lt, ge_iff_le, u, v] at hzz); (try (first | contradiction | (exfalso; omega))); (try (revert hzz; intro _)))
      all_goals try (rename Unit => hq; clear hq)
      all_goals try ((with_reducible refine Held.mk ?_); (with_reducible (first | refine Frz.mk ?_ | refine And.intro (Frz.mk ?_) ?_ | refine And.intro ?_ (Frz.mk ?_))); repeat' first | exact True.intro | (change _ = _; with_reducible rfl) | refine And.intro ?_ ?_ | (with_reducible refine Frz.mk ?_))
      all_goals try (refine Held.mk ?_; (try dsimp only at *); (try simp only [resTy, argTy, eqD, inR, big, wantOf, Bool.not_true, Bool.not_false, Bool.true_eq, decide_eq_true_eq, decide_eq_false_iff_not, Bool.not_eq_true', Bool.not_eq_false', Bool.and_eq_true, Prod.mk.injEq, and_true, true_and, Int.not_lt, Int.not_le, gt_iff_lt, ge_iff_le] at *); (try simp only [resTy, argTy, eqD, inR, big, wantOf, Bool.not_true, Bool.not_false, Bool.true_eq, decide_eq_true_eq, decide_eq_false_iff_not, Bool.not_eq_true', Bool.not_eq_false', Bool.and_eq_true, Prod.mk.injEq, and_true, true_and, Int.not_lt, Int.not_le, gt_iff_lt, ge_iff_le, u, v] at *))
      all_goals try omega
      · 
        refine GHeld.mk ?_
        refine Exists.intro 0 ?_
        refine And.intro (Leaf.mk ?_) ?_
        · repeat' first | exact True.intro | refine And.intro ?_ ?_
          all_goals try ((change _ = _ <;> try dsimp only) <;> try with_reducible rfl)
          all_goals try omega
          all_goals (rfl)
        exact Nat.zero_le _
      · rename_i k hk hlt
        have := dv k
        exact ⟨by omega, (show (-9223372036854775808 : Int) ≤ (k : Int).tdiv s by omega), (show (k : Int).tdiv s ≤ (9223372036854775807 : Int) by omega)⟩
      · rename_i k hk hlt
        have := dv k
        have := qC_in hs.1 k (by omega)
        exact ⟨(show (-9223372036854775808 : Int) ≤ qC s k + (k : Int).tdiv s by omega), (show qC s k + (k : Int).tdiv s ≤ (9223372036854775807 : Int) by omega)⟩
      · rename_i k hk hlt
        have := dv k
        have := qC_in hs.1 k (by omega)
        exact (show (0 : Int) ≤ qC s k + (k : Int).tdiv s by omega)
      · rename_i k hk hlt
        rw [tab_len]; show k + 1 ≤ 2147483648; omega
      · rename_i k hk hlt
        refine GHeld.mk ?_
        refine Exists.intro (k + 1) ?_
        refine And.intro (Leaf.mk ?_) ?_
        · repeat' first | exact True.intro | refine And.intro ?_ ?_
          all_goals try ((change _ = _ <;> try dsimp only) <;> try with_reducible rfl)
          all_goals try omega
          all_goals (rfl)
        exact ⟨by show k + 1 ≤ c.toNat; omega, by show c.toNat - (k + 1) < c.toNat - k; omega⟩
      · rename_i k hk hge
        have e : tab (chP s) k = chL' c s := by rw [show k = c.toNat by omega]; rfl
        rw [e]
        exact ⟨by show (chL' c s).length ≤ _; unfold chL'; rw [tab_len]; omega, okL_mono (chL_ok c s) (by decide)⟩
      · rename_i k hk hge
        rw [show k = c.toNat by omega]
        exact ⟨rfl, chE_told⟩
    · have ho : chOk c s = false := by unfold chOk; rw [decide_eq_false hs, Bool.and_false]
      have u : chE c s = 2 := by unfold chE; rw [ho]; rfl
      have v : chR c s = [] := by unfold chR; rw [ho]; rfl
      repeat' (intro hzz; (try (rename Two => hq; cases hq)); (try dsimp only at hzz); (try simp only [resTy, argTy, eqD, inR, big, wantOf, Bool.not_true, Bool.not_false, Bool.true_eq, decide_eq_true_eq, decide_eq_false_iff_not, Bool.not_eq_true', Bool.not_eq_false', Bool.and_eq_true, Prod.mk.injEq, and_true, true_and, Int.not_lt, Int.not_le, gt_iff_lt, ge_iff_le] at hzz); (try simp only [resTy, argTy, eqD, inR, big, wantOf, Bool.not_true, Bool.not_false, Bool.true_eq, decide_eq_true_eq, decide_eq_false_iff_not, Bool.not_eq_true', Bool.not_eq_false', Bool.and_eq_true, Prod.mk.injEq, and_true, true_and, Int.not_lt, Int.not_le, gt_iff_lt, ge_iff_le, u, v] at hzz); (try (first | contradiction | (exfalso; omega))); (try (revert hzz; intro _)))
      all_goals try (rename Unit => hq; clear hq)
      all_goals try ((with_reducible refine Held.mk ?_); (with_reducible (first | refine Frz.mk ?_ | refine And.intro (Frz.mk ?_) ?_ | refine And.intro ?_ (Frz.mk ?_))); repeat' first | exact True.intro | (change _ = _; with_reducible rfl) | refine And.intro ?_ ?_ | (with_reducible refine Frz.mk ?_))
      all_goals try (refine Held.mk ?_; (try dsimp only at *); (try simp only [resTy, argTy, eqD, inR, big, wantOf, Bool.not_true, Bool.not_false, Bool.true_eq, decide_eq_true_eq, decide_eq_false_iff_not, Bool.not_eq_true', Bool.not_eq_false', Bool.and_eq_true, Prod.mk.injEq, and_true, true_and, Int.not_lt, Int.not_le, gt_iff_lt, ge_iff_le] at *); (try simp only [resTy, argTy, eqD, inR, big, wantOf, Bool.not_true, Bool.not_false, Bool.true_eq, decide_eq_true_eq, decide_eq_false_iff_not, Bool.not_eq_true', Bool.not_eq_false', Bool.and_eq_true, Prod.mk.injEq, and_true, true_and, Int.not_lt, Int.not_le, gt_iff_lt, ge_iff_le, u, v] at *))
      all_goals try omega
  · have ho : chOk c s = false := by unfold chOk; rw [decide_eq_false hc, Bool.false_and]
    have u : chE c s = 2 := by unfold chE; rw [ho]; rfl
    have v : chR c s = [] := by unfold chR; rw [ho]; rfl
    repeat' (intro hzz; (try (rename Two => hq; cases hq)); (try dsimp only at hzz); (try simp only [resTy, argTy, eqD, inR, big, wantOf, Bool.not_true, Bool.not_false, Bool.true_eq, decide_eq_true_eq, decide_eq_false_iff_not, Bool.not_eq_true', Bool.not_eq_false', Bool.and_eq_true, Prod.mk.injEq, and_true, true_and, Int.not_lt, Int.not_le, gt_iff_lt, ge_iff_le] at hzz); (try simp only [resTy, argTy, eqD, inR, big, wantOf, Bool.not_true, Bool.not_false, Bool.true_eq, decide_eq_true_eq, decide_eq_false_iff_not, Bool.not_eq_true', Bool.not_eq_false', Bool.and_eq_true, Prod.mk.injEq, and_true, true_and, Int.not_lt, Int.not_le, gt_iff_lt, ge_iff_le, u, v] at hzz); (try (first | contradiction | (exfalso; omega))); (try (revert hzz; intro _)))
    all_goals try (rename Unit => hq; clear hq)
    all_goals try ((with_reducible refine Held.mk ?_); (with_reducible (first | refine Frz.mk ?_ | refine And.intro (Frz.mk ?_) ?_ | refine And.intro ?_ (Frz.mk ?_))); repeat' first | exact True.intro | (change _ = _; with_reducible rfl) | refine And.intro ?_ ?_ | (with_reducible refine Frz.mk ?_))
    all_goals try (refine Held.mk ?_; (try dsimp only at *); (try simp only [resTy, argTy, eqD, inR, big, wantOf, Bool.not_true, Bool.not_false, Bool.true_eq, decide_eq_true_eq, decide_eq_false_iff_not, Bool.not_eq_true', Bool.not_eq_false', Bool.and_eq_true, Prod.mk.injEq, and_true, true_and, Int.not_lt, Int.not_le, gt_iff_lt, ge_iff_le] at *); (try simp only [resTy, argTy, eqD, inR, big, wantOf, Bool.not_true, Bool.not_false, Bool.true_eq, decide_eq_true_eq, decide_eq_false_iff_not, Bool.not_eq_true', Bool.not_eq_false', Bool.and_eq_true, Prod.mk.injEq, and_true, true_and, Int.not_lt, Int.not_le, gt_iff_lt, ge_iff_le, u, v] at *))
    all_goals try omega

theorem chR_len {c s : Int} : (chR c s).length ≤ 2000000000 := by
  unfold chR chOk
  split
  · rename_i h
    rw [Bool.and_eq_true] at h
    have h1 := of_decide_eq_true h.1
    have := tL_len (chL' c s)
    have : (chL' c s).length = c.toNat := tab_len _ _
    omega
  · decide

@[reducible] def sLaw3d : Spec := { pats := [.gl 0 TurnT, .dat I64, .dat I64], res := [{ t := .bool }], pre := fun x => x.1 = turnsD, f := fun _ => (true, ()) }

/-- PulseChirps -/
theorem h3d : Ok 3 sLaw3d := by
  refine mk (ctr := [(6, sAwake), (7, sChirp), (8, sChirpR), (9, sSameN)]) ⟨h17, h7d, h8d, h34n, trivial⟩ (nt := 37) Tryd.func3 rfl rfl rfl rfl (by kernel_rfl) (by kernel_rfl) (fun _ => []) ?_
  rintro ⟨t, (c : Int), (s : Int), _⟩ ht
  have ht : t = turnsD := ht
  subst ht
  have l1 : (chR c s).length ≤ 2000000000 := chR_len
  have o1 := chR_ok c s
  repeat' (intro hzz; (try (rename Two => hq; cases hq)); (try dsimp only at hzz); (try simp only [resTy, argTy, eqD, inR, big, wantOf, Bool.not_true, Bool.not_false, Bool.true_eq, decide_eq_true_eq, decide_eq_false_iff_not, Bool.not_eq_true', Bool.not_eq_false', Bool.and_eq_true, Prod.mk.injEq, and_true, true_and, Int.not_lt, Int.not_le, gt_iff_lt, ge_iff_le] at hzz); (try (first | contradiction | (exfalso; omega))); (try (revert hzz; intro _)))
  all_goals try (rename Unit => hq; clear hq)
  all_goals try ((with_reducible refine Held.mk ?_); (with_reducible (first | refine Frz.mk ?_ | refine And.intro (Frz.mk ?_) ?_ | refine And.intro ?_ (Frz.mk ?_))); repeat' first | exact True.intro | (change _ = _; with_reducible rfl) | refine And.intro ?_ ?_ | (with_reducible refine Frz.mk ?_))
  all_goals try (refine Held.mk ?_; (try dsimp only at *); (try simp only [resTy, argTy, eqD, inR, big, wantOf, Bool.not_true, Bool.not_false, Bool.true_eq, decide_eq_true_eq, decide_eq_false_iff_not, Bool.not_eq_true', Bool.not_eq_false', Bool.and_eq_true, Prod.mk.injEq, and_true, true_and, Int.not_lt, Int.not_le, gt_iff_lt, ge_iff_le] at *))
  all_goals try omega
  all_goals exact ⟨l1, o1⟩

end Go.Eng.Pu
