/- The law PulseCorrelates, walked. Conditions: none. -/
import Derived.Test.YtcoimlnplaidiaaQ16
namespace Go.Eng.Pu
open Go.Eng Go.Proofs
set_option linter.all false
set_option maxRecDepth 100000
set_option maxHeartbeats 8000000

def corT (a b : List Int) (lag : Int) (i : Nat) : Int := a.getD i 0 * b.getD ((lag + i) % (b.length : Int)).toNat 0

theorem all_get' {p : Int → Bool} : ∀ {xs : List Int}, xs.all p = true → ∀ i, i < xs.length → p (xs.getD i 0) = true
  | [], _, i, h => by simp at h
  | x :: r, h, 0, _ => by simp only [List.all_cons, Bool.and_eq_true] at h; exact h.1
  | x :: r, h, i + 1, hi => by
    simp only [List.all_cons, Bool.and_eq_true] at h
    have := all_get' h.2 i (by simpa using hi)
    simpa using this

theorem rec_get {xs : List Int} (h : xs.all fRec = true) (i : Nat) : -16777216 ≤ xs.getD i 0 ∧ xs.getD i 0 ≤ 16777216 := by
  by_cases hi : i < xs.length
  · exact of_decide_eq_true (all_get' h i hi)
  · have : xs.getD i 0 = 0 := by simp [List.getD, List.getElem?_eq_none (Nat.le_of_not_lt hi)]
    rw [this]; omega

theorem corT_in {a b : List Int} (ha : a.all fRec = true) (hb : b.all fRec = true) (lag : Int) (i : Nat) : -281474976710656 ≤ corT a b lag i ∧ corT a b lag i ≤ 281474976710656 := by
  have h1 := rec_get ha i
  have h2 := rec_get hb ((lag + i) % (b.length : Int)).toNat
  unfold corT
  have e1 : (a.getD i 0).natAbs ≤ 16777216 := by omega
  have e2 : (b.getD ((lag + i) % (b.length : Int)).toNat 0).natAbs ≤ 16777216 := by omega
  have e3 : (a.getD i 0 * b.getD ((lag + i) % (b.length : Int)).toNat 0).natAbs ≤ 16777216 * 16777216 := by rw [Int.natAbs_mul]; exact Nat.mul_le_mul e1 e2
  omega

theorem corS_in {a b : List Int} (ha : a.all fRec = true) (hb : b.all fRec = true) (lag : Int) (k : Nat) (hk : k ≤ 1024) : -288230376151711744 ≤ sm (corT a b lag) k ∧ sm (corT a b lag) k ≤ 288230376151711744 := by
  have := sm_le (f := corT a b lag) (B := 281474976710656) k (fun i _ => corT_in ha hb lag i)
  omega

def pCor (a b : List Int) (lag : Int) : Prop := 0 < a.length ∧ b.length = a.length ∧ a.length ≤ 1024 ∧ a.all fRec = true ∧ b.all fRec = true ∧ -1000000000 ≤ lag ∧ lag ≤ 1000000000

theorem mod_at {lag : Int} {n k : Nat} (hn : 0 < n) : 0 ≤ (lag + k) % (n : Int) ∧ (lag + k) % (n : Int) < n :=
  ⟨Int.emod_nonneg _ (by omega), Int.emod_lt_of_pos _ (by omega)⟩

theorem mod_next {lag : Int} {n k : Nat} (hn : 0 < n) : ((lag + k) % (n : Int) + 1).tmod (n : Int) = (lag + ((k + 1 : Nat) : Int)) % (n : Int) := by
  have := mod_at (lag := lag) (k := k) hn
  rw [Int.tmod_eq_emod_of_nonneg (by omega), Int.natCast_add, ← Int.add_assoc, Int.emod_add_emod]
  rfl

@[reducible] def sCor : Spec := { pats := [.dat (.sl I64), .dat (.sl I64), .dat I64], res := [{ t := I64 }], pre := fun x => pCor x.1 x.2.1 x.2.2.1, f := fun x => (sm (corT x.1 x.2.1 x.2.2.1) (List.length (α := Int) x.1), ()) }

/-- correlation -/
theorem h119 : Ok 119 sCor := by
  refine mk (ctr := [(109, sMod)]) ⟨h109, trivial⟩ (nt := 36) Try.func119 rfl rfl rfl rfl (by kernel_rfl) (by kernel_rfl) (fun x => [fun _ => { σ := Nat, pat := fun k => [sI 17 k, sI 7 (sm (corT x.1 x.2.1 x.2.2.1) k), sI 8 ((x.2.2.1 + k) % (List.length (α := Int) x.2.1 : Int))], inv := fun k => k ≤ List.length (α := Int) x.1, meas := fun k => List.length (α := Int) x.1 - k }]) ?_
  rintro ⟨(a : List Int), (b : List Int), (lag : Int), _⟩ (hp : pCor a b lag)
  obtain ⟨h0, hlen, h1, ha, hb, hl0, hl1⟩ := hp
  repeat' (intro hzz; (try (rename Two => hq; cases hq)); (try dsimp only at hzz); (try simp only [resTy, argTy, eqD, inR, big, wantOf, Bool.not_true, Bool.not_false, Bool.true_eq, decide_eq_true_eq, decide_eq_false_iff_not, Bool.not_eq_true', Bool.not_eq_false', Bool.and_eq_true, Prod.mk.injEq, and_true, true_and, Int.not_lt, Int.not_le, gt_iff_lt, ge_iff_le] at hzz); (try simp only [resTy, argTy, eqD, inR, big, wantOf, Bool.not_true, Bool.not_false, Bool.true_eq, decide_eq_true_eq, decide_eq_false_iff_not, Bool.not_eq_true', Bool.not_eq_false', Bool.and_eq_true, Prod.mk.injEq, and_true, true_and, Int.not_lt, Int.not_le, gt_iff_lt, ge_iff_le, getD_i] at hzz); (try (first | contradiction | (exfalso; omega))); (try (revert hzz; intro _)))
  all_goals try (rename Unit => hq; clear hq)
  all_goals try ((with_reducible refine Held.mk ?_); (with_reducible (first | refine Frz.mk ?_ | refine And.intro (Frz.mk ?_) ?_ | refine And.intro ?_ (Frz.mk ?_))); repeat' first | exact True.intro | (change _ = _; with_reducible rfl) | refine And.intro ?_ ?_ | (with_reducible refine Frz.mk ?_))
  all_goals try (refine Held.mk ?_; (try dsimp only at *); (try simp only [resTy, argTy, eqD, inR, big, wantOf, Bool.not_true, Bool.not_false, Bool.true_eq, decide_eq_true_eq, decide_eq_false_iff_not, Bool.not_eq_true', Bool.not_eq_false', Bool.and_eq_true, Prod.mk.injEq, and_true, true_and, Int.not_lt, Int.not_le, gt_iff_lt, ge_iff_le] at *); (try simp only [resTy, argTy, eqD, inR, big, wantOf, Bool.not_true, Bool.not_false, Bool.true_eq, decide_eq_true_eq, decide_eq_false_iff_not, Bool.not_eq_true', Bool.not_eq_false', Bool.and_eq_true, Prod.mk.injEq, and_true, true_and, Int.not_lt, Int.not_le, gt_iff_lt, ge_iff_le, getD_i] at *))
  all_goals try omega
  · exact ⟨(show (0 : Int) < (b.length : Int) by omega), (show (b.length : Int) ≤ 2000000000000000000 by omega)⟩
  · 
    refine GHeld.mk ?_
    refine Exists.intro 0 ?_
    refine And.intro (Leaf.mk ?_) ?_
    · repeat' first | exact True.intro | refine And.intro ?_ ?_
      all_goals try ((change _ = _ <;> try dsimp only) <;> try with_reducible rfl)
      all_goals try omega
      all_goals (first | rfl | (show lag % (b.length : Int) = (lag + ((0 : Nat) : Int)) % (b.length : Int); rw [show lag + ((0 : Nat) : Int) = lag from Int.add_zero lag]))
    exact Nat.zero_le _
  · rename_i k hk hg
    exact mod_at (by omega)
  · rename_i k hk hg
    have := corT_in ha hb lag k
    show -9223372036854775808 ≤ corT a b lag k ∧ corT a b lag k ≤ 9223372036854775807
    omega
  · rename_i k hk hg
    have := corT_in ha hb lag k
    have := corS_in ha hb lag k (by omega)
    show -9223372036854775808 ≤ sm (corT a b lag) k + corT a b lag k ∧ sm (corT a b lag) k + corT a b lag k ≤ 9223372036854775807
    omega
  · rename_i k hk hg
    have := mod_at (lag := lag) (n := b.length) (k := k) (by omega)
    omega
  · rename_i k hk hg
    have e := mod_next (lag := lag) (n := b.length) (k := k) (by omega)
    refine GHeld.mk ?_
    refine Exists.intro (k + 1) ?_
    refine And.intro (Leaf.mk ?_) ?_
    · repeat' first | exact True.intro | refine And.intro ?_ ?_
      all_goals try ((change _ = _ <;> try dsimp only) <;> try with_reducible rfl)
      all_goals try omega
      all_goals (first | rfl | exact e)
    exact ⟨by show k + 1 ≤ a.length; omega, by show a.length - (k + 1) < a.length - k; omega⟩
  · rename_i k hk hg
    rw [show k = a.length from by omega]

def corErr (a b : List Int) (lag : Int) : Int :=
  if a.length = 0 ∨ ¬ b.length = a.length then 10 else if 1024 < a.length then 8 else if a.all fRec = true ∧ b.all fRec = true ∧ -1000000000 ≤ lag ∧ lag ≤ 1000000000 then 0 else 2
def corV (a b : List Int) (lag : Int) : Int := if corErr a b lag = 0 then sm (corT a b lag) a.length else 0

@[reducible] def sPCor : Spec := { pats := [.dat (.sl I64), .dat (.sl I64), .dat I64], res := [{ t := I64 }, { t := I64 }], pre := fun x => pLen (List.length (α := Int) x.1) ∧ pLen (List.length (α := Int) x.2.1), f := fun x => (corV x.1 x.2.1 x.2.2.1, corErr x.1 x.2.1 x.2.2.1, ()) }

/-- pulse.Correlation -/
theorem h47 : Ok 47 sPCor := by
  refine mk (ctr := [(116, sAllR), (118, sSmall), (119, sCor)]) ⟨h116R, h118, h119, trivial⟩ (nt := 41) Try.func47 rfl rfl rfl rfl (by kernel_rfl) (by kernel_rfl) (fun _ => []) ?_
  rintro ⟨(a : List Int), (b : List Int), (lag : Int), _⟩ ⟨(hp : pLen a.length), (hq : pLen b.length)⟩
  by_cases g1 : a.length = 0 ∨ ¬ b.length = a.length
  · have e1 : corErr a b lag = 10 := by unfold corErr; rw [if_pos g1]
    have e2 : corV a b lag = 0 := by unfold corV; rw [if_neg (by rw [e1]; decide)]
    repeat' (intro hzz; (try (rename Two => hq; cases hq)); (try dsimp only at hzz); (try simp only [resTy, argTy, eqD, inR, big, wantOf, Bool.not_true, Bool.not_false, Bool.true_eq, decide_eq_true_eq, decide_eq_false_iff_not, Bool.not_eq_true', Bool.not_eq_false', Bool.and_eq_true, Prod.mk.injEq, and_true, true_and, Int.not_lt, Int.not_le, gt_iff_lt, ge_iff_le] at hzz); (try simp only [resTy, argTy, eqD, inR, big, wantOf, Bool.not_true, Bool.not_false, Bool.true_eq, decide_eq_true_eq, decide_eq_false_iff_not, Bool.not_eq_true', Bool.not_eq_false', Bool.and_eq_true, Prod.mk.injEq, and_true, true_and, Int.not_lt, Int.not_le, gt_iff_lt, ge_iff_le, e1, e2] at hzz); (try (first | contradiction | (exfalso; omega))); (try (revert hzz; intro _)))
    all_goals try (rename Unit => hq; clear hq)
    all_goals try ((with_reducible refine Held.mk ?_); (with_reducible (first | refine Frz.mk ?_ | refine And.intro (Frz.mk ?_) ?_ | refine And.intro ?_ (Frz.mk ?_))); repeat' first | exact True.intro | (change _ = _; with_reducible rfl) | refine And.intro ?_ ?_ | (with_reducible refine Frz.mk ?_))
    all_goals try (refine Held.mk ?_; (try dsimp only at *); (try simp only [resTy, argTy, eqD, inR, big, wantOf, Bool.not_true, Bool.not_false, Bool.true_eq, decide_eq_true_eq, decide_eq_false_iff_not, Bool.not_eq_true', Bool.not_eq_false', Bool.and_eq_true, Prod.mk.injEq, and_true, true_and, Int.not_lt, Int.not_le, gt_iff_lt, ge_iff_le] at *); (try simp only [resTy, argTy, eqD, inR, big, wantOf, Bool.not_true, Bool.not_false, Bool.true_eq, decide_eq_true_eq, decide_eq_false_iff_not, Bool.not_eq_true', Bool.not_eq_false', Bool.and_eq_true, Prod.mk.injEq, and_true, true_and, Int.not_lt, Int.not_le, gt_iff_lt, ge_iff_le, e1, e2] at *))
    all_goals try omega
  · by_cases g2 : 1024 < a.length
    · have e1 : corErr a b lag = 8 := by unfold corErr; rw [if_neg g1, if_pos g2]
      have e2 : corV a b lag = 0 := by unfold corV; rw [if_neg (by rw [e1]; decide)]
      repeat' (intro hzz; (try (rename Two => hq; cases hq)); (try dsimp only at hzz); (try simp only [resTy, argTy, eqD, inR, big, wantOf, Bool.not_true, Bool.not_false, Bool.true_eq, decide_eq_true_eq, decide_eq_false_iff_not, Bool.not_eq_true', Bool.not_eq_false', Bool.and_eq_true, Prod.mk.injEq, and_true, true_and, Int.not_lt, Int.not_le, gt_iff_lt, ge_iff_le] at hzz); (try simp only [resTy, argTy, eqD, inR, big, wantOf, Bool.not_true, Bool.not_false, Bool.true_eq, decide_eq_true_eq, decide_eq_false_iff_not, Bool.not_eq_true', Bool.not_eq_false', Bool.and_eq_true, Prod.mk.injEq, and_true, true_and, Int.not_lt, Int.not_le, gt_iff_lt, ge_iff_le, e1, e2] at hzz); (try (first | contradiction | (exfalso; omega))); (try (revert hzz; intro _)))
      all_goals try (rename Unit => hq; clear hq)
      all_goals try ((with_reducible refine Held.mk ?_); (with_reducible (first | refine Frz.mk ?_ | refine And.intro (Frz.mk ?_) ?_ | refine And.intro ?_ (Frz.mk ?_))); repeat' first | exact True.intro | (change _ = _; with_reducible rfl) | refine And.intro ?_ ?_ | (with_reducible refine Frz.mk ?_))
      all_goals try (refine Held.mk ?_; (try dsimp only at *); (try simp only [resTy, argTy, eqD, inR, big, wantOf, Bool.not_true, Bool.not_false, Bool.true_eq, decide_eq_true_eq, decide_eq_false_iff_not, Bool.not_eq_true', Bool.not_eq_false', Bool.and_eq_true, Prod.mk.injEq, and_true, true_and, Int.not_lt, Int.not_le, gt_iff_lt, ge_iff_le] at *); (try simp only [resTy, argTy, eqD, inR, big, wantOf, Bool.not_true, Bool.not_false, Bool.true_eq, decide_eq_true_eq, decide_eq_false_iff_not, Bool.not_eq_true', Bool.not_eq_false', Bool.and_eq_true, Prod.mk.injEq, and_true, true_and, Int.not_lt, Int.not_le, gt_iff_lt, ge_iff_le, e1, e2] at *))
      all_goals try omega
    · by_cases g3 : a.all fRec = true ∧ b.all fRec = true ∧ -1000000000 ≤ lag ∧ lag ≤ 1000000000
      · have e1 : corErr a b lag = 0 := by unfold corErr; rw [if_neg g1, if_neg g2, if_pos g3]
        have e2 : corV a b lag = sm (corT a b lag) a.length := by unfold corV; rw [if_pos e1]
        have hc : pCor a b lag := ⟨by omega, by omega, by omega, g3⟩
        have g4 : (a.all fun n => fRec n) = true := g3.1
        have g5 : (b.all fun n => fRec n) = true := g3.2.1
        repeat' (intro hzz; (try (rename Two => hq; cases hq)); (try dsimp only at hzz); (try simp only [resTy, argTy, eqD, inR, big, wantOf, Bool.not_true, Bool.not_false, Bool.true_eq, decide_eq_true_eq, decide_eq_false_iff_not, Bool.not_eq_true', Bool.not_eq_false', Bool.and_eq_true, Prod.mk.injEq, and_true, true_and, Int.not_lt, Int.not_le, gt_iff_lt, ge_iff_le] at hzz); (try simp only [resTy, argTy, eqD, inR, big, wantOf, Bool.not_true, Bool.not_false, Bool.true_eq, decide_eq_true_eq, decide_eq_false_iff_not, Bool.not_eq_true', Bool.not_eq_false', Bool.and_eq_true, Prod.mk.injEq, and_true, true_and, Int.not_lt, Int.not_le, gt_iff_lt, ge_iff_le, e1, e2] at hzz); (try (first | contradiction | (exfalso; omega))); (try (revert hzz; intro _)))
        all_goals try (rename Unit => hq; clear hq)
        all_goals try ((with_reducible refine Held.mk ?_); (with_reducible (first | refine Frz.mk ?_ | refine And.intro (Frz.mk ?_) ?_ | refine And.intro ?_ (Frz.mk ?_))); repeat' first | exact True.intro | (change _ = _; with_reducible rfl) | refine And.intro ?_ ?_ | (with_reducible refine Frz.mk ?_))
        all_goals try (refine Held.mk ?_; (try dsimp only at *); (try simp only [resTy, argTy, eqD, inR, big, wantOf, Bool.not_true, Bool.not_false, Bool.true_eq, decide_eq_true_eq, decide_eq_false_iff_not, Bool.not_eq_true', Bool.not_eq_false', Bool.and_eq_true, Prod.mk.injEq, and_true, true_and, Int.not_lt, Int.not_le, gt_iff_lt, ge_iff_le] at *); (try simp only [resTy, argTy, eqD, inR, big, wantOf, Bool.not_true, Bool.not_false, Bool.true_eq, decide_eq_true_eq, decide_eq_false_iff_not, Bool.not_eq_true', Bool.not_eq_false', Bool.and_eq_true, Prod.mk.injEq, and_true, true_and, Int.not_lt, Int.not_le, gt_iff_lt, ge_iff_le, e1, e2] at *))
        all_goals try omega
        all_goals (exfalso; first | exact Bool.noConfusion (g4.symm.trans (by assumption)) | exact Bool.noConfusion (g5.symm.trans (by assumption)))
      · have e1 : corErr a b lag = 2 := by unfold corErr; rw [if_neg g1, if_neg g2, if_neg g3]
        have e2 : corV a b lag = 0 := by unfold corV; rw [if_neg (by rw [e1]; decide)]
        repeat' (intro hzz; (try (rename Two => hq; cases hq)); (try dsimp only at hzz); (try simp only [resTy, argTy, eqD, inR, big, wantOf, Bool.not_true, Bool.not_false, Bool.true_eq, decide_eq_true_eq, decide_eq_false_iff_not, Bool.not_eq_true', Bool.not_eq_false', Bool.and_eq_true, Prod.mk.injEq, and_true, true_and, Int.not_lt, Int.not_le, gt_iff_lt, ge_iff_le] at hzz); (try simp only [resTy, argTy, eqD, inR, big, wantOf, Bool.not_true, Bool.not_false, Bool.true_eq, decide_eq_true_eq, decide_eq_false_iff_not, Bool.not_eq_true', Bool.not_eq_false', Bool.and_eq_true, Prod.mk.injEq, and_true, true_and, Int.not_lt, Int.not_le, gt_iff_lt, ge_iff_le, e1, e2] at hzz); (try (first | contradiction | (exfalso; omega))); (try (revert hzz; intro _)))
        all_goals try (rename Unit => hq; clear hq)
        all_goals try ((with_reducible refine Held.mk ?_); (with_reducible (first | refine Frz.mk ?_ | refine And.intro (Frz.mk ?_) ?_ | refine And.intro ?_ (Frz.mk ?_))); repeat' first | exact True.intro | (change _ = _; with_reducible rfl) | refine And.intro ?_ ?_ | (with_reducible refine Frz.mk ?_))
        all_goals try (refine Held.mk ?_; (try dsimp only at *); (try simp only [resTy, argTy, eqD, inR, big, wantOf, Bool.not_true, Bool.not_false, Bool.true_eq, decide_eq_true_eq, decide_eq_false_iff_not, Bool.not_eq_true', Bool.not_eq_false', Bool.and_eq_true, Prod.mk.injEq, and_true, true_and, Int.not_lt, Int.not_le, gt_iff_lt, ge_iff_le] at *); (try simp only [resTy, argTy, eqD, inR, big, wantOf, Bool.not_true, Bool.not_false, Bool.true_eq, decide_eq_true_eq, decide_eq_false_iff_not, Bool.not_eq_true', Bool.not_eq_false', Bool.and_eq_true, Prod.mk.injEq, and_true, true_and, Int.not_lt, Int.not_le, gt_iff_lt, ge_iff_le, e1, e2] at *))
        all_goals try omega
        all_goals exact absurd ⟨by assumption, by assumption, by omega, by omega⟩ g3

def rngE (xs : List Int) (m : Int) : Nat → Nat → Int
  | 0, _ => 0
  | k + 1, i => if fWithin (xs.getD i 0) (-m) m = true then rngE xs m k (i + 1) else 2

theorem rngE_step {xs : List Int} {m : Int} {n i : Nat} (h : i < n) : rngE xs m (n - i) i = if fWithin (xs.getD i 0) (-m) m = true then rngE xs m (n - (i + 1)) (i + 1) else 2 := by
  obtain ⟨k, hk⟩ : ∃ k, n - i = k + 1 := ⟨n - i - 1, by omega⟩
  rw [hk, show n - (i + 1) = k from by omega]
  rfl

theorem rngE_eq {m : Int} : ∀ (xs ys : List Int), rngE (ys ++ xs) m xs.length ys.length = if (xs.all fun n => fWithin n (-m) m) = true then 0 else 2
  | [], ys => by simp [rngE]
  | x :: r, ys => by
    have ih := rngE_eq (m := m) r (ys ++ [x])
    rw [List.append_assoc, List.length_append] at ih
    simp only [List.length_cons, rngE]
    have e : (ys ++ x :: r).getD ys.length 0 = x := by simp [List.getD]
    rw [e]
    by_cases h : fWithin x (-m) m = true
    · rw [if_pos h]
      have e2 : rngE (ys ++ x :: r) m r.length (ys.length + 1) = if (r.all fun n => fWithin n (-m) m) = true then 0 else 2 := ih
      rw [e2]
      simp only [List.all_cons, h, Bool.true_and]
    · rw [if_neg h]
      have h' : fWithin x (-m) m = false := by simpa using h
      simp only [List.all_cons, h', Bool.false_and]
      rfl

@[reducible] def sRng : Spec := { pats := [.dat (.sl I64), .dat I64], res := [{ t := I64 }], pre := fun x => pLen (List.length (α := Int) x.1) ∧ 0 ≤ x.2.1 ∧ x.2.1 ≤ (9000000000000000000 : Int), f := fun x => ((if (List.all (α := Int) x.1 fun n => fWithin n (-x.2.1) x.2.1) = true then (0 : Int) else 2), ()) }

/-- ref.rangeErr -/
theorem h105 : Ok 105 sRng := by
  refine mk (ctr := [(25, sWithin)]) ⟨h25, trivial⟩ (nt := 21) Try.func105 rfl rfl rfl rfl (by kernel_rfl) (by kernel_rfl) (fun x => [fun _ => { σ := Nat, pat := fun k => [sI 5 k], inv := fun k => k ≤ List.length (α := Int) x.1 ∧ rngE x.1 x.2.1 (List.length (α := Int) x.1 - k) k = rngE x.1 x.2.1 (List.length (α := Int) x.1) 0, meas := fun k => List.length (α := Int) x.1 - k }]) ?_
  rintro ⟨(xs : List Int), (m : Int), _⟩ ⟨(hp : pLen xs.length), (h0 : 0 ≤ m), (h1 : m ≤ 9000000000000000000)⟩
  have := hp.out
  have e0 : rngE xs m xs.length 0 = if (xs.all fun n => fWithin n (-m) m) = true then 0 else 2 := rngE_eq xs []
  repeat' (intro hzz; (try (rename Two => hq; cases hq)); (try dsimp only at hzz); (try simp only [resTy, argTy, eqD, inR, big, wantOf, Bool.not_true, Bool.not_false, Bool.true_eq, decide_eq_true_eq, decide_eq_false_iff_not, Bool.not_eq_true', Bool.not_eq_false', Bool.and_eq_true, Prod.mk.injEq, and_true, true_and, Int.not_lt, Int.not_le, gt_iff_lt, ge_iff_le] at hzz); (try simp only [resTy, argTy, eqD, inR, big, wantOf, Bool.not_true, Bool.not_false, Bool.true_eq, decide_eq_true_eq, decide_eq_false_iff_not, Bool.not_eq_true', Bool.not_eq_false', Bool.and_eq_true, Prod.mk.injEq, and_true, true_and, Int.not_lt, Int.not_le, gt_iff_lt, ge_iff_le, getD_i] at hzz); (try (first | contradiction | (exfalso; omega))); (try (revert hzz; intro _)))
  all_goals try (rename Unit => hq; clear hq)
  all_goals try ((with_reducible refine Held.mk ?_); (with_reducible (first | refine Frz.mk ?_ | refine And.intro (Frz.mk ?_) ?_ | refine And.intro ?_ (Frz.mk ?_))); repeat' first | exact True.intro | (change _ = _; with_reducible rfl) | refine And.intro ?_ ?_ | (with_reducible refine Frz.mk ?_))
  all_goals try (refine Held.mk ?_; (try dsimp only at *); (try simp only [resTy, argTy, eqD, inR, big, wantOf, Bool.not_true, Bool.not_false, Bool.true_eq, decide_eq_true_eq, decide_eq_false_iff_not, Bool.not_eq_true', Bool.not_eq_false', Bool.and_eq_true, Prod.mk.injEq, and_true, true_and, Int.not_lt, Int.not_le, gt_iff_lt, ge_iff_le] at *); (try simp only [resTy, argTy, eqD, inR, big, wantOf, Bool.not_true, Bool.not_false, Bool.true_eq, decide_eq_true_eq, decide_eq_false_iff_not, Bool.not_eq_true', Bool.not_eq_false', Bool.and_eq_true, Prod.mk.injEq, and_true, true_and, Int.not_lt, Int.not_le, gt_iff_lt, ge_iff_le, getD_i] at *))
  all_goals try omega
  · 
    refine GHeld.mk ?_
    refine Exists.intro 0 ?_
    refine And.intro (Leaf.mk ?_) ?_
    · repeat' first | exact True.intro | refine And.intro ?_ ?_
      all_goals try ((change _ = _ <;> try dsimp only) <;> try with_reducible rfl)
      all_goals try omega
    exact ⟨Nat.zero_le _, rfl⟩
  · rename_i k hk hg h
    have e := hk.2
    rw [rngE_step (by omega), if_neg (by simpa using h)] at e
    rw [← e0]; exact e
  · rename_i k hk hg h
    have e := hk.2
    rw [rngE_step (by omega), if_pos (decide_eq_true h)] at e
    refine GHeld.mk ?_
    refine Exists.intro (k + 1) ?_
    refine And.intro (Leaf.mk ?_) ?_
    · repeat' first | exact True.intro | refine And.intro ?_ ?_
      all_goals try ((change _ = _ <;> try dsimp only) <;> try with_reducible rfl)
      all_goals try omega
    exact ⟨⟨by show k + 1 ≤ xs.length; omega, e⟩, by show xs.length - (k + 1) < xs.length - k; omega⟩
  · rename_i k hk hg
    have e := hk.2
    rw [show xs.length - k = 0 from by omega] at e
    rw [← e0]; exact e

/-- ref.Correlation -/
theorem h48 : Ok 48 sPCor := by
  refine mk (ctr := [(105, sRng), (25, sWithin), (41, sMod)]) ⟨h105, h25, h41, trivial⟩ (nt := 61) Try.func48 rfl rfl rfl rfl (by kernel_rfl) (by kernel_rfl) (fun x => [fun _ => { σ := Nat, pat := fun k => [sI 11 k, sI 10 (sm (corT x.1 x.2.1 x.2.2.1) k)], inv := fun k => k ≤ List.length (α := Int) x.1, meas := fun k => List.length (α := Int) x.1 - k }]) ?_
  rintro ⟨(a : List Int), (b : List Int), (lag : Int), _⟩ ⟨(hp : pLen a.length), (hq : pLen b.length)⟩
  by_cases g1 : a.length = 0 ∨ ¬ b.length = a.length
  · have e1 : corErr a b lag = 10 := by unfold corErr; rw [if_pos g1]
    have e2 : corV a b lag = 0 := by unfold corV; rw [if_neg (by rw [e1]; decide)]
    repeat' (intro hzz; (try (rename Two => hq; cases hq)); (try dsimp only at hzz); (try simp only [resTy, argTy, eqD, inR, big, wantOf, Bool.not_true, Bool.not_false, Bool.true_eq, decide_eq_true_eq, decide_eq_false_iff_not, Bool.not_eq_true', Bool.not_eq_false', Bool.and_eq_true, Prod.mk.injEq, and_true, true_and, Int.not_lt, Int.not_le, gt_iff_lt, ge_iff_le] at hzz); (try simp only [resTy, argTy, eqD, inR, big, wantOf, Bool.not_true, Bool.not_false, Bool.true_eq, decide_eq_true_eq, decide_eq_false_iff_not, Bool.not_eq_true', Bool.not_eq_false', Bool.and_eq_true, Prod.mk.injEq, and_true, true_and, Int.not_lt, Int.not_le, gt_iff_lt, ge_iff_le, e1, e2, getD_i] at hzz); (try (first | contradiction | (exfalso; omega))); (try (revert hzz; intro _)))
    all_goals try (rename Unit => hq; clear hq)
    all_goals try ((with_reducible refine Held.mk ?_); (with_reducible (first | refine Frz.mk ?_ | refine And.intro (Frz.mk ?_) ?_ | refine And.intro ?_ (Frz.mk ?_))); repeat' first | exact True.intro | (change _ = _; with_reducible rfl) | refine And.intro ?_ ?_ | (with_reducible refine Frz.mk ?_))
    all_goals try (refine Held.mk ?_; (try dsimp only at *); (try simp only [resTy, argTy, eqD, inR, big, wantOf, Bool.not_true, Bool.not_false, Bool.true_eq, decide_eq_true_eq, decide_eq_false_iff_not, Bool.not_eq_true', Bool.not_eq_false', Bool.and_eq_true, Prod.mk.injEq, and_true, true_and, Int.not_lt, Int.not_le, gt_iff_lt, ge_iff_le] at *); (try simp only [resTy, argTy, eqD, inR, big, wantOf, Bool.not_true, Bool.not_false, Bool.true_eq, decide_eq_true_eq, decide_eq_false_iff_not, Bool.not_eq_true', Bool.not_eq_false', Bool.and_eq_true, Prod.mk.injEq, and_true, true_and, Int.not_lt, Int.not_le, gt_iff_lt, ge_iff_le, e1, e2, getD_i] at *))
    all_goals try omega
  · by_cases g2 : 1024 < a.length
    · have e1 : corErr a b lag = 8 := by unfold corErr; rw [if_neg g1, if_pos g2]
      have e2 : corV a b lag = 0 := by unfold corV; rw [if_neg (by rw [e1]; decide)]
      repeat' (intro hzz; (try (rename Two => hq; cases hq)); (try dsimp only at hzz); (try simp only [resTy, argTy, eqD, inR, big, wantOf, Bool.not_true, Bool.not_false, Bool.true_eq, decide_eq_true_eq, decide_eq_false_iff_not, Bool.not_eq_true', Bool.not_eq_false', Bool.and_eq_true, Prod.mk.injEq, and_true, true_and, Int.not_lt, Int.not_le, gt_iff_lt, ge_iff_le] at hzz); (try simp only [resTy, argTy, eqD, inR, big, wantOf, Bool.not_true, Bool.not_false, Bool.true_eq, decide_eq_true_eq, decide_eq_false_iff_not, Bool.not_eq_true', Bool.not_eq_false', Bool.and_eq_true, Prod.mk.injEq, and_true, true_and, Int.not_lt, Int.not_le, gt_iff_lt, ge_iff_le, e1, e2, getD_i] at hzz); (try (first | contradiction | (exfalso; omega))); (try (revert hzz; intro _)))
      all_goals try (rename Unit => hq; clear hq)
      all_goals try ((with_reducible refine Held.mk ?_); (with_reducible (first | refine Frz.mk ?_ | refine And.intro (Frz.mk ?_) ?_ | refine And.intro ?_ (Frz.mk ?_))); repeat' first | exact True.intro | (change _ = _; with_reducible rfl) | refine And.intro ?_ ?_ | (with_reducible refine Frz.mk ?_))
      all_goals try (refine Held.mk ?_; (try dsimp only at *); (try simp only [resTy, argTy, eqD, inR, big, wantOf, Bool.not_true, Bool.not_false, Bool.true_eq, decide_eq_true_eq, decide_eq_false_iff_not, Bool.not_eq_true', Bool.not_eq_false', Bool.and_eq_true, Prod.mk.injEq, and_true, true_and, Int.not_lt, Int.not_le, gt_iff_lt, ge_iff_le] at *); (try simp only [resTy, argTy, eqD, inR, big, wantOf, Bool.not_true, Bool.not_false, Bool.true_eq, decide_eq_true_eq, decide_eq_false_iff_not, Bool.not_eq_true', Bool.not_eq_false', Bool.and_eq_true, Prod.mk.injEq, and_true, true_and, Int.not_lt, Int.not_le, gt_iff_lt, ge_iff_le, e1, e2, getD_i] at *))
      all_goals try omega
    · by_cases g3 : a.all fRec = true ∧ b.all fRec = true ∧ -1000000000 ≤ lag ∧ lag ≤ 1000000000
      · have e1 : corErr a b lag = 0 := by unfold corErr; rw [if_neg g1, if_neg g2, if_pos g3]
        have e2 : corV a b lag = sm (corT a b lag) a.length := by unfold corV; rw [if_pos e1]
        have g4 : (a.all fun n => fRec n) = true := g3.1
        have g5 : (b.all fun n => fRec n) = true := g3.2.1
        have hc : pCor a b lag := ⟨by omega, by omega, by omega, g3⟩
        have ec : ∀ k : Nat, a.getD k 0 * b.getD (fMod ((k : Int) + lag) (b.length : Int)).toNat 0 = corT a b lag k := fun k => by rw [Int.add_comm]; rfl
        have hl : -1000000000 ≤ lag ∧ lag ≤ 1000000000 := g3.2.2
        clear g3
        repeat' (intro hzz; (try (rename Two => hq; cases hq)); (try dsimp only at hzz); (try simp only [resTy, argTy, eqD, inR, big, wantOf, Bool.not_true, Bool.not_false, Bool.true_eq, decide_eq_true_eq, decide_eq_false_iff_not, Bool.not_eq_true', Bool.not_eq_false', Bool.and_eq_true, Prod.mk.injEq, and_true, true_and, Int.not_lt, Int.not_le, gt_iff_lt, ge_iff_le] at hzz); (try simp only [resTy, argTy, eqD, inR, big, wantOf, Bool.not_true, Bool.not_false, Bool.true_eq, decide_eq_true_eq, decide_eq_false_iff_not, Bool.not_eq_true', Bool.not_eq_false', Bool.and_eq_true, Prod.mk.injEq, and_true, true_and, Int.not_lt, Int.not_le, gt_iff_lt, ge_iff_le, e1, e2, getD_i, g4, g5] at hzz); (try (first | contradiction | (exfalso; omega))); (try (revert hzz; intro _)))
        all_goals try (rename Unit => hq; clear hq)
        all_goals try ((with_reducible refine Held.mk ?_); (with_reducible (first | refine Frz.mk ?_ | refine And.intro (Frz.mk ?_) ?_ | refine And.intro ?_ (Frz.mk ?_))); repeat' first | exact True.intro | (change _ = _; with_reducible rfl) | refine And.intro ?_ ?_ | (with_reducible refine Frz.mk ?_))
        all_goals try (refine Held.mk ?_; (try dsimp only at *); (try simp only [resTy, argTy, eqD, inR, big, wantOf, Bool.not_true, Bool.not_false, Bool.true_eq, decide_eq_true_eq, decide_eq_false_iff_not, Bool.not_eq_true', Bool.not_eq_false', Bool.and_eq_true, Prod.mk.injEq, and_true, true_and, Int.not_lt, Int.not_le, gt_iff_lt, ge_iff_le] at *); (try simp only [resTy, argTy, eqD, inR, big, wantOf, Bool.not_true, Bool.not_false, Bool.true_eq, decide_eq_true_eq, decide_eq_false_iff_not, Bool.not_eq_true', Bool.not_eq_false', Bool.and_eq_true, Prod.mk.injEq, and_true, true_and, Int.not_lt, Int.not_le, gt_iff_lt, ge_iff_le, e1, e2, getD_i, g4, g5] at *))
        all_goals try omega
        · exact ⟨hp, (by decide : (0 : Int) ≤ 16777216), (by decide : (16777216 : Int) ≤ 9000000000000000000)⟩
        · exact ⟨hq, (by decide : (0 : Int) ≤ 16777216), (by decide : (16777216 : Int) ≤ 9000000000000000000)⟩
        · 
          refine GHeld.mk ?_
          refine Exists.intro 0 ?_
          refine And.intro (Leaf.mk ?_) ?_
          · repeat' first | exact True.intro | refine And.intro ?_ ?_
            all_goals try ((change _ = _ <;> try dsimp only) <;> try with_reducible rfl)
            all_goals try omega
            all_goals (rfl)
          exact Nat.zero_le _
        · exact ⟨(show (0 : Int) < (b.length : Int) by omega), (show (b.length : Int) ≤ 2000000000000000000 by omega)⟩
        · rename_i k hk hg
          have := mod_at (lag := lag) (n := b.length) (k := k) (by omega)
          rw [Int.add_comm] at this
          exact this
        · rename_i k hk hg
          have := corT_in hc.2.2.2.1 hc.2.2.2.2.1 lag k
          rw [← ec] at this
          show -9223372036854775808 ≤ a.getD k 0 * b.getD (fMod ((k : Int) + lag) (b.length : Int)).toNat 0 ∧ a.getD k 0 * b.getD (fMod ((k : Int) + lag) (b.length : Int)).toNat 0 ≤ 9223372036854775807
          omega
        · rename_i k hk hg
          have := corT_in hc.2.2.2.1 hc.2.2.2.2.1 lag k
          have := corS_in hc.2.2.2.1 hc.2.2.2.2.1 lag k (by have := hc.2.2.1; omega)
          show -9223372036854775808 ≤ sm (corT a b lag) k + a.getD k 0 * b.getD (fMod ((k : Int) + lag) (b.length : Int)).toNat 0 ∧ sm (corT a b lag) k + a.getD k 0 * b.getD (fMod ((k : Int) + lag) (b.length : Int)).toNat 0 ≤ 9223372036854775807
          rw [ec]
          omega
        · rename_i k hk hg
          have e : sm (corT a b lag) k + a.getD k 0 * b.getD (fMod ((k : Int) + lag) (b.length : Int)).toNat 0 = sm (corT a b lag) (k + 1) := by rw [ec]; rfl
          refine GHeld.mk ?_
          refine Exists.intro (k + 1) ?_
          refine And.intro (Leaf.mk ?_) ?_
          · repeat' first | exact True.intro | refine And.intro ?_ ?_
            all_goals try ((change _ = _ <;> try dsimp only) <;> try with_reducible rfl)
            all_goals try omega
            all_goals (exact e)
          exact ⟨by show k + 1 ≤ a.length; omega, by show a.length - (k + 1) < a.length - k; omega⟩
        · rename_i k hk hg
          rw [show k = a.length from by omega]
      · have e1 : corErr a b lag = 2 := by unfold corErr; rw [if_neg g1, if_neg g2, if_neg g3]
        have e2 : corV a b lag = 0 := by unfold corV; rw [if_neg (by rw [e1]; decide)]
        cases g4 : (a.all fun n => fRec n) with
        | false =>
          repeat' (intro hzz; (try (rename Two => hq; cases hq)); (try dsimp only at hzz); (try simp only [resTy, argTy, eqD, inR, big, wantOf, Bool.not_true, Bool.not_false, Bool.true_eq, decide_eq_true_eq, decide_eq_false_iff_not, Bool.not_eq_true', Bool.not_eq_false', Bool.and_eq_true, Prod.mk.injEq, and_true, true_and, Int.not_lt, Int.not_le, gt_iff_lt, ge_iff_le] at hzz); (try simp only [resTy, argTy, eqD, inR, big, wantOf, Bool.not_true, Bool.not_false, Bool.true_eq, decide_eq_true_eq, decide_eq_false_iff_not, Bool.not_eq_true', Bool.not_eq_false', Bool.and_eq_true, Prod.mk.injEq, and_true, true_and, Int.not_lt, Int.not_le, gt_iff_lt, ge_iff_le, e1, e2, getD_i, g4, if_false, Bool.false_eq_true] at hzz); (try (first | contradiction | (exfalso; omega))); (try (revert hzz; intro _)))
          all_goals try (rename Unit => hq; clear hq)
          all_goals try ((with_reducible refine Held.mk ?_); (with_reducible (first | refine Frz.mk ?_ | refine And.intro (Frz.mk ?_) ?_ | refine And.intro ?_ (Frz.mk ?_))); repeat' first | exact True.intro | (change _ = _; with_reducible rfl) | refine And.intro ?_ ?_ | (with_reducible refine Frz.mk ?_))
          all_goals try (refine Held.mk ?_; (try dsimp only at *); (try simp only [resTy, argTy, eqD, inR, big, wantOf, Bool.not_true, Bool.not_false, Bool.true_eq, decide_eq_true_eq, decide_eq_false_iff_not, Bool.not_eq_true', Bool.not_eq_false', Bool.and_eq_true, Prod.mk.injEq, and_true, true_and, Int.not_lt, Int.not_le, gt_iff_lt, ge_iff_le] at *); (try simp only [resTy, argTy, eqD, inR, big, wantOf, Bool.not_true, Bool.not_false, Bool.true_eq, decide_eq_true_eq, decide_eq_false_iff_not, Bool.not_eq_true', Bool.not_eq_false', Bool.and_eq_true, Prod.mk.injEq, and_true, true_and, Int.not_lt, Int.not_le, gt_iff_lt, ge_iff_le, e1, e2, getD_i, g4, if_false, Bool.false_eq_true] at *))
          all_goals try omega
          all_goals first | exact ⟨hp, (by decide : (0 : Int) ≤ 16777216), (by decide : (16777216 : Int) ≤ 9000000000000000000)⟩ | exact ⟨hq, (by decide : (0 : Int) ≤ 16777216), (by decide : (16777216 : Int) ≤ 9000000000000000000)⟩
        | true =>
          cases g5 : (b.all fun n => fRec n) with
          | false =>
            repeat' (intro hzz; (try (rename Two => hq; cases hq)); (try dsimp only at hzz); (try simp only [resTy, argTy, eqD, inR, big, wantOf, Bool.not_true, Bool.not_false, Bool.true_eq, decide_eq_true_eq, decide_eq_false_iff_not, Bool.not_eq_true', Bool.not_eq_false', Bool.and_eq_true, Prod.mk.injEq, and_true, true_and, Int.not_lt, Int.not_le, gt_iff_lt, ge_iff_le] at hzz); (try simp only [resTy, argTy, eqD, inR, big, wantOf, Bool.not_true, Bool.not_false, Bool.true_eq, decide_eq_true_eq, decide_eq_false_iff_not, Bool.not_eq_true', Bool.not_eq_false', Bool.and_eq_true, Prod.mk.injEq, and_true, true_and, Int.not_lt, Int.not_le, gt_iff_lt, ge_iff_le, e1, e2, getD_i, g4, g5, if_false, Bool.false_eq_true, if_true] at hzz); (try (first | contradiction | (exfalso; omega))); (try (revert hzz; intro _)))
            all_goals try (rename Unit => hq; clear hq)
            all_goals try ((with_reducible refine Held.mk ?_); (with_reducible (first | refine Frz.mk ?_ | refine And.intro (Frz.mk ?_) ?_ | refine And.intro ?_ (Frz.mk ?_))); repeat' first | exact True.intro | (change _ = _; with_reducible rfl) | refine And.intro ?_ ?_ | (with_reducible refine Frz.mk ?_))
            all_goals try (refine Held.mk ?_; (try dsimp only at *); (try simp only [resTy, argTy, eqD, inR, big, wantOf, Bool.not_true, Bool.not_false, Bool.true_eq, decide_eq_true_eq, decide_eq_false_iff_not, Bool.not_eq_true', Bool.not_eq_false', Bool.and_eq_true, Prod.mk.injEq, and_true, true_and, Int.not_lt, Int.not_le, gt_iff_lt, ge_iff_le] at *); (try simp only [resTy, argTy, eqD, inR, big, wantOf, Bool.not_true, Bool.not_false, Bool.true_eq, decide_eq_true_eq, decide_eq_false_iff_not, Bool.not_eq_true', Bool.not_eq_false', Bool.and_eq_true, Prod.mk.injEq, and_true, true_and, Int.not_lt, Int.not_le, gt_iff_lt, ge_iff_le, e1, e2, getD_i, g4, g5, if_false, Bool.false_eq_true, if_true] at *))
            all_goals try omega
            all_goals first | exact ⟨hp, (by decide : (0 : Int) ≤ 16777216), (by decide : (16777216 : Int) ≤ 9000000000000000000)⟩ | exact ⟨hq, (by decide : (0 : Int) ≤ 16777216), (by decide : (16777216 : Int) ≤ 9000000000000000000)⟩
          | true =>
            have g6 : ¬ (-1000000000 ≤ lag ∧ lag ≤ 1000000000) := fun h => g3 ⟨g4, g5, h⟩
            clear g3
            repeat' (intro hzz; (try (rename Two => hq; cases hq)); (try dsimp only at hzz); (try simp only [resTy, argTy, eqD, inR, big, wantOf, Bool.not_true, Bool.not_false, Bool.true_eq, decide_eq_true_eq, decide_eq_false_iff_not, Bool.not_eq_true', Bool.not_eq_false', Bool.and_eq_true, Prod.mk.injEq, and_true, true_and, Int.not_lt, Int.not_le, gt_iff_lt, ge_iff_le] at hzz); (try simp only [resTy, argTy, eqD, inR, big, wantOf, Bool.not_true, Bool.not_false, Bool.true_eq, decide_eq_true_eq, decide_eq_false_iff_not, Bool.not_eq_true', Bool.not_eq_false', Bool.and_eq_true, Prod.mk.injEq, and_true, true_and, Int.not_lt, Int.not_le, gt_iff_lt, ge_iff_le, e1, e2, getD_i, g4, g5, if_true, g6] at hzz); (try (first | contradiction | (exfalso; omega))); (try (revert hzz; intro _)))
            all_goals try (rename Unit => hq; clear hq)
            all_goals try ((with_reducible refine Held.mk ?_); (with_reducible (first | refine Frz.mk ?_ | refine And.intro (Frz.mk ?_) ?_ | refine And.intro ?_ (Frz.mk ?_))); repeat' first | exact True.intro | (change _ = _; with_reducible rfl) | refine And.intro ?_ ?_ | (with_reducible refine Frz.mk ?_))
            all_goals try (refine Held.mk ?_; (try dsimp only at *); (try simp only [resTy, argTy, eqD, inR, big, wantOf, Bool.not_true, Bool.not_false, Bool.true_eq, decide_eq_true_eq, decide_eq_false_iff_not, Bool.not_eq_true', Bool.not_eq_false', Bool.and_eq_true, Prod.mk.injEq, and_true, true_and, Int.not_lt, Int.not_le, gt_iff_lt, ge_iff_le] at *); (try simp only [resTy, argTy, eqD, inR, big, wantOf, Bool.not_true, Bool.not_false, Bool.true_eq, decide_eq_true_eq, decide_eq_false_iff_not, Bool.not_eq_true', Bool.not_eq_false', Bool.and_eq_true, Prod.mk.injEq, and_true, true_and, Int.not_lt, Int.not_le, gt_iff_lt, ge_iff_le, e1, e2, getD_i, g4, g5, if_true, g6] at *))
            all_goals try omega
            all_goals first | exact ⟨hp, (by decide : (0 : Int) ≤ 16777216), (by decide : (16777216 : Int) ≤ 9000000000000000000)⟩ | exact ⟨hq, (by decide : (0 : Int) ≤ 16777216), (by decide : (16777216 : Int) ≤ 9000000000000000000)⟩

theorem pLenLe {n : Nat} (h : (n : Int) ≤ 1026) : pLen n := by unfold pLen; omega

@[reducible] def sLaw7 : Spec := { pats := [.dat (.sl I64), .dat (.sl I64), .dat I64], res := [{ t := .bool }], pre := fun _ => True, f := fun _ => (true, ()) }

/-- PulseCorrelates -/
theorem h7 : Ok 7 sLaw7 := by
  refine mk (ctr := [(17, sAwake), (36, sCopyInts), (47, sPCor), (48, sPCor)]) ⟨h17, h36, h47, h48, trivial⟩ (nt := 55) Try.func7 rfl rfl rfl rfl (by kernel_rfl) (by kernel_rfl) (fun _ => []) ?_
  rintro ⟨(a : List Int), (b : List Int), (lag : Int), _⟩ _
  repeat' (intro hzz; (try (rename Two => hq; cases hq)); (try dsimp only at hzz); (try simp only [resTy, argTy, eqD, inR, big, wantOf, Bool.not_true, Bool.not_false, Bool.true_eq, decide_eq_true_eq, decide_eq_false_iff_not, Bool.not_eq_true', Bool.not_eq_false', Bool.and_eq_true, Prod.mk.injEq, and_true, true_and, Int.not_lt, Int.not_le, gt_iff_lt, ge_iff_le] at hzz); (try (first | contradiction | (exfalso; omega))); (try (revert hzz; intro _)))
  all_goals try (rename Unit => hq; clear hq)
  all_goals try ((with_reducible refine Held.mk ?_); (with_reducible (first | refine Frz.mk ?_ | refine And.intro (Frz.mk ?_) ?_ | refine And.intro ?_ (Frz.mk ?_))); repeat' first | exact True.intro | (change _ = _; with_reducible rfl) | refine And.intro ?_ ?_ | (with_reducible refine Frz.mk ?_))
  all_goals try (refine Held.mk ?_; (try dsimp only at *); (try simp only [resTy, argTy, eqD, inR, big, wantOf, Bool.not_true, Bool.not_false, Bool.true_eq, decide_eq_true_eq, decide_eq_false_iff_not, Bool.not_eq_true', Bool.not_eq_false', Bool.and_eq_true, Prod.mk.injEq, and_true, true_and, Int.not_lt, Int.not_le, gt_iff_lt, ge_iff_le] at *))
  all_goals try omega
  all_goals first | exact ⟨pLenLe (by omega), by omega⟩ | exact ⟨pLenLe (by omega), pLenLe (by omega)⟩

end Go.Eng.Pu
