/- Contracts: CheckMaximal, IsMaximal, the reference's primes; what CheckMaximal says of the right primes. Conditions: each contract's own. -/
import Derived.Test.YtcoimlnplaidiaaQ21
namespace Go.Eng.Pu
open Go.Eng Go.Proofs
set_option linter.all false
set_option maxRecDepth 100000
set_option maxHeartbeats 8000000

theorem mosts {L : Int} (h : 2 ≤ L ∧ L ≤ 8) : most L = 3 ∨ most L = 7 ∨ most L = 15 ∨ most L = 31 ∨ most L = 63 ∨ most L = 127 ∨ most L = 255 := by
  rcases lens h with rfl | rfl | rfl | rfl | rfl | rfl | rfl <;> decide

def isMost (n : Int) : Prop := n = 3 ∨ n = 7 ∨ n = 15 ∨ n = 31 ∨ n = 63 ∨ n = 127 ∨ n = 255

def rfK (n : Int) : Nat := firstAt (fun k => decide ((rs n k).1 ≤ 1)) 130 0

theorem rs_done {n : Int} (h : isMost n) : (rs n 126).1 = 1 ∧ (rs n (rfK n)).2 = prO n := by
  rcases h with rfl | rfl | rfl | rfl | rfl | rfl | rfl <;> decide +kernel

@[reducible] def sRPrimes : Spec := { pats := [.dat I64], res := [{ t := .sl I64 }], pre := fun x => isMost x.1, f := fun x => (prO x.1, ()) }

/-- ref.Primes -/
theorem h67 : Ok 67 sRPrimes := by
  refine mk (ctr := []) trivial (nt := 25) Try.func67 rfl rfl rfl rfl (by kernel_rfl) (by kernel_rfl) (fun x => [fun _ => { σ := Nat, pat := fun k => [sI 4 (k + 2 : Int), sI 0 (rs x.1 k).1] ++ sOwn 3 60003 3 (rs x.1 k).2, inv := fun k => ∀ m : Nat, m < k → 1 < (rs x.1 m).1, meas := fun k => 200 - k }, fun st => withI 4 st fun d => withI 0 st fun n => { σ := Nat × Int, pat := fun s => [sI 0 s.2], inv := fun s => inS d n s, meas := fun s => s.1 }]) ?_
  rintro ⟨(n : Int), _⟩ (h : isMost n)
  have h0 : 1 ≤ n := by unfold isMost at h; omega
  have h1 : n ≤ 255 := by unfold isMost at h; omega
  have hin := rs_in h0
  have hd := rs_done h
  have hl := rs_len (n := n)
  have k126 : ∀ k : Nat, (∀ m : Nat, m < k → 1 < (rs n m).1) → 1 < (rs n k).1 → k ≤ 125 := fun k hk hg => by
    have h126 := hd.1
    by_cases h1 : 126 < k
    · have := hk 126 h1; omega
    · by_cases h2 : k = 126
      · subst h2; omega
      · omega
  repeat' (intro hzz; (try (rename Two => hq; cases hq)); (try dsimp only at hzz); (try simp only [resTy, argTy, eqD, inR, big, wantOf, Bool.not_true, Bool.not_false, Bool.true_eq, decide_eq_true_eq, decide_eq_false_iff_not, Bool.not_eq_true', Bool.not_eq_false', Bool.and_eq_true, Prod.mk.injEq, and_true, true_and, Int.not_lt, Int.not_le, gt_iff_lt, ge_iff_le] at hzz); (try (first | contradiction | (exfalso; omega))); (try (revert hzz; intro _)))
  all_goals try (rename Unit => hq; clear hq)
  all_goals try ((with_reducible refine Held.mk ?_); (with_reducible (first | refine Frz.mk ?_ | refine And.intro (Frz.mk ?_) ?_ | refine And.intro ?_ (Frz.mk ?_))); repeat' first | exact True.intro | (change _ = _; with_reducible rfl) | refine And.intro ?_ ?_ | (with_reducible refine Frz.mk ?_))
  all_goals try (refine Held.mk ?_; (try dsimp only at *); (try simp only [resTy, argTy, eqD, inR, big, wantOf, Bool.not_true, Bool.not_false, Bool.true_eq, decide_eq_true_eq, decide_eq_false_iff_not, Bool.not_eq_true', Bool.not_eq_false', Bool.and_eq_true, Prod.mk.injEq, and_true, true_and, Int.not_lt, Int.not_le, gt_iff_lt, ge_iff_le] at *))
  all_goals try omega
  · 
    refine GHeld.mk ?_
    refine Exists.intro 0 ?_
    refine And.intro (Leaf.mk ?_) ?_
    · repeat' first | exact True.intro | refine And.intro ?_ ?_
      all_goals try ((change _ = _ <;> try dsimp only) <;> try with_reducible rfl)
      all_goals try omega
      all_goals (rfl)
    exact fun m hm => by omega
  · rename_i k hk hg hz
    have hk43 := k126 k hk hg
    have := hl k
    show (rs n k).2.length + 1 ≤ 2147483648
    omega
  · rename_i k hk hg hz
    refine GHeld.mk ?_
    refine Exists.intro (11, (rs n k).1) ?_
    refine And.intro (Leaf.mk ?_) ?_
    · repeat' first | exact True.intro | refine And.intro ?_ ?_
      all_goals try ((change _ = _ <;> try dsimp only) <;> try with_reducible rfl)
      all_goals try omega
      all_goals (rfl)
    exact ⟨Nat.le_refl _, (hin k).1, by have := hin k; show (rs n k).1 < 2048; omega, rfl⟩
  · rename_i k hk hg hz t ht hz'
    have hz' : t.2 % (k + 2 : Int) = 0 := by rw [← Int.tmod_eq_emod_of_nonneg (by have := ht.2.1; omega)]; exact hz'
    have e := Int.tdiv_eq_ediv_of_nonneg (a := t.2) (b := (k + 2 : Int)) (by have := ht.2.1; omega)
    have hk43 := k126 k hk hg
    have := ht.2.1
    have : t.2 < 2048 := Int.lt_of_lt_of_le ht.2.2.1 (p11 ht.1)
    have := Int.ediv_le_self (k + 2 : Int) (show 0 ≤ t.2 by omega)
    have : 0 ≤ t.2 / (k + 2 : Int) := Int.ediv_nonneg (by omega) (by omega)
    rw [e]
    omega
  · rename_i k hk hg hz t ht hz'
    have hz' : t.2 % (k + 2 : Int) = 0 := by rw [← Int.tmod_eq_emod_of_nonneg (by have := ht.2.1; omega)]; exact hz'
    have e := Int.tdiv_eq_ediv_of_nonneg (a := t.2) (b := (k + 2 : Int)) (by have := ht.2.1; omega)
    obtain ⟨f, hf, hin'⟩ := inS_next (d := (k + 2 : Int)) (by omega) ht hz'
    refine GHeld.mk ?_
    refine Exists.intro (f, t.2 / (k + 2 : Int)) ?_
    refine And.intro (Leaf.mk ?_) ?_
    · repeat' first | exact True.intro | refine And.intro ?_ ?_
      all_goals try ((change _ = _ <;> try dsimp only) <;> try with_reducible rfl)
      all_goals try omega
      all_goals (exact e)
    exact ⟨hin', by show f < t.1; omega⟩
  · rename_i k hk hg hz t ht hz'
    have hk43 := k126 k hk hg
    omega
  · rename_i k hk hg hz t ht hz'
    have hz' : ¬ t.2 % (k + 2 : Int) = 0 := by rw [← Int.tmod_eq_emod_of_nonneg (by have := ht.2.1; omega)]; exact hz'
    have e1 : t.2 = (rs n (k + 1)).1 := inS_end ht hz'
    have e2 : (rs n k).2 ++ [(k + 2 : Int)] = (rs n (k + 1)).2 := by
      show _ = if (rs n k).1 % (k + 2 : Int) = 0 then (rs n k).2 ++ [(k + 2 : Int)] else (rs n k).2
      rw [if_pos (by rw [← Int.tmod_eq_emod_of_nonneg (by have := hin k; omega)]; exact hz)]
    have hk43 := k126 k hk hg
    refine GHeld.mk ?_
    refine Exists.intro (k + 1) ?_
    refine And.intro (Leaf.mk ?_) ?_
    · repeat' first | exact True.intro | refine And.intro ?_ ?_
      all_goals try ((change _ = _ <;> try dsimp only) <;> try with_reducible rfl)
      all_goals try omega
      all_goals (first | exact e1 | exact e2 | exact congrArg List.length e2 | (show (k : Int) + 2 + 1 = ((k + 1 : Nat) : Int) + 2; omega))
    refine ⟨fun m hm => ?_, by show 200 - (k + 1) < 200 - k; omega⟩
    by_cases he : m = k
    · subst he; exact hg
    · exact hk m (by omega)
  · rename_i k hk hg hz
    refine GHeld.mk ?_
    refine Exists.intro (11, (rs n k).1) ?_
    refine And.intro (Leaf.mk ?_) ?_
    · repeat' first | exact True.intro | refine And.intro ?_ ?_
      all_goals try ((change _ = _ <;> try dsimp only) <;> try with_reducible rfl)
      all_goals try omega
      all_goals (rfl)
    exact ⟨Nat.le_refl _, (hin k).1, by have := hin k; show (rs n k).1 < 2048; omega, rfl⟩
  · rename_i k hk hg hz t ht hz'
    have hz' : t.2 % (k + 2 : Int) = 0 := by rw [← Int.tmod_eq_emod_of_nonneg (by have := ht.2.1; omega)]; exact hz'
    have e := Int.tdiv_eq_ediv_of_nonneg (a := t.2) (b := (k + 2 : Int)) (by have := ht.2.1; omega)
    have hk43 := k126 k hk hg
    have := ht.2.1
    have : t.2 < 2048 := Int.lt_of_lt_of_le ht.2.2.1 (p11 ht.1)
    have := Int.ediv_le_self (k + 2 : Int) (show 0 ≤ t.2 by omega)
    have : 0 ≤ t.2 / (k + 2 : Int) := Int.ediv_nonneg (by omega) (by omega)
    rw [e]
    omega
  · rename_i k hk hg hz t ht hz'
    have hz' : t.2 % (k + 2 : Int) = 0 := by rw [← Int.tmod_eq_emod_of_nonneg (by have := ht.2.1; omega)]; exact hz'
    have e := Int.tdiv_eq_ediv_of_nonneg (a := t.2) (b := (k + 2 : Int)) (by have := ht.2.1; omega)
    obtain ⟨f, hf, hin'⟩ := inS_next (d := (k + 2 : Int)) (by omega) ht hz'
    refine GHeld.mk ?_
    refine Exists.intro (f, t.2 / (k + 2 : Int)) ?_
    refine And.intro (Leaf.mk ?_) ?_
    · repeat' first | exact True.intro | refine And.intro ?_ ?_
      all_goals try ((change _ = _ <;> try dsimp only) <;> try with_reducible rfl)
      all_goals try omega
      all_goals (exact e)
    exact ⟨hin', by show f < t.1; omega⟩
  · rename_i k hk hg hz t ht hz'
    have hk43 := k126 k hk hg
    omega
  · rename_i k hk hg hz t ht hz'
    have hz' : ¬ t.2 % (k + 2 : Int) = 0 := by rw [← Int.tmod_eq_emod_of_nonneg (by have := ht.2.1; omega)]; exact hz'
    have e1 : t.2 = (rs n (k + 1)).1 := inS_end ht hz'
    have e2 : (rs n k).2 = (rs n (k + 1)).2 := by
      show _ = if (rs n k).1 % (k + 2 : Int) = 0 then (rs n k).2 ++ [(k + 2 : Int)] else (rs n k).2
      rw [if_neg (by rw [← Int.tmod_eq_emod_of_nonneg (by have := hin k; omega)]; exact hz)]
    have hk43 := k126 k hk hg
    refine GHeld.mk ?_
    refine Exists.intro (k + 1) ?_
    refine And.intro (Leaf.mk ?_) ?_
    · repeat' first | exact True.intro | refine And.intro ?_ ?_
      all_goals try ((change _ = _ <;> try dsimp only) <;> try with_reducible rfl)
      all_goals try omega
      all_goals (first | exact e1 | exact e2 | exact congrArg List.length e2 | (show (k : Int) + 2 + 1 = ((k + 1 : Nat) : Int) + 2; omega))
    refine ⟨fun m hm => ?_, by show 200 - (k + 1) < 200 - k; omega⟩
    by_cases he : m = k
    · subst he; exact hg
    · exact hk m (by omega)
  · rename_i k hk hz
    have hk' : k = rfK n := by
      have h126 := hd.1
      have hk2 : k ≤ 126 := by
        by_cases h1 : 126 < k
        · have := hk 126 h1; omega
        · omega
      obtain ⟨q1, q2, q3, q4⟩ := firstAt_spec (p := fun k => decide ((rs n k).1 ≤ 1)) (k := 130) (i := 0) (j := k) (Nat.zero_le _) (by omega) (decide_eq_true hz)
      have q1 : (rs n (rfK n)).1 ≤ 1 := of_decide_eq_true q1
      have q3 : rfK n ≤ k := q3
      by_cases he : k = rfK n
      · exact he
      · have := hk (rfK n) (by omega); omega
    rw [hk']; exact hd.2

def prE (ps : List Int) : Nat → Nat → Int
  | 0, _ => 0
  | k + 1, i => if 2 ≤ ps.getD i 0 ∧ ps.getD i 0 ≤ 255 then (if 0 < i ∧ ps.getD i 0 ≤ ps.getD (i - 1) 0 then 9 else prE ps k (i + 1)) else 2

theorem prE_step {ps : List Int} {i : Nat} (h : i < ps.length) : prE ps (ps.length - i) i = if 2 ≤ ps.getD i 0 ∧ ps.getD i 0 ≤ 255 then (if 0 < i ∧ ps.getD i 0 ≤ ps.getD (i - 1) 0 then 9 else prE ps (ps.length - (i + 1)) (i + 1)) else 2 := by
  obtain ⟨k, hk⟩ : ∃ k, ps.length - i = k + 1 := ⟨ps.length - i - 1, by omega⟩
  rw [hk, show ps.length - (i + 1) = k from by omega]
  rfl

theorem prE_zero {ps : List Int} : ∀ {k i : Nat}, prE ps k i = 0 → ∀ j, i ≤ j → j < i + k → 2 ≤ ps.getD j 0 ∧ ps.getD j 0 ≤ 255
  | 0, i, _, j, h1, h2 => by omega
  | k + 1, i, h, j, h1, h2 => by
    simp only [prE] at h
    split at h
    · rename_i ha
      split at h
      · cases h
      · by_cases hj : j = i
        · subst hj; exact ha
        · exact prE_zero h j (by omega) (by omega)
    · cases h

def mxE (L : Int) (xs ps : List Int) : Nat → Nat → Int
  | 0, _ => 0
  | k + 1, i => if atI L xs 1 ((most L).tdiv (ps.getD i 0)) = 1 then 20 else mxE L xs ps k (i + 1)

theorem mxE_step {L : Int} {xs ps : List Int} {n i : Nat} (h : i < n) : mxE L xs ps (n - i) i = if atI L xs 1 ((most L).tdiv (ps.getD i 0)) = 1 then 20 else mxE L xs ps (n - (i + 1)) (i + 1) := by
  obtain ⟨k, hk⟩ : ∃ k, n - i = k + 1 := ⟨n - i - 1, by omega⟩
  rw [hk, show n - (i + 1) = k from by omega]
  rfl

def cmErr (L : Int) (xs ps : List Int) : Int :=
  if opErr L xs 1 = 0 then (if ps.length ≤ 8 then (if prE ps ps.length 0 = 0 then (if ps = prO (most L) ∧ atI L xs 1 (most L) = 1 then mxE L xs ps ps.length 0 else 20) else prE ps ps.length 0) else 8) else opErr L xs 1

@[reducible] def sCheckMax : Spec := { pats := [.dat Reg0, .dat (.sl I64)], res := [{ t := I64 }], pre := fun x => pLen (List.length (α := Int) x.1.2.1) ∧ pLen (List.length (α := Int) x.2.1), f := fun x => (cmErr x.1.1 x.1.2.1 x.2.1, ()) }

theorem cm_first (L : Int) (xs ps : List Int) : firstI [opErr L xs 1, cond (decide ((ps.length : Int) ≤ 8)) 0 8] = if opErr L xs 1 = 0 then (if ps.length ≤ 8 then 0 else 8) else opErr L xs 1 := by
  rw [first2]
  by_cases h : opErr L xs 1 = 0
  · rw [if_pos h, if_pos h]
    by_cases h2 : ps.length ≤ 8
    · rw [if_pos h2, decide_eq_true (by omega)]; rfl
    · rw [if_neg h2, decide_eq_false (by omega)]; rfl
  · rw [if_neg h, if_neg h]

theorem prO_len {L : Int} (h : 2 ≤ L ∧ L ≤ 8) : (prO (most L)).length ≤ 8 ∧ prE (prO (most L)) (prO (most L)).length 0 = 0 := by
  rcases lens h with rfl | rfl | rfl | rfl | rfl | rfl | rfl <;> decide +kernel

/-- pulse.CheckMaximal -/
theorem h61 : Ok 61 sCheckMax := by
  refine mk (ctr := [(83, sOpen), (85, sUnless), (84, sFirst), (86, sWithin), (94, sFull), (129, sPrimes), (128, sInts), (120, sAt)]) ⟨h83, h85, h84, h86, h94, h129, h128, h120, trivial⟩ (nt := 77) Try.func61 rfl rfl rfl rfl (by kernel_rfl) (by kernel_rfl) (fun x => [fun _ => { σ := Nat, pat := fun k => [sI 28 k], inv := fun k => k ≤ List.length (α := Int) x.2.1 ∧ prE x.2.1 (List.length (α := Int) x.2.1 - k) k = prE x.2.1 (List.length (α := Int) x.2.1) 0, meas := fun k => List.length (α := Int) x.2.1 - k }, fun _ => { σ := Nat, pat := fun k => [sI 65 k], inv := fun k => k ≤ List.length (α := Int) x.2.1 ∧ mxE x.1.1 x.1.2.1 x.2.1 (List.length (α := Int) x.2.1 - k) k = mxE x.1.1 x.1.2.1 x.2.1 (List.length (α := Int) x.2.1) 0, meas := fun k => List.length (α := Int) x.2.1 - k }]) ?_
  rintro ⟨⟨(L : Int), (xs : List Int), _⟩, (ps : List Int), _⟩ ⟨(hl : pLen xs.length), (hq : pLen ps.length)⟩
  have := hq.out
  have ec := cm_first L xs ps
  by_cases ho : opErr L xs 1 = 0
  · obtain ⟨hst, _⟩ := op_pSt hl ho
    have hL := (chk_zero hst.1).1
    have hP := P2_in hL
    have hm : 3 ≤ most L ∧ most L ≤ 255 := by unfold most; omega
    have hpo : pLen (prO (most L)).length := by have := (prO_len hL).1; unfold pLen; omega
    by_cases h8 : ps.length ≤ 8
    · have u : cmErr L xs ps = if prE ps ps.length 0 = 0 then (if ps = prO (most L) ∧ atI L xs 1 (most L) = 1 then mxE L xs ps ps.length 0 else 20) else prE ps ps.length 0 := by
        unfold cmErr; rw [if_pos ho, if_pos h8]
      have e8 : decide ((ps.length : Int) ≤ 8) = true := decide_eq_true (by omega)
      have e9 : firstI [0, bif true then 0 else 8] = 0 := rfl
      have dv : ∀ p : Int, 2 ≤ p → 0 ≤ (most L).tdiv p ∧ (most L).tdiv p ≤ 255 := fun p hp => by
        rw [Int.tdiv_eq_ediv_of_nonneg (by omega)]
        have := Int.ediv_le_self p (show 0 ≤ most L by omega)
        exact ⟨Int.ediv_nonneg (by omega) (by omega), by omega⟩
      rw [if_pos ho, if_pos h8] at ec
      repeat' (intro hzz; (try (rename Two => hq; cases hq)); (try dsimp only at hzz); (try simp only [resTy, argTy, eqD, inR, big, wantOf, Bool.not_true, Bool.not_false, Bool.true_eq, decide_eq_true_eq, decide_eq_false_iff_not, Bool.not_eq_true', Bool.not_eq_false', Bool.and_eq_true, Prod.mk.injEq, and_true, true_and, Int.not_lt, Int.not_le, gt_iff_lt, ge_iff_le] at hzz); (try simp only [resTy, argTy, eqD, inR, big, wantOf, Bool.not_true, Bool.not_false, Bool.true_eq, decide_eq_true_eq, decide_eq_false_iff_not, Bool.not_eq_true', Bool.not_eq_false', Bool.and_eq_true, Prod.mk.injEq, and_true, true_and, Int.not_lt, Int.not_le, gt_iff_lt, ge_iff_le, fWithin, getD_i, ho, e8, e9] at hzz); (try (first | contradiction | (exfalso; omega))); (try (revert hzz; intro _)))
      all_goals try (rename Unit => hq; clear hq)
      all_goals try ((with_reducible refine Held.mk ?_); (with_reducible (first | refine Frz.mk ?_ | refine And.intro (Frz.mk ?_) ?_ | refine And.intro ?_ (Frz.mk ?_))); repeat' first | exact True.intro | (change _ = _; with_reducible rfl) | refine And.intro ?_ ?_ | (with_reducible refine Frz.mk ?_))
      all_goals try (refine Held.mk ?_; (try dsimp only at *); (try simp only [resTy, argTy, eqD, inR, big, wantOf, Bool.not_true, Bool.not_false, Bool.true_eq, decide_eq_true_eq, decide_eq_false_iff_not, Bool.not_eq_true', Bool.not_eq_false', Bool.and_eq_true, Prod.mk.injEq, and_true, true_and, Int.not_lt, Int.not_le, gt_iff_lt, ge_iff_le] at *); (try simp only [resTy, argTy, eqD, inR, big, wantOf, Bool.not_true, Bool.not_false, Bool.true_eq, decide_eq_true_eq, decide_eq_false_iff_not, Bool.not_eq_true', Bool.not_eq_false', Bool.and_eq_true, Prod.mk.injEq, and_true, true_and, Int.not_lt, Int.not_le, gt_iff_lt, ge_iff_le, fWithin, getD_i, ho, e8, e9] at *))
      all_goals try omega
      · simp [pLen]
      · 
        refine GHeld.mk ?_
        refine Exists.intro 0 ?_
        refine And.intro (Leaf.mk ?_) ?_
        · repeat' first | exact True.intro | refine And.intro ?_ ?_
          all_goals try ((change _ = _ <;> try dsimp only) <;> try with_reducible rfl)
          all_goals try omega
        exact ⟨Nat.zero_le _, rfl⟩
      · rename_i k hk hg h
        have e := hk.2
        rw [prE_step (by omega), if_neg h] at e
        rw [u, ← e]; rfl
      · rename_i k hk hg h3 h4 h5
        have e := hk.2
        rw [getD_m ps k (by omega)] at h5
        rw [prE_step (by omega), if_pos h3, if_pos ⟨by omega, h5⟩] at e
        rw [u, ← e]; rfl
      · rename_i k hk hg h3 h4 h5
        have e := hk.2
        rw [getD_m ps k (by omega)] at h5
        rw [prE_step (by omega), if_pos h3, if_neg (by omega)] at e
        refine GHeld.mk ?_
        refine Exists.intro (k + 1) ?_
        refine And.intro (Leaf.mk ?_) ?_
        · repeat' first | exact True.intro | refine And.intro ?_ ?_
          all_goals try ((change _ = _ <;> try dsimp only) <;> try with_reducible rfl)
          all_goals try omega
        exact ⟨⟨by show k + 1 ≤ ps.length; omega, e⟩, by show ps.length - (k + 1) < ps.length - k; omega⟩
      · rename_i k hk hg h3 h4
        have e := hk.2
        rw [prE_step (by omega), if_pos h3, if_neg (by omega)] at e
        refine GHeld.mk ?_
        refine Exists.intro (k + 1) ?_
        refine And.intro (Leaf.mk ?_) ?_
        · repeat' first | exact True.intro | refine And.intro ?_ ?_
          all_goals try ((change _ = _ <;> try dsimp only) <;> try with_reducible rfl)
          all_goals try omega
        exact ⟨⟨by show k + 1 ≤ ps.length; omega, e⟩, by show ps.length - (k + 1) < ps.length - k; omega⟩
      · exact ⟨(show (1 : Int) ≤ most L by omega), (show most L ≤ (2000 : Int) by omega)⟩
      · exact ⟨hq, hpo⟩
      · exact ⟨hst, (show (0 : Int) ≤ most L by omega), (show most L ≤ (1000000000 : Int) by omega)⟩
      · rename_i k hk hg h1 h
        have e := hk.2
        rw [show ps.length - k = 0 from by omega] at e
        have e : prE ps ps.length 0 = 0 := e.symm
        rw [u, if_pos e, if_neg (fun hh => h hh.2)]
      · rename_i k hk hg h1 h
        refine GHeld.mk ?_
        refine Exists.intro 0 ?_
        refine And.intro (Leaf.mk ?_) ?_
        · repeat' first | exact True.intro | refine And.intro ?_ ?_
          all_goals try ((change _ = _ <;> try dsimp only) <;> try with_reducible rfl)
          all_goals try omega
          all_goals ((rw [decide_eq_true h1]; rfl))
        exact ⟨Nat.zero_le _, rfl⟩
      · rename_i k hk hg h1 h2 j hj hg2
        have e := hk.2
        rw [show ps.length - k = 0 from by omega] at e
        have e : prE ps ps.length 0 = 0 := e.symm
        have hz := prE_zero e j (by omega) (by omega)
        have := dv _ hz.1
        omega
      · rename_i k hk hg h1 h2 j hj hg2
        have e := hk.2
        rw [show ps.length - k = 0 from by omega] at e
        have e : prE ps ps.length 0 = 0 := e.symm
        have hz := prE_zero e j (by omega) (by omega)
        have := dv _ hz.1
        exact ⟨hst, this.1, Int.le_trans this.2 (by decide)⟩
      · rename_i k hk hg h1 h2 j hj hg2 h
        have e := hk.2
        rw [show ps.length - k = 0 from by omega] at e
        have e : prE ps ps.length 0 = 0 := e.symm
        have e' := hj.2
        rw [mxE_step (by omega), if_pos h] at e'
        rw [u, if_pos e, if_pos ⟨h1, h2⟩]; exact e'
      · rename_i k hk hg h1 h2 j hj hg2 h
        have e' := hj.2
        rw [mxE_step (by omega), if_neg h] at e'
        refine GHeld.mk ?_
        refine Exists.intro (j + 1) ?_
        refine And.intro (Leaf.mk ?_) ?_
        · repeat' first | exact True.intro | refine And.intro ?_ ?_
          all_goals try ((change _ = _ <;> try dsimp only) <;> try with_reducible rfl)
          all_goals try omega
          all_goals ((rw [decide_eq_true h1]; rfl))
        exact ⟨⟨by show j + 1 ≤ ps.length; omega, e'⟩, by show ps.length - (j + 1) < ps.length - j; omega⟩
      · rename_i k hk hg h1 h2 j hj hg2
        have e := hk.2
        rw [show ps.length - k = 0 from by omega] at e
        have e : prE ps ps.length 0 = 0 := e.symm
        have e' := hj.2
        rw [show ps.length - j = 0 from by omega] at e'
        rw [u, if_pos e, if_pos ⟨h1, h2⟩]; exact e'
      · rename_i k hk hg h
        have e := hk.2
        rw [show ps.length - k = 0 from by omega] at e
        have e : prE ps ps.length 0 = 0 := e.symm
        rw [u, if_pos e, if_neg (fun hh => h hh.1)]
    · have u : cmErr L xs ps = 8 := by unfold cmErr; rw [if_pos ho, if_neg h8]
      have e8 : decide ((ps.length : Int) ≤ 8) = false := decide_eq_false (by omega)
      have e9 : firstI [0, bif false then 0 else 8] = 8 := rfl
      clear ec
      repeat' (intro hzz; (try (rename Two => hq; cases hq)); (try dsimp only at hzz); (try simp only [resTy, argTy, eqD, inR, big, wantOf, Bool.not_true, Bool.not_false, Bool.true_eq, decide_eq_true_eq, decide_eq_false_iff_not, Bool.not_eq_true', Bool.not_eq_false', Bool.and_eq_true, Prod.mk.injEq, and_true, true_and, Int.not_lt, Int.not_le, gt_iff_lt, ge_iff_le] at hzz); (try simp only [resTy, argTy, eqD, inR, big, wantOf, Bool.not_true, Bool.not_false, Bool.true_eq, decide_eq_true_eq, decide_eq_false_iff_not, Bool.not_eq_true', Bool.not_eq_false', Bool.and_eq_true, Prod.mk.injEq, and_true, true_and, Int.not_lt, Int.not_le, gt_iff_lt, ge_iff_le, fWithin, getD_i, ho, e8, e9] at hzz); (try (first | contradiction | (exfalso; omega))); (try (revert hzz; intro _)))
      all_goals try (rename Unit => hq; clear hq)
      all_goals try ((with_reducible refine Held.mk ?_); (with_reducible (first | refine Frz.mk ?_ | refine And.intro (Frz.mk ?_) ?_ | refine And.intro ?_ (Frz.mk ?_))); repeat' first | exact True.intro | (change _ = _; with_reducible rfl) | refine And.intro ?_ ?_ | (with_reducible refine Frz.mk ?_))
      all_goals try (refine Held.mk ?_; (try dsimp only at *); (try simp only [resTy, argTy, eqD, inR, big, wantOf, Bool.not_true, Bool.not_false, Bool.true_eq, decide_eq_true_eq, decide_eq_false_iff_not, Bool.not_eq_true', Bool.not_eq_false', Bool.and_eq_true, Prod.mk.injEq, and_true, true_and, Int.not_lt, Int.not_le, gt_iff_lt, ge_iff_le] at *); (try simp only [resTy, argTy, eqD, inR, big, wantOf, Bool.not_true, Bool.not_false, Bool.true_eq, decide_eq_true_eq, decide_eq_false_iff_not, Bool.not_eq_true', Bool.not_eq_false', Bool.and_eq_true, Prod.mk.injEq, and_true, true_and, Int.not_lt, Int.not_le, gt_iff_lt, ge_iff_le, fWithin, getD_i, ho, e8, e9] at *))
      all_goals try omega
      · simp [pLen]
      · rw [u, decide_eq_false (show ¬ (ps.length : Int) ≤ 8 by omega)]; rfl
  · have u : cmErr L xs ps = opErr L xs 1 := by unfold cmErr; rw [if_neg ho]
    rw [if_neg ho] at ec
    repeat' (intro hzz; (try (rename Two => hq; cases hq)); (try dsimp only at hzz); (try simp only [resTy, argTy, eqD, inR, big, wantOf, Bool.not_true, Bool.not_false, Bool.true_eq, decide_eq_true_eq, decide_eq_false_iff_not, Bool.not_eq_true', Bool.not_eq_false', Bool.and_eq_true, Prod.mk.injEq, and_true, true_and, Int.not_lt, Int.not_le, gt_iff_lt, ge_iff_le] at hzz); (try simp only [resTy, argTy, eqD, inR, big, wantOf, Bool.not_true, Bool.not_false, Bool.true_eq, decide_eq_true_eq, decide_eq_false_iff_not, Bool.not_eq_true', Bool.not_eq_false', Bool.and_eq_true, Prod.mk.injEq, and_true, true_and, Int.not_lt, Int.not_le, gt_iff_lt, ge_iff_le, fWithin, getD_i] at hzz); (try (first | contradiction | (exfalso; omega))); (try (revert hzz; intro _)))
    all_goals try (rename Unit => hq; clear hq)
    all_goals try ((with_reducible refine Held.mk ?_); (with_reducible (first | refine Frz.mk ?_ | refine And.intro (Frz.mk ?_) ?_ | refine And.intro ?_ (Frz.mk ?_))); repeat' first | exact True.intro | (change _ = _; with_reducible rfl) | refine And.intro ?_ ?_ | (with_reducible refine Frz.mk ?_))
    all_goals try (refine Held.mk ?_; (try dsimp only at *); (try simp only [resTy, argTy, eqD, inR, big, wantOf, Bool.not_true, Bool.not_false, Bool.true_eq, decide_eq_true_eq, decide_eq_false_iff_not, Bool.not_eq_true', Bool.not_eq_false', Bool.and_eq_true, Prod.mk.injEq, and_true, true_and, Int.not_lt, Int.not_le, gt_iff_lt, ge_iff_le] at *); (try simp only [resTy, argTy, eqD, inR, big, wantOf, Bool.not_true, Bool.not_false, Bool.true_eq, decide_eq_true_eq, decide_eq_false_iff_not, Bool.not_eq_true', Bool.not_eq_false', Bool.and_eq_true, Prod.mk.injEq, and_true, true_and, Int.not_lt, Int.not_le, gt_iff_lt, ge_iff_le, fWithin, getD_i] at *))
    all_goals try omega
    · simp [pLen]

@[reducible] def sPIsMax : Spec := { pats := [.dat Reg0], res := [{ t := .bool }, { t := I64 }], pre := fun x => pLen (List.length (α := Int) x.1.2.1), f := fun x => ((decide (opErr x.1.1 x.1.2.1 1 = 0) && decide ((per x.1.1 x.1.2.1 1 : Int) = most x.1.1)), opErr x.1.1 x.1.2.1 1, ()) }

/-- pulse.IsMaximal -/
theorem h60 : Ok 60 sPIsMax := by
  refine mk (ctr := [(83, sOpen), (121, sIsMax)]) ⟨h83, h121, trivial⟩ (nt := 18) Try.func60 rfl rfl rfl rfl (by kernel_rfl) (by kernel_rfl) (fun _ => []) ?_
  rintro ⟨⟨(L : Int), (xs : List Int), _⟩, _⟩ (hl : pLen xs.length)
  repeat' (intro hzz; (try (rename Two => hq; cases hq)); (try dsimp only at hzz); (try simp only [resTy, argTy, eqD, inR, big, wantOf, Bool.not_true, Bool.not_false, Bool.true_eq, decide_eq_true_eq, decide_eq_false_iff_not, Bool.not_eq_true', Bool.not_eq_false', Bool.and_eq_true, Prod.mk.injEq, and_true, true_and, Int.not_lt, Int.not_le, gt_iff_lt, ge_iff_le] at hzz); (try (first | contradiction | (exfalso; omega))); (try (revert hzz; intro _)))
  all_goals try (rename Unit => hq; clear hq)
  all_goals try ((with_reducible refine Held.mk ?_); (with_reducible (first | refine Frz.mk ?_ | refine And.intro (Frz.mk ?_) ?_ | refine And.intro ?_ (Frz.mk ?_))); repeat' first | exact True.intro | (change _ = _; with_reducible rfl) | refine And.intro ?_ ?_ | (with_reducible refine Frz.mk ?_))
  all_goals try (refine Held.mk ?_; (try dsimp only at *); (try simp only [resTy, argTy, eqD, inR, big, wantOf, Bool.not_true, Bool.not_false, Bool.true_eq, decide_eq_true_eq, decide_eq_false_iff_not, Bool.not_eq_true', Bool.not_eq_false', Bool.and_eq_true, Prod.mk.injEq, and_true, true_and, Int.not_lt, Int.not_le, gt_iff_lt, ge_iff_le] at *))
  all_goals try omega
  · rename_i h; exact ⟨(op_pSt hl h).1.1, hl⟩
  · rename_i h; rw [decide_eq_true h]; rfl
  · rename_i h; rw [decide_eq_false h]; rfl

end Go.Eng.Pu
