/- Contracts: the error of a register, and of a start; right registers. Conditions: each contract's own. -/
import Derived.Test.YtnficfhnfpbhkaaGreatDoorQ3
namespace Go.Eng.Pu
open Go.Eng Go.Proofs
set_option linter.all false
set_option maxRecDepth 100000
set_option maxHeartbeats 8000000

/-- The error of the taps from i on, k of them. -/
def regE (L : Int) (xs : List Int) : Nat → Nat → Int
  | 0, _ => 0
  | k + 1, i => if 1 ≤ xs.getD i 0 ∧ xs.getD i 0 ≤ L then (if 0 < i ∧ xs.getD i 0 ≤ xs.getD (i - 1) 0 then 9 else regE L xs k (i + 1)) else 2

def chk (L : Int) (xs : List Int) : Int :=
  if 2 ≤ L ∧ L ≤ 8 then (if xs.length = 0 then 10 else if regE L xs xs.length 0 = 0 then (if xs.getD (xs.length - 1) 0 = L then 0 else 6) else regE L xs xs.length 0) else 2

theorem regE_zero {L : Int} {xs : List Int} : ∀ {k i : Nat}, regE L xs k i = 0 → ∀ j, i ≤ j → j < i + k → 1 ≤ xs.getD j 0 ∧ xs.getD j 0 ≤ L ∧ (0 < j → xs.getD (j - 1) 0 < xs.getD j 0)
  | 0, i, _, j, h1, h2 => by omega
  | k + 1, i, h, j, h1, h2 => by
    simp only [regE] at h
    split at h
    · rename_i ha
      split at h
      · cases h
      · rename_i hb
        by_cases hj : j = i
        · subst hj
          exact ⟨ha.1, ha.2, fun h0 => by omega⟩
        · exact regE_zero h j (by omega) (by omega)
    · cases h

theorem mx_asc {xs : List Int} : ∀ {k : Nat}, (∀ j, 0 < j → j ≤ k → xs.getD (j - 1) 0 < xs.getD j 0) → mx xs k = xs.getD k 0
  | 0, _ => rfl
  | k + 1, h => by
    have h1 := mx_asc (k := k) fun j h1 h2 => h j h1 (by omega)
    have h2 := h (k + 1) (by omega) (Nat.le_refl _)
    simp only [Nat.add_sub_cancel] at h2
    simp only [mx, h1]
    rw [if_pos (by omega)]

theorem regE_step {L : Int} {xs : List Int} {i : Nat} (h : i < xs.length) : regE L xs (xs.length - i) i = if 1 ≤ xs.getD i 0 ∧ xs.getD i 0 ≤ L then (if 0 < i ∧ xs.getD i 0 ≤ xs.getD (i - 1) 0 then 9 else regE L xs (xs.length - (i + 1)) (i + 1)) else 2 := by
  obtain ⟨k, hk⟩ : ∃ k, xs.length - i = k + 1 := ⟨xs.length - i - 1, by omega⟩
  rw [hk, show xs.length - (i + 1) = k from by omega]
  rfl

theorem getD_m (xs : List Int) (i : Nat) (h : 0 < i) : List.getD xs ((i : Int) - 1).toNat (Ty.dflt I64) = xs.getD (i - 1) 0 := by
  rw [show ((i : Int) - 1).toNat = i - 1 from by omega]
  rfl

@[reducible] def sChk : Spec := { pats := [.dat Reg0], res := [{ t := I64 }], pre := fun x => pLen (List.length (α := Int) x.1.2.1), f := fun x => (chk x.1.1 x.1.2.1, ()) }

/-- pulse.CheckRegister -/
theorem h21 : Ok 26 sChk := by
  refine mk (ctr := [(34, sWithin), (33, sUnless), (55, sMax)]) ⟨h86, h85, h89, trivial⟩ (nt := 50) Tryz.func26 rfl rfl rfl rfl (by kernel_rfl) (by kernel_rfl) (fun x => [fun _ => { σ := Nat, pat := fun k => [sI 18 k], inv := fun k => k ≤ List.length (α := Int) x.1.2.1 ∧ regE x.1.1 x.1.2.1 (List.length (α := Int) x.1.2.1 - k) k = regE x.1.1 x.1.2.1 (List.length (α := Int) x.1.2.1) 0, meas := fun k => List.length (α := Int) x.1.2.1 - k }]) ?_
  rintro ⟨⟨(L : Int), (xs : List Int), _⟩, _⟩ (hp : pLen xs.length)
  have := hp.out
  repeat' (intro hzz; (try (rename Two => hq; cases hq)); (try dsimp only at hzz); (try simp only [resTy, argTy, eqD, inR, big, wantOf, Bool.not_true, Bool.not_false, Bool.true_eq, decide_eq_true_eq, decide_eq_false_iff_not, Bool.not_eq_true', Bool.not_eq_false', Bool.and_eq_true, Prod.mk.injEq, and_true, true_and, Int.not_lt, Int.not_le, gt_iff_lt, ge_iff_le] at hzz); (try simp only [resTy, argTy, eqD, inR, big, wantOf, Bool.not_true, Bool.not_false, Bool.true_eq, decide_eq_true_eq, decide_eq_false_iff_not, Bool.not_eq_true', Bool.not_eq_false', Bool.and_eq_true, Prod.mk.injEq, and_true, true_and, Int.not_lt, Int.not_le, gt_iff_lt, ge_iff_le, fWithin, getD_i] at hzz); (try (first | contradiction | (exfalso; omega))); (try (revert hzz; intro _)))
  all_goals try (rename Unit => hq; clear hq)
  all_goals try ((with_reducible refine Held.mk ?_); (with_reducible (first | refine Frz.mk ?_ | refine And.intro (Frz.mk ?_) ?_ | refine And.intro ?_ (Frz.mk ?_))); repeat' first | exact True.intro | (change _ = _; with_reducible rfl) | refine And.intro ?_ ?_ | (with_reducible refine Frz.mk ?_))
  all_goals try (refine Held.mk ?_; (try dsimp only at *); (try simp only [resTy, argTy, eqD, inR, big, wantOf, Bool.not_true, Bool.not_false, Bool.true_eq, decide_eq_true_eq, decide_eq_false_iff_not, Bool.not_eq_true', Bool.not_eq_false', Bool.and_eq_true, Prod.mk.injEq, and_true, true_and, Int.not_lt, Int.not_le, gt_iff_lt, ge_iff_le] at *); (try simp only [resTy, argTy, eqD, inR, big, wantOf, Bool.not_true, Bool.not_false, Bool.true_eq, decide_eq_true_eq, decide_eq_false_iff_not, Bool.not_eq_true', Bool.not_eq_false', Bool.and_eq_true, Prod.mk.injEq, and_true, true_and, Int.not_lt, Int.not_le, gt_iff_lt, ge_iff_le, fWithin, getD_i] at *))
  all_goals try omega
  · rename_i h; rw [chk, if_neg h]
  · rename_i h1 h; rw [chk, if_pos h1, if_pos (by omega)]
  · rename_i h1 h
    refine GHeld.mk ?_
    refine Exists.intro 0 ?_
    refine And.intro (Leaf.mk ?_) ?_
    · repeat' first | exact True.intro | refine And.intro ?_ ?_
      all_goals try ((change _ = _ <;> try dsimp only) <;> try with_reducible rfl)
      all_goals try omega
    exact ⟨Nat.zero_le _, rfl⟩
  · rename_i h1 h2 k hk hg h
    have e := hk.2
    rw [regE_step (by omega), if_neg h] at e
    rw [chk, if_pos h1, if_neg (by omega), ← e]; rfl
  · rename_i h1 h2 k hk hg h3 h4 h5
    have e := hk.2
    rw [getD_m xs k (by omega)] at h5
    rw [regE_step (by omega), if_pos h3, if_pos ⟨by omega, h5⟩] at e
    rw [chk, if_pos h1, if_neg (by omega), ← e]; rfl
  · rename_i h1 h2 k hk hg h3 h4 h5
    have e := hk.2
    rw [getD_m xs k (by omega)] at h5
    rw [regE_step (by omega), if_pos h3, if_neg (by omega)] at e
    refine GHeld.mk ?_
    refine Exists.intro (k + 1) ?_
    refine And.intro (Leaf.mk ?_) ?_
    · repeat' first | exact True.intro | refine And.intro ?_ ?_
      all_goals try ((change _ = _ <;> try dsimp only) <;> try with_reducible rfl)
      all_goals try omega
    exact ⟨⟨by show k + 1 ≤ xs.length; omega, e⟩, by show xs.length - (k + 1) < xs.length - k; omega⟩
  · rename_i h1 h2 k hk hg h3 h4
    have e := hk.2
    rw [regE_step (by omega), if_pos h3, if_neg (by omega)] at e
    refine GHeld.mk ?_
    refine Exists.intro (k + 1) ?_
    refine And.intro (Leaf.mk ?_) ?_
    · repeat' first | exact True.intro | refine And.intro ?_ ?_
      all_goals try ((change _ = _ <;> try dsimp only) <;> try with_reducible rfl)
      all_goals try omega
    exact ⟨⟨by show k + 1 ≤ xs.length; omega, e⟩, by show xs.length - (k + 1) < xs.length - k; omega⟩
  · exact ⟨by omega, hp⟩
  · rename_i h1 h2 k hk hg
    have e := hk.2
    rw [show xs.length - k = 0 from by omega] at e
    have e : regE L xs xs.length 0 = 0 := e.symm
    have hz := regE_zero e
    show (bif decide (mx xs (xs.length - 1) = L) then (0 : Int) else 6) = chk L xs
    rw [mx_asc (fun j h3 h4 => (hz j (by omega) (by omega)).2.2 h3), chk, if_pos h1, if_neg (by omega), if_pos e]
    by_cases h : xs.getD (xs.length - 1) 0 = L <;> simp [h]

theorem len_m (xs : List Int) (h : ¬ (xs.length : Int) = 0) : List.getD xs ((xs.length : Int) - 1).toNat (Ty.dflt I64) = xs.getD (xs.length - 1) 0 := getD_m xs xs.length (by omega)

/-- ref.CheckRegister -/
theorem h22 : Ok 11 sChk := by
  refine mk (ctr := [(30, sWithin)]) ⟨h25, trivial⟩ (nt := 55) Tryz.func11 rfl rfl rfl rfl (by kernel_rfl) (by kernel_rfl) (fun x => [fun _ => { σ := Nat, pat := fun k => [sI 3 k], inv := fun k => k ≤ List.length (α := Int) x.1.2.1 ∧ regE x.1.1 x.1.2.1 (List.length (α := Int) x.1.2.1 - k) k = regE x.1.1 x.1.2.1 (List.length (α := Int) x.1.2.1) 0, meas := fun k => List.length (α := Int) x.1.2.1 - k }]) ?_
  rintro ⟨⟨(L : Int), (xs : List Int), _⟩, _⟩ (hp : pLen xs.length)
  have := hp.out
  repeat' (intro hzz; (try (rename Two => hq; cases hq)); (try dsimp only at hzz); (try simp only [resTy, argTy, eqD, inR, big, wantOf, Bool.not_true, Bool.not_false, Bool.true_eq, decide_eq_true_eq, decide_eq_false_iff_not, Bool.not_eq_true', Bool.not_eq_false', Bool.and_eq_true, Prod.mk.injEq, and_true, true_and, Int.not_lt, Int.not_le, gt_iff_lt, ge_iff_le] at hzz); (try simp only [resTy, argTy, eqD, inR, big, wantOf, Bool.not_true, Bool.not_false, Bool.true_eq, decide_eq_true_eq, decide_eq_false_iff_not, Bool.not_eq_true', Bool.not_eq_false', Bool.and_eq_true, Prod.mk.injEq, and_true, true_and, Int.not_lt, Int.not_le, gt_iff_lt, ge_iff_le, fWithin, getD_i] at hzz); (try (first | contradiction | (exfalso; omega))); (try (revert hzz; intro _)))
  all_goals try (rename Unit => hq; clear hq)
  all_goals try ((with_reducible refine Held.mk ?_); (with_reducible (first | refine Frz.mk ?_ | refine And.intro (Frz.mk ?_) ?_ | refine And.intro ?_ (Frz.mk ?_))); repeat' first | exact True.intro | (change _ = _; with_reducible rfl) | refine And.intro ?_ ?_ | (with_reducible refine Frz.mk ?_))
  all_goals try (refine Held.mk ?_; (try dsimp only at *); (try simp only [resTy, argTy, eqD, inR, big, wantOf, Bool.not_true, Bool.not_false, Bool.true_eq, decide_eq_true_eq, decide_eq_false_iff_not, Bool.not_eq_true', Bool.not_eq_false', Bool.and_eq_true, Prod.mk.injEq, and_true, true_and, Int.not_lt, Int.not_le, gt_iff_lt, ge_iff_le] at *); (try simp only [resTy, argTy, eqD, inR, big, wantOf, Bool.not_true, Bool.not_false, Bool.true_eq, decide_eq_true_eq, decide_eq_false_iff_not, Bool.not_eq_true', Bool.not_eq_false', Bool.and_eq_true, Prod.mk.injEq, and_true, true_and, Int.not_lt, Int.not_le, gt_iff_lt, ge_iff_le, fWithin, getD_i] at *))
  all_goals try omega
  · rename_i h; rw [chk, if_neg h]
  · rename_i h1 h; rw [chk, if_pos h1, if_pos (by omega)]
  · rename_i h1 h
    refine GHeld.mk ?_
    refine Exists.intro 0 ?_
    refine And.intro (Leaf.mk ?_) ?_
    · repeat' first | exact True.intro | refine And.intro ?_ ?_
      all_goals try ((change _ = _ <;> try dsimp only) <;> try with_reducible rfl)
      all_goals try omega
    exact ⟨Nat.zero_le _, rfl⟩
  · rename_i h1 h2 k hk hg h
    have e := hk.2
    rw [regE_step (by omega), if_neg h] at e
    rw [chk, if_pos h1, if_neg (by omega), ← e]; rfl
  · rename_i h1 h2 k hk hg h3 h4 h5
    have e := hk.2
    rw [getD_m xs k (by omega)] at h5
    rw [regE_step (by omega), if_pos h3, if_pos ⟨by omega, h5⟩] at e
    rw [chk, if_pos h1, if_neg (by omega), ← e]; rfl
  · rename_i h1 h2 k hk hg h3 h4 h5
    have e := hk.2
    rw [getD_m xs k (by omega)] at h5
    rw [regE_step (by omega), if_pos h3, if_neg (by omega)] at e
    refine GHeld.mk ?_
    refine Exists.intro (k + 1) ?_
    refine And.intro (Leaf.mk ?_) ?_
    · repeat' first | exact True.intro | refine And.intro ?_ ?_
      all_goals try ((change _ = _ <;> try dsimp only) <;> try with_reducible rfl)
      all_goals try omega
    exact ⟨⟨by show k + 1 ≤ xs.length; omega, e⟩, by show xs.length - (k + 1) < xs.length - k; omega⟩
  · rename_i h1 h2 k hk hg h3 h4
    have e := hk.2
    rw [regE_step (by omega), if_pos h3, if_neg (by omega)] at e
    refine GHeld.mk ?_
    refine Exists.intro (k + 1) ?_
    refine And.intro (Leaf.mk ?_) ?_
    · repeat' first | exact True.intro | refine And.intro ?_ ?_
      all_goals try ((change _ = _ <;> try dsimp only) <;> try with_reducible rfl)
      all_goals try omega
    exact ⟨⟨by show k + 1 ≤ xs.length; omega, e⟩, by show xs.length - (k + 1) < xs.length - k; omega⟩
  · rename_i h1 h2 k hk hg h
    have e := hk.2
    rw [show xs.length - k = 0 from by omega] at e
    have e : regE L xs xs.length 0 = 0 := e.symm
    rw [len_m xs h2] at h
    rw [chk, if_pos h1, if_neg (by omega), if_pos e, if_neg h]
  · rename_i h1 h2 k hk hg h
    have e := hk.2
    rw [show xs.length - k = 0 from by omega] at e
    have e : regE L xs xs.length 0 = 0 := e.symm
    rw [len_m xs h2] at h
    rw [chk, if_pos h1, if_neg (by omega), if_pos e, if_pos h]

theorem chk_zero {L : Int} {xs : List Int} (h : chk L xs = 0) : (2 ≤ L ∧ L ≤ 8) ∧ 0 < xs.length ∧ regE L xs xs.length 0 = 0 ∧ xs.getD (xs.length - 1) 0 = L := by
  unfold chk at h
  split at h
  · rename_i h1
    split at h
    · cases h
    · split at h
      · rename_i h2 h3
        split at h
        · rename_i h4; exact ⟨h1, by omega, h3, h4⟩
        · cases h
      · rename_i h3; exact absurd h h3
  · cases h

def stErr (L s : Int) : Int := if 1 ≤ s ∧ s ≤ most L then 0 else 2

@[reducible] def sStart : Spec := { pats := [.dat Reg, .dat I64], res := [{ t := I64 }], pre := fun x => 2 ≤ x.1.1.1 ∧ x.1.1.1 ≤ (8 : Int), f := fun x => (stErr x.1.1.1 x.2.1, ()) }

/-- register.startErr -/
theorem h144 : Ok 57 sStart := by
  refine mk (ctr := [(34, sWithin), (33, sUnless), (38, sFull)]) ⟨h86, h85, h94, trivial⟩ (nt := 10) Tryz.func57 rfl rfl rfl rfl (by kernel_rfl) (by kernel_rfl) (fun _ => []) ?_
  rintro ⟨⟨⟨(L : Int), (xs : List Int), _⟩, _⟩, (s : Int), _⟩ (h : 2 ≤ L ∧ L ≤ 8)
  repeat' (intro hzz; (try (rename Two => hq; cases hq)); (try dsimp only at hzz); (try simp only [resTy, argTy, eqD, inR, big, wantOf, Bool.not_true, Bool.not_false, Bool.true_eq, decide_eq_true_eq, decide_eq_false_iff_not, Bool.not_eq_true', Bool.not_eq_false', Bool.and_eq_true, Prod.mk.injEq, and_true, true_and, Int.not_lt, Int.not_le, gt_iff_lt, ge_iff_le] at hzz); (try simp only [resTy, argTy, eqD, inR, big, wantOf, Bool.not_true, Bool.not_false, Bool.true_eq, decide_eq_true_eq, decide_eq_false_iff_not, Bool.not_eq_true', Bool.not_eq_false', Bool.and_eq_true, Prod.mk.injEq, and_true, true_and, Int.not_lt, Int.not_le, gt_iff_lt, ge_iff_le, fWithin] at hzz); (try (revert hzz; intro _)))
  all_goals try (rename Unit => hq; clear hq)
  all_goals try ((with_reducible refine Held.mk ?_); (with_reducible (first | refine Frz.mk ?_ | refine And.intro (Frz.mk ?_) ?_ | refine And.intro ?_ (Frz.mk ?_))); repeat' first | exact True.intro | (change _ = _; with_reducible rfl) | refine And.intro ?_ ?_ | (with_reducible refine Frz.mk ?_))
  all_goals try (refine Held.mk ?_; (try dsimp only at *); (try simp only [resTy, argTy, eqD, inR, big, wantOf, Bool.not_true, Bool.not_false, Bool.true_eq, decide_eq_true_eq, decide_eq_false_iff_not, Bool.not_eq_true', Bool.not_eq_false', Bool.and_eq_true, Prod.mk.injEq, and_true, true_and, Int.not_lt, Int.not_le, gt_iff_lt, ge_iff_le] at *); (try simp only [resTy, argTy, eqD, inR, big, wantOf, Bool.not_true, Bool.not_false, Bool.true_eq, decide_eq_true_eq, decide_eq_false_iff_not, Bool.not_eq_true', Bool.not_eq_false', Bool.and_eq_true, Prod.mk.injEq, and_true, true_and, Int.not_lt, Int.not_le, gt_iff_lt, ge_iff_le, fWithin] at *))
  · exact h
  · by_cases h1 : 1 ≤ s ∧ s ≤ most L <;> simp [stErr, h1]

def opErr (L : Int) (xs : List Int) (s : Int) : Int := if chk L xs = 0 then stErr L s else chk L xs

@[reducible] def sOpen : Spec := { pats := [.dat Reg0, .dat I64], res := [{ t := Reg }, { t := I64 }], pre := fun x => pLen (List.length (α := Int) x.1.2.1), f := fun x => ((x.1, ()), opErr x.1.1 x.1.2.1 x.2.1, ()) }

/-- pulse.open -/
theorem h83 : Ok 31 sOpen := by
  refine mk (ctr := [(26, sChk), (57, sStart)]) ⟨h21, h144, trivial⟩ (nt := 20) Tryz.func31 rfl rfl rfl rfl (by kernel_rfl) (by kernel_rfl) (fun _ => []) ?_
  rintro ⟨⟨(L : Int), (xs : List Int), _⟩, (s : Int), _⟩ (hp : pLen xs.length)
  repeat' (intro hzz; (try (rename Two => hq; cases hq)); (try dsimp only at hzz); (try simp only [resTy, argTy, eqD, inR, big, wantOf, Bool.not_true, Bool.not_false, Bool.true_eq, decide_eq_true_eq, decide_eq_false_iff_not, Bool.not_eq_true', Bool.not_eq_false', Bool.and_eq_true, Prod.mk.injEq, and_true, true_and, Int.not_lt, Int.not_le, gt_iff_lt, ge_iff_le] at hzz); (try (first | contradiction | (exfalso; omega))); (try (revert hzz; intro _)))
  all_goals try (rename Unit => hq; clear hq)
  all_goals try ((with_reducible refine Held.mk ?_); (with_reducible (first | refine Frz.mk ?_ | refine And.intro (Frz.mk ?_) ?_ | refine And.intro ?_ (Frz.mk ?_))); repeat' first | exact True.intro | (change _ = _; with_reducible rfl) | refine And.intro ?_ ?_ | (with_reducible refine Frz.mk ?_))
  all_goals try (refine Held.mk ?_; (try dsimp only at *); (try simp only [resTy, argTy, eqD, inR, big, wantOf, Bool.not_true, Bool.not_false, Bool.true_eq, decide_eq_true_eq, decide_eq_false_iff_not, Bool.not_eq_true', Bool.not_eq_false', Bool.and_eq_true, Prod.mk.injEq, and_true, true_and, Int.not_lt, Int.not_le, gt_iff_lt, ge_iff_le] at *))
  all_goals try omega
  · rename_i h; exact (if_neg h).symm
  · rename_i h; exact (chk_zero h).1
  · rename_i h; exact (if_pos h).symm

@[reducible] def sStartR : Spec := { pats := [.dat Reg0, .dat I64], res := [{ t := I64 }], pre := fun x => pLen (List.length (α := Int) x.1.2.1), f := fun x => (opErr x.1.1 x.1.2.1 x.2.1, ()) }

@[reducible] def sCopy : Spec := { pats := [.dat Reg0], res := [{ t := Reg0 }], pre := fun x => pLen (List.length (α := Int) x.1.2.1) ∧ List.length (α := Int) x.1.2.1 ≤ 2000000000, f := fun x => (x.1, ()) }

/-- ref.Copy -/
theorem h19 : Ok 6 sCopy := by
  refine mk (ctr := [(22, sCopyInts)]) ⟨h36, trivial⟩ (nt := 9) Tryz.func6 rfl rfl rfl rfl (by kernel_rfl) (by kernel_rfl) (fun _ => []) ?_
  rintro ⟨⟨(L : Int), (xs : List Int), _⟩, _⟩ (hp : pLen xs.length ∧ xs.length ≤ 2000000000)
  repeat' (intro hzz; (try (rename Two => hq; cases hq)); (try dsimp only at hzz); (try simp only [resTy, argTy, eqD, inR, big, wantOf, Bool.not_true, Bool.not_false, Bool.true_eq, decide_eq_true_eq, decide_eq_false_iff_not, Bool.not_eq_true', Bool.not_eq_false', Bool.and_eq_true, Prod.mk.injEq, and_true, true_and, Int.not_lt, Int.not_le, gt_iff_lt, ge_iff_le] at hzz); (try (first | contradiction | (exfalso; omega))); (try (revert hzz; intro _)))
  all_goals try (rename Unit => hq; clear hq)
  all_goals try ((with_reducible refine Held.mk ?_); (with_reducible (first | refine Frz.mk ?_ | refine And.intro (Frz.mk ?_) ?_ | refine And.intro ?_ (Frz.mk ?_))); repeat' first | exact True.intro | (change _ = _; with_reducible rfl) | refine And.intro ?_ ?_ | (with_reducible refine Frz.mk ?_))
  all_goals try (refine Held.mk ?_; (try dsimp only at *); (try simp only [resTy, argTy, eqD, inR, big, wantOf, Bool.not_true, Bool.not_false, Bool.true_eq, decide_eq_true_eq, decide_eq_false_iff_not, Bool.not_eq_true', Bool.not_eq_false', Bool.and_eq_true, Prod.mk.injEq, and_true, true_and, Int.not_lt, Int.not_le, gt_iff_lt, ge_iff_le] at *))
  all_goals try omega

end Go.Eng.Pu
