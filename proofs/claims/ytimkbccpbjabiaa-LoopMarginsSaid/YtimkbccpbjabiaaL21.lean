/- Contracts of the reference's copies, checks, values and arcs; the law LoopValues returns true. Conditions: each contract's own. -/
import Derived.Test.YtimkbccpbjabiaaL20
namespace Go.Eng.Lp
open Go.Eng Go.Proofs
set_option linter.all false
set_option maxRecDepth 100000
set_option maxHeartbeats 8000000

abbrev pCopy (n : Nat) : Prop := n ≤ 1000000
@[reducible] def sCopyInts : Spec := { pats := [.dat (.sl I64)], res := [{ t := .sl I64 }], pre := fun x => pCopy (List.length (α := Int) x.1), f := fun x => (x.1, ()) }

/-- base.CopyInts -/
theorem h45 : Ok 45 sCopyInts := by
  refine mk (ctr := []) trivial (nt := 6) Try.func45 rfl rfl rfl rfl (by kernel_rfl) (by kernel_rfl) (fun _ => []) ?_
  rintro ⟨(xs : List Int), _⟩ (hp : xs.length ≤ 1000000)
  repeat' (intro hzz; (try (rename Two => hq; cases hq)); (try dsimp only at hzz); (try simp only [resTy, argTy, eqD, inR, big, wantOf, Bool.not_true, Bool.not_false, Bool.true_eq, decide_eq_true_eq, decide_eq_false_iff_not, Bool.not_eq_true', Bool.not_eq_false', Bool.and_eq_true, Prod.mk.injEq, and_true, true_and, Int.not_lt, Int.not_le, gt_iff_lt, ge_iff_le] at hzz); (try simp only [resTy, argTy, eqD, inR, big, wantOf, Bool.not_true, Bool.not_false, Bool.true_eq, decide_eq_true_eq, decide_eq_false_iff_not, Bool.not_eq_true', Bool.not_eq_false', Bool.and_eq_true, Prod.mk.injEq, and_true, true_and, Int.not_lt, Int.not_le, gt_iff_lt, ge_iff_le, List.nil_append, List.length_nil] at hzz); (try (revert hzz; intro _)))
  all_goals try (rename Unit => hq; clear hq)
  all_goals try ((with_reducible refine Held.mk ?_); (with_reducible (first | refine Frz.mk ?_ | refine And.intro (Frz.mk ?_) ?_ | refine And.intro ?_ (Frz.mk ?_))); repeat' first | exact True.intro | (change _ = _; with_reducible rfl) | refine And.intro ?_ ?_ | (with_reducible refine Frz.mk ?_))
  all_goals try (refine Held.mk ?_; (try dsimp only at *); (try simp only [resTy, argTy, eqD, inR, big, wantOf, Bool.not_true, Bool.not_false, Bool.true_eq, decide_eq_true_eq, decide_eq_false_iff_not, Bool.not_eq_true', Bool.not_eq_false', Bool.and_eq_true, Prod.mk.injEq, and_true, true_and, Int.not_lt, Int.not_le, gt_iff_lt, ge_iff_le] at *); (try simp only [resTy, argTy, eqD, inR, big, wantOf, Bool.not_true, Bool.not_false, Bool.true_eq, decide_eq_true_eq, decide_eq_false_iff_not, Bool.not_eq_true', Bool.not_eq_false', Bool.and_eq_true, Prod.mk.injEq, and_true, true_and, Int.not_lt, Int.not_le, gt_iff_lt, ge_iff_le, List.nil_append, List.length_nil] at *))
  all_goals try omega

@[reducible] def sCopy : Spec := { pats := [.dat LoopT], res := [{ t := LoopT }], pre := fun x => pCopy (List.length (α := Int) x.1.1), f := fun x => (x.1, ()) }

/-- ref.Copy -/
theorem h23 : Ok 23 sCopy := by
  refine mk (ctr := [(45, sCopyInts)]) ⟨h45, trivial⟩ (nt := 8) Try.func23 rfl rfl rfl rfl (by kernel_rfl) (by kernel_rfl) (fun _ => []) ?_
  rintro ⟨⟨(T : List Int), (g : Int), _⟩, _⟩ (hp : T.length ≤ 1000000)
  repeat' (intro hzz; (try (rename Two => hq; cases hq)); (try dsimp only at hzz); (try simp only [resTy, argTy, eqD, inR, big, wantOf, Bool.not_true, Bool.not_false, Bool.true_eq, decide_eq_true_eq, decide_eq_false_iff_not, Bool.not_eq_true', Bool.not_eq_false', Bool.and_eq_true, Prod.mk.injEq, and_true, true_and, Int.not_lt, Int.not_le, gt_iff_lt, ge_iff_le] at hzz); (try (revert hzz; intro _)))
  all_goals try (rename Unit => hq; clear hq)
  all_goals try ((with_reducible refine Held.mk ?_); (with_reducible (first | refine Frz.mk ?_ | refine And.intro (Frz.mk ?_) ?_ | refine And.intro ?_ (Frz.mk ?_))); repeat' first | exact True.intro | (change _ = _; with_reducible rfl) | refine And.intro ?_ ?_ | (with_reducible refine Frz.mk ?_))
  all_goals try (refine Held.mk ?_; (try dsimp only at *); (try simp only [resTy, argTy, eqD, inR, big, wantOf, Bool.not_true, Bool.not_false, Bool.true_eq, decide_eq_true_eq, decide_eq_false_iff_not, Bool.not_eq_true', Bool.not_eq_false', Bool.and_eq_true, Prod.mk.injEq, and_true, true_and, Int.not_lt, Int.not_le, gt_iff_lt, ge_iff_le] at *))
  all_goals try omega

@[reducible] def sFew : Spec := { pats := [.dat LoopT], res := [{ t := .bool }], pre := fun _ => True, f := fun x => (decide ((List.length (α := Int) x.1.1 : Int) ≤ 34), ()) }

/-- few -/
theorem h21 : Ok 21 sFew := by
  refine mk (ctr := []) trivial (nt := 7) Try.func21 rfl rfl rfl rfl (by kernel_rfl) (by kernel_rfl) (fun _ => []) ?_
  rintro ⟨⟨(T : List Int), (g : Int), _⟩, _⟩ _
  repeat' (intro hzz; (try (rename Two => hq; cases hq)); (try dsimp only at hzz); (try simp only [resTy, argTy, eqD, inR, big, wantOf, Bool.not_true, Bool.not_false, Bool.true_eq, decide_eq_true_eq, decide_eq_false_iff_not, Bool.not_eq_true', Bool.not_eq_false', Bool.and_eq_true, Prod.mk.injEq, and_true, true_and, Int.not_lt, Int.not_le, gt_iff_lt, ge_iff_le] at hzz); (try (revert hzz; intro _)))
  all_goals try (rename Unit => hq; clear hq)
  all_goals try ((with_reducible refine Held.mk ?_); (with_reducible (first | refine Frz.mk ?_ | refine And.intro (Frz.mk ?_) ?_ | refine And.intro ?_ (Frz.mk ?_))); repeat' first | exact True.intro | (change _ = _; with_reducible rfl) | refine And.intro ?_ ?_ | (with_reducible refine Frz.mk ?_))
  all_goals try (refine Held.mk ?_; (try dsimp only at *); (try simp only [resTy, argTy, eqD, inR, big, wantOf, Bool.not_true, Bool.not_false, Bool.true_eq, decide_eq_true_eq, decide_eq_false_iff_not, Bool.not_eq_true', Bool.not_eq_false', Bool.and_eq_true, Prod.mk.injEq, and_true, true_and, Int.not_lt, Int.not_le, gt_iff_lt, ge_iff_le] at *))
  all_goals try omega

def rcAnn (T : List Int) : LoopAnn := { σ := Nat, pat := fun k => [sI 3 k], inv := fun k => k ≤ T.length ∧ ∀ i, i < k → big102 (T.getD i 0) = false, meas := fun k => T.length - k }

theorem any_big {T : List Int} (h : ∀ i, i < T.length → big102 (T.getD i 0) = false) : ¬ (T.any big102 = true) := by
  intro hc
  obtain ⟨x, hx, hb⟩ := List.any_eq_true.1 hc
  obtain ⟨i, hi, rfl⟩ := List.mem_iff_getElem.1 hx
  have := h i hi
  simp [List.getD, List.getElem?_eq_getElem hi, hb] at this

/-- ref.CheckLoop -/
theorem h25 : Ok 25 sCheckLoop := by
  refine mk (ctr := [(17, sWithin)]) ⟨h17, trivial⟩ (nt := 35) Try.func25 rfl rfl rfl rfl (by kernel_rfl) (by kernel_rfl) (fun x => [fun _ => rcAnn x.1.1]) ?_
  rintro ⟨⟨(T : List Int), (g : Int), _⟩, _⟩ _
  repeat' (intro hzz; (try (rename Two => hq; cases hq)); (try dsimp only at hzz); (try simp only [resTy, argTy, eqD, inR, big, wantOf, Bool.not_true, Bool.not_false, Bool.true_eq, decide_eq_true_eq, decide_eq_false_iff_not, Bool.not_eq_true', Bool.not_eq_false', Bool.and_eq_true, Prod.mk.injEq, and_true, true_and, Int.not_lt, Int.not_le, gt_iff_lt, ge_iff_le] at hzz); (try simp only [resTy, argTy, eqD, inR, big, wantOf, Bool.not_true, Bool.not_false, Bool.true_eq, decide_eq_true_eq, decide_eq_false_iff_not, Bool.not_eq_true', Bool.not_eq_false', Bool.and_eq_true, Prod.mk.injEq, and_true, true_and, Int.not_lt, Int.not_le, gt_iff_lt, ge_iff_le, getD_i, fWithin] at hzz); (try (revert hzz; intro _)))
  all_goals try (rename Unit => hq; clear hq)
  all_goals try ((with_reducible refine Held.mk ?_); (with_reducible (first | refine Frz.mk ?_ | refine And.intro (Frz.mk ?_) ?_ | refine And.intro ?_ (Frz.mk ?_))); repeat' first | exact True.intro | (change _ = _; with_reducible rfl) | refine And.intro ?_ ?_ | (with_reducible refine Frz.mk ?_))
  all_goals try (refine Held.mk ?_; (try dsimp only at *); (try simp only [resTy, argTy, eqD, inR, big, wantOf, Bool.not_true, Bool.not_false, Bool.true_eq, decide_eq_true_eq, decide_eq_false_iff_not, Bool.not_eq_true', Bool.not_eq_false', Bool.and_eq_true, Prod.mk.injEq, and_true, true_and, Int.not_lt, Int.not_le, gt_iff_lt, ge_iff_le] at *); (try simp only [resTy, argTy, eqD, inR, big, wantOf, Bool.not_true, Bool.not_false, Bool.true_eq, decide_eq_true_eq, decide_eq_false_iff_not, Bool.not_eq_true', Bool.not_eq_false', Bool.and_eq_true, Prod.mk.injEq, and_true, true_and, Int.not_lt, Int.not_le, gt_iff_lt, ge_iff_le, getD_i, fWithin] at *))
  all_goals try omega
  · rename_i h
    simp only [fCheckLoop]; rw [if_pos (by omega)]
  · rename_i h1 h2
    simp only [fCheckLoop]; rw [if_neg (by omega), if_pos (by omega)]
  · rename_i h1 h2 h3
    have h3 : T.getD 0 0 ≠ 0 := h3
    simp only [fCheckLoop]; rw [if_neg (by omega), if_neg (by omega), if_pos h3]
  ·
    refine GHeld.mk ?_
    refine Exists.intro (0 : Nat) ?_
    refine And.intro (Leaf.mk ?_) ?_
    · repeat' first | exact True.intro | refine And.intro ?_ ?_
      all_goals try ((change _ = _ <;> try dsimp only) <;> try with_reducible rfl)
      all_goals try omega
    exact ⟨Nat.zero_le _, fun i hi => by omega⟩
  · rename_i h1 h2 h3 k h4 h5 h6
    have h3 : ¬ (T.getD 0 0 ≠ 0) := fun hc => hc h3
    have hk : k < T.length := by omega
    have hm : T.getD k 0 ∈ T := by simp [List.getD, List.getElem?_eq_getElem hk]
    have hb : T.any big102 = true := List.any_eq_true.2 ⟨_, hm, by simp only [big102, fWithin, Bool.not_eq_true', decide_eq_false_iff_not]; exact h6⟩
    simp only [fCheckLoop]; rw [if_neg (by omega), if_neg (by omega), if_neg h3, if_pos (.inl hb)]
  · rename_i h1 h2 h3 k h4 h5 h6
    have hk : k < T.length := by omega
    refine GHeld.mk ?_
    refine Exists.intro (k + 1) ?_
    refine And.intro (Leaf.mk ?_) ?_
    · repeat' first | exact True.intro | refine And.intro ?_ ?_
      all_goals try ((change _ = _ <;> try dsimp only) <;> try with_reducible rfl)
      all_goals try omega
    refine ⟨⟨hk, fun i hi => ?_⟩, ?_⟩
    · by_cases hik : i < k
      · have := h4.2 i hik
        simp only [big102, fWithin, Bool.not_eq_false', decide_eq_true_eq]; exact this
      · obtain rfl : i = k := by omega
        simp only [big102, fWithin, Bool.not_eq_false', decide_eq_true_eq]; exact h6
    · change T.length - (k + 1) < T.length - k
      omega
  · rename_i h1 h2 h3 k h4 h5 h6
    have h3 : ¬ (T.getD 0 0 ≠ 0) := fun hc => hc h3
    simp only [fCheckLoop]; rw [if_neg (by omega), if_neg (by omega), if_neg h3, if_pos (.inr h6)]
  · rename_i h1 h2 h3 k h4 h5 h6
    have h3 : ¬ (T.getD 0 0 ≠ 0) := fun hc => hc h3
    have hb : ¬ (T.any big102 = true) := any_big fun i hi => by
      have := h4.2 i (by omega)
      simp only [big102, fWithin, Bool.not_eq_false', decide_eq_true_eq]; exact this
    simp only [fCheckLoop]; rw [if_neg (by omega), if_neg (by omega), if_neg h3, if_neg (fun h => h.elim hb (fun h => h h6))]

/-- ref.ArcErr -/
theorem h27 : Ok 27 sArcErr := by
  refine mk (ctr := [(17, sWithin)]) ⟨h17, trivial⟩ (nt := 18) Try.func27 rfl rfl rfl rfl (by kernel_rfl) (by kernel_rfl) (fun _ => []) ?_
  rintro ⟨⟨(fr : Int), (to : Int), _⟩, _⟩ _
  repeat' (intro hzz; (try (rename Two => hq; cases hq)); (try dsimp only at hzz); (try simp only [resTy, argTy, eqD, inR, big, wantOf, Bool.not_true, Bool.not_false, Bool.true_eq, decide_eq_true_eq, decide_eq_false_iff_not, Bool.not_eq_true', Bool.not_eq_false', Bool.and_eq_true, Prod.mk.injEq, and_true, true_and, Int.not_lt, Int.not_le, gt_iff_lt, ge_iff_le] at hzz); (try simp only [resTy, argTy, eqD, inR, big, wantOf, Bool.not_true, Bool.not_false, Bool.true_eq, decide_eq_true_eq, decide_eq_false_iff_not, Bool.not_eq_true', Bool.not_eq_false', Bool.and_eq_true, Prod.mk.injEq, and_true, true_and, Int.not_lt, Int.not_le, gt_iff_lt, ge_iff_le, fArcErr, fWithin] at hzz); (try (revert hzz; intro _)))
  all_goals try (rename Unit => hq; clear hq)
  all_goals try ((with_reducible refine Held.mk ?_); (with_reducible (first | refine Frz.mk ?_ | refine And.intro (Frz.mk ?_) ?_ | refine And.intro ?_ (Frz.mk ?_))); repeat' first | exact True.intro | (change _ = _; with_reducible rfl) | refine And.intro ?_ ?_ | (with_reducible refine Frz.mk ?_))
  all_goals try (refine Held.mk ?_; (try dsimp only at *); (try simp only [resTy, argTy, eqD, inR, big, wantOf, Bool.not_true, Bool.not_false, Bool.true_eq, decide_eq_true_eq, decide_eq_false_iff_not, Bool.not_eq_true', Bool.not_eq_false', Bool.and_eq_true, Prod.mk.injEq, and_true, true_and, Int.not_lt, Int.not_le, gt_iff_lt, ge_iff_le] at *); (try simp only [resTy, argTy, eqD, inR, big, wantOf, Bool.not_true, Bool.not_false, Bool.true_eq, decide_eq_true_eq, decide_eq_false_iff_not, Bool.not_eq_true', Bool.not_eq_false', Bool.and_eq_true, Prod.mk.injEq, and_true, true_and, Int.not_lt, Int.not_le, gt_iff_lt, ge_iff_le, fArcErr, fWithin] at *))
  all_goals try omega

theorem tmod0 (x : Int) : (x.tmod 16384000 ≠ 0) = (¬ x % 16384000 = 0) := by
  have h1 := Int.tmod_eq_emod (a := x) (b := 16384000)
  have h2 := Int.emod_nonneg x (show (16384000 : Int) ≠ 0 by decide)
  have h3 := Int.emod_lt_of_pos x (show (0 : Int) < 16384000 by decide)
  apply propext
  split at h1
  · rw [h1]; simp
  · rename_i hc
    constructor
    · intro _ h0
      exact hc (.inr (Int.dvd_of_emod_eq_zero h0))
    · intro _ h0
      simp at h1
      omega

@[reducible] def sRefValue : Spec := { pats := [.dat (.sl DirT), .dat LoopT, .dat I64], res := [{ t := Ball }], pre := fun x => x.1 = theTable ∧ GoodLoop x.2.1.1 x.2.1.2.1 ∧ -1000000 ≤ x.2.2.1 ∧ x.2.2.1 ≤ 1000000, f := fun x => (valueI x.2.1.1 x.2.1.2.1 x.2.2.1, ()) }
def rvAnn (T : List Int) (m : Int) : LoopAnn := { σ := Nat, pat := fun k => [sI 10 k, sI 7 (sm (vX T m) k), sI 8 (sm (vY T m) k), sI 9 (sm (vR T m) k)], inv := fun k => k ≤ T.length, meas := fun k => T.length - k }

/-- ref.Value -/
theorem h26 : Ok 26 sRefValue := by
  refine mk (ctr := [(19, sRefUnit), (87, sSize), (79, sRoundR), (88, sCeil), (66, sMod)]) ⟨h19, h87, h79, h88, h66, trivial⟩ (nt := 89) Try.func26 rfl rfl rfl rfl (by kernel_rfl) (by kernel_rfl) (fun x => [fun _ => rvAnn x.2.1.1 x.2.2.1]) ?_
  rintro ⟨_, ⟨(T : List Int), (g : Int), _⟩, (m : Int), _⟩ ⟨(rfl : _ = theTable), (hT : GoodLoop T g), (hm0 : -1000000 ≤ m), (hm1 : m ≤ 1000000)⟩
  have hl := hT.le
  have hx := fun k (hk : k ≤ T.length) => sX_le hT m hk
  have hy := fun k (hk : k ≤ T.length) => sY_le hT m hk
  have hr := fun k (hk : k ≤ T.length) => sR_le hT m hk
  repeat' (intro hzz; (try (rename Two => hq; cases hq)); (try dsimp only at hzz); (try simp only [resTy, argTy, eqD, inR, big, wantOf, Bool.not_true, Bool.not_false, Bool.true_eq, decide_eq_true_eq, decide_eq_false_iff_not, Bool.not_eq_true', Bool.not_eq_false', Bool.and_eq_true, Prod.mk.injEq, and_true, true_and, Int.not_lt, Int.not_le, gt_iff_lt, ge_iff_le] at hzz); (try simp only [resTy, argTy, eqD, inR, big, wantOf, Bool.not_true, Bool.not_false, Bool.true_eq, decide_eq_true_eq, decide_eq_false_iff_not, Bool.not_eq_true', Bool.not_eq_false', Bool.and_eq_true, Prod.mk.injEq, and_true, true_and, Int.not_lt, Int.not_le, gt_iff_lt, ge_iff_le, getD_i, pSize, pFloor, fSize, fMod] at hzz); (try (revert hzz; intro _)))
  all_goals try (rename Unit => hq; clear hq)
  all_goals try ((with_reducible refine Held.mk ?_); (with_reducible (first | refine Frz.mk ?_ | refine And.intro (Frz.mk ?_) ?_ | refine And.intro ?_ (Frz.mk ?_))); repeat' first | exact True.intro | (change _ = _; with_reducible rfl) | refine And.intro ?_ ?_ | (with_reducible refine Frz.mk ?_))
  all_goals try (refine Held.mk ?_; (try dsimp only at *); (try simp only [resTy, argTy, eqD, inR, big, wantOf, Bool.not_true, Bool.not_false, Bool.true_eq, decide_eq_true_eq, decide_eq_false_iff_not, Bool.not_eq_true', Bool.not_eq_false', Bool.and_eq_true, Prod.mk.injEq, and_true, true_and, Int.not_lt, Int.not_le, gt_iff_lt, ge_iff_le] at *); (try simp only [resTy, argTy, eqD, inR, big, wantOf, Bool.not_true, Bool.not_false, Bool.true_eq, decide_eq_true_eq, decide_eq_false_iff_not, Bool.not_eq_true', Bool.not_eq_false', Bool.and_eq_true, Prod.mk.injEq, and_true, true_and, Int.not_lt, Int.not_le, gt_iff_lt, ge_iff_le, getD_i, pSize, pFloor, fSize, fMod] at *))
  all_goals try omega
  ·
    refine GHeld.mk ?_
    refine Exists.intro (0 : Nat) ?_
    refine And.intro (Leaf.mk ?_) ?_
    · repeat' first | exact True.intro | refine And.intro ?_ ?_
      all_goals try ((change _ = _ <;> try dsimp only) <;> try with_reducible rfl)
      all_goals try omega
      all_goals (rfl)
    exact Nat.zero_le _
  all_goals try
    (rename_i k h1 h2
     have hk : k < T.length := by omega
     have hv := hT.val k hk
     have a1 := vX_le hT m hk
     have a2 := vY_le hT m hk
     have a3 := vR_le hT m hk
     have b1 := hx k h1
     have b2 := hy k h1
     have b3 := hr k h1
     have c1 := mul_bd (x := -m) (d := (k : Int)) (X := 1000000) (B := 32) (by omega) (by omega) (by omega) (by omega)
     simp only [vX, vY, vR] at a1 a2 a3
     omega)
  · rename_i k h1 h2
    have hk : k < T.length := by omega
    refine GHeld.mk ?_
    refine Exists.intro (k + 1) ?_
    refine And.intro (Leaf.mk ?_) ?_
    · repeat' first | exact True.intro | refine And.intro ?_ ?_
      all_goals try ((change _ = _ <;> try dsimp only) <;> try with_reducible rfl)
      all_goals try omega
      all_goals (rfl)
    refine ⟨hk, ?_⟩
    change T.length - (k + 1) < T.length - k
    omega
  all_goals have c1 := mulg (hx T.length (Nat.le_refl _)).1 (hx T.length (Nat.le_refl _)).2 hT.gain0 hT.gain1
  all_goals have c2 := mulg (hy T.length (Nat.le_refl _)).1 (hy T.length (Nat.le_refl _)).2 hT.gain0 hT.gain1
  all_goals have c3 := mulg (x := sm (vR T m) T.length) (g := g) (B := 1048576) (by have := hr T.length (Nat.le_refl _); omega) (hr T.length (Nat.le_refl _)).2 hT.gain0 hT.gain1
  all_goals try
    (rename_i k h1 h2
     obtain rfl : k = T.length := by omega
     first
      | omega
      | exact (⟨by decide, by decide, by omega, by omega⟩ : (0 : Int) < 16384000 ∧ (16384000 : Int) ≤ 2000000000000000000 ∧ -8000000000000000000 ≤ sm (vX T m) T.length * g ∧ sm (vX T m) T.length * g ≤ 7000000000000000000)
      | exact (⟨by decide, by decide, by omega, by omega⟩ : (0 : Int) < 16384000 ∧ (16384000 : Int) ≤ 2000000000000000000 ∧ -8000000000000000000 ≤ sm (vY T m) T.length * g ∧ sm (vY T m) T.length * g ≤ 7000000000000000000)
      | exact (⟨by decide, by decide⟩ : (0 : Int) < 16384000 ∧ (16384000 : Int) ≤ 2000000000000000000))
  all_goals try exact (⟨by decide, by decide⟩ : (0 : Int) < 16384000 ∧ (16384000 : Int) ≤ 2000000000000000000)
  all_goals try
    (rename_i k h1 h2 h3 h4
     obtain rfl : k = T.length := by omega
     first
      | (simp only [fCeil]; omega)
      | (simp only [valueI, tmod0, fRoundR, fRound]
         first
          | (rw [if_pos (.inr h4)]; exact ⟨by omega, by omega, rfl⟩)
          | (rw [if_neg (by rintro (h | h) <;> contradiction), Int.add_zero]; exact ⟨by omega, by omega, rfl⟩)))
  all_goals
    (rename_i k h1 h2 h3
     obtain rfl : k = T.length := by omega
     first
      | (simp only [fCeil]; omega)
      | (simp only [valueI, tmod0, fRoundR, fRound]
         rw [if_pos (.inl h3)]; exact ⟨by omega, by omega, rfl⟩))

@[reducible] def sRefArc : Spec := { pats := [.dat (.sl DirT), .dat LoopT, .dat ArcT], res := [{ t := Ball }], pre := fun x => x.1 = theTable ∧ GoodLoop x.2.1.1 x.2.1.2.1 ∧ fArcErr x.2.2.1.1 x.2.2.1.2.1 = 0, f := fun x => (arcI x.2.1.1 x.2.1.2.1 x.2.2.1.1 x.2.2.1.2.1, ()) }
def raAnn (T : List Int) : LoopAnn := { σ := Nat, pat := fun k => [sI 10 k, sI 9 (sSlope T k)], inv := fun k => k ≤ T.length, meas := fun k => T.length - k }

/-- ref.Arc -/
theorem h28 : Ok 28 sRefArc := by
  refine mk (ctr := [(39, sFloor), (26, sRefValue), (87, sSize), (88, sCeil)]) ⟨h39, h26, h87, h88, trivial⟩ (nt := 54) Try.func28 rfl rfl rfl rfl (by kernel_rfl) (by kernel_rfl) (fun x => [fun _ => raAnn x.2.1.1]) ?_
  rintro ⟨_, ⟨(T : List Int), (g : Int), _⟩, ⟨(a : Int), (b : Int), _⟩, _⟩ ⟨(rfl : _ = theTable), (hT : GoodLoop T g), (ha : fArcErr a b = 0)⟩
  have hl := hT.le
  have ha := arc_of ha
  repeat' (intro hzz; (try (rename Two => hq; cases hq)); (try dsimp only at hzz); (try simp only [resTy, argTy, eqD, inR, big, wantOf, Bool.not_true, Bool.not_false, Bool.true_eq, decide_eq_true_eq, decide_eq_false_iff_not, Bool.not_eq_true', Bool.not_eq_false', Bool.and_eq_true, Prod.mk.injEq, and_true, true_and, Int.not_lt, Int.not_le, gt_iff_lt, ge_iff_le] at hzz); (try simp only [resTy, argTy, eqD, inR, big, wantOf, Bool.not_true, Bool.not_false, Bool.true_eq, decide_eq_true_eq, decide_eq_false_iff_not, Bool.not_eq_true', Bool.not_eq_false', Bool.and_eq_true, Prod.mk.injEq, and_true, true_and, Int.not_lt, Int.not_le, gt_iff_lt, ge_iff_le, getD_i, pSize, pFloor, fSize, fFloor] at hzz); (try (revert hzz; intro _)))
  all_goals try (rename Unit => hq; clear hq)
  all_goals try ((with_reducible refine Held.mk ?_); (with_reducible (first | refine Frz.mk ?_ | refine And.intro (Frz.mk ?_) ?_ | refine And.intro ?_ (Frz.mk ?_))); repeat' first | exact True.intro | (change _ = _; with_reducible rfl) | refine And.intro ?_ ?_ | (with_reducible refine Frz.mk ?_))
  all_goals try (refine Held.mk ?_; (try dsimp only at *); (try simp only [resTy, argTy, eqD, inR, big, wantOf, Bool.not_true, Bool.not_false, Bool.true_eq, decide_eq_true_eq, decide_eq_false_iff_not, Bool.not_eq_true', Bool.not_eq_false', Bool.and_eq_true, Prod.mk.injEq, and_true, true_and, Int.not_lt, Int.not_le, gt_iff_lt, ge_iff_le] at *); (try simp only [resTy, argTy, eqD, inR, big, wantOf, Bool.not_true, Bool.not_false, Bool.true_eq, decide_eq_true_eq, decide_eq_false_iff_not, Bool.not_eq_true', Bool.not_eq_false', Bool.and_eq_true, Prod.mk.injEq, and_true, true_and, Int.not_lt, Int.not_le, gt_iff_lt, ge_iff_le, getD_i, pSize, pFloor, fSize, fFloor] at *))
  all_goals try omega
  · have h5 : -1000000 ≤ (a + b) / 2 ∧ (a + b) / 2 ≤ 1000000 := by omega
    exact ⟨hT, h5⟩
  ·
    refine GHeld.mk ?_
    refine Exists.intro (0 : Nat) ?_
    refine And.intro (Leaf.mk ?_) ?_
    · repeat' first | exact True.intro | refine And.intro ?_ ?_
      all_goals try ((change _ = _ <;> try dsimp only) <;> try with_reducible rfl)
      all_goals try omega
      all_goals (rfl)
    exact Nat.zero_le _
  all_goals try
    (rename_i k h1 h2
     have hk : k < T.length := by omega
     have hv := hT.val k hk
     have a1 := slope_le hT h1
     have c1 := mul_bd (x := (k : Int)) (d := ((T.getD k 0).natAbs : Int)) (X := 32) (B := 16384) (by omega) (by omega) (by omega) (by omega)
     omega)
  · rename_i k h1 h2
    have hk : k < T.length := by omega
    refine GHeld.mk ?_
    refine Exists.intro (k + 1) ?_
    refine And.intro (Leaf.mk ?_) ?_
    · repeat' first | exact True.intro | refine And.intro ?_ ?_
      all_goals try ((change _ = _ <;> try dsimp only) <;> try with_reducible rfl)
      all_goals try omega
      all_goals (rfl)
    refine ⟨hk, ?_⟩
    change T.length - (k + 1) < T.length - k
    omega
  all_goals rename_i k h1 h2
  all_goals obtain rfl : k = T.length := by omega
  all_goals have b1 := slopes_le hT ha
  all_goals have b2 := valueR_le hT ((a + b) / 2)
  all_goals try omega
  · simp only [fCeil]; omega
  · exact ⟨rfl, rfl, rfl⟩

@[reducible] def sLoopValues : Spec := { pats := [.dat LoopT, .dat I64, .dat ArcT], res := [{ t := .bool }], pre := fun _ => True, f := fun _ => (true, ()) }

theorem vaBad {T : List Int} {g m : Int} (h : fCheckLoop T g = 0) (hm : ¬ (-1000000 ≤ m ∧ m ≤ 1000000)) : fValueAt T g m = ((0, 0, 0, ()), 2) := by
  have hd : decide (-1000000 ≤ m ∧ m ≤ 1000000) = false := decide_eq_false hm
  have e : vaErr T g m = 2 := by simp only [vaErr]; rw [if_pos h, hd]; rfl
  simp only [fValueAt]; rw [if_neg (by rw [e]; decide), e]

/-- LoopValues -/
theorem h4 : Ok 4 sLoopValues := by
  refine mk (ctr := [(16, sAwake), (21, sFew), (23, sCopy), (22, sValueAt), (24, sArcBall), (25, sCheckLoop), (17, sWithin), (20, sTable'), (26, sRefValue), (27, sArcErr), (28, sRefArc)]) ⟨h16, h21, h23, h22, h24, h25, h17, h20', h26, h27, h28, trivial⟩ (nt := 96) Try.func4 rfl rfl rfl rfl (by kernel_rfl) (by kernel_rfl) (fun _ => []) ?_
  rintro ⟨⟨(T : List Int), (g : Int), _⟩, (m : Int), ⟨(a : Int), (b : Int), _⟩, _⟩ _
  repeat' (intro hzz; (try (rename Two => hq; cases hq)); (try dsimp only at hzz); (try simp only [resTy, argTy, eqD, inR, big, wantOf, Bool.not_true, Bool.not_false, Bool.true_eq, decide_eq_true_eq, decide_eq_false_iff_not, Bool.not_eq_true', Bool.not_eq_false', Bool.and_eq_true, Prod.mk.injEq, and_true, true_and, Int.not_lt, Int.not_le, gt_iff_lt, ge_iff_le] at hzz); (try simp only [resTy, argTy, eqD, inR, big, wantOf, Bool.not_true, Bool.not_false, Bool.true_eq, decide_eq_true_eq, decide_eq_false_iff_not, Bool.not_eq_true', Bool.not_eq_false', Bool.and_eq_true, Prod.mk.injEq, and_true, true_and, Int.not_lt, Int.not_le, gt_iff_lt, ge_iff_le, fWithin, Ty.beq] at hzz); (try (revert hzz; intro _)))
  all_goals try (rename Unit => hq; clear hq)
  all_goals try ((with_reducible refine Held.mk ?_); (with_reducible (first | refine Frz.mk ?_ | refine And.intro (Frz.mk ?_) ?_ | refine And.intro ?_ (Frz.mk ?_))); repeat' first | exact True.intro | (change _ = _; with_reducible rfl) | refine And.intro ?_ ?_ | (with_reducible refine Frz.mk ?_))
  all_goals try (refine Held.mk ?_; (try dsimp only at *); (try simp only [resTy, argTy, eqD, inR, big, wantOf, Bool.not_true, Bool.not_false, Bool.true_eq, decide_eq_true_eq, decide_eq_false_iff_not, Bool.not_eq_true', Bool.not_eq_false', Bool.and_eq_true, Prod.mk.injEq, and_true, true_and, Int.not_lt, Int.not_le, gt_iff_lt, ge_iff_le] at *); (try simp only [resTy, argTy, eqD, inR, big, wantOf, Bool.not_true, Bool.not_false, Bool.true_eq, decide_eq_true_eq, decide_eq_false_iff_not, Bool.not_eq_true', Bool.not_eq_false', Bool.and_eq_true, Prod.mk.injEq, and_true, true_and, Int.not_lt, Int.not_le, gt_iff_lt, ge_iff_le, fWithin, Ty.beq] at *))
  all_goals try omega
  all_goals first
    | exact ⟨loop_of ‹_›, ‹_›⟩
    | (exfalso; have e := vaBad ‹fCheckLoop T g = 0› ‹¬ (-1000000 ≤ m ∧ m ≤ 1000000)›; simp [e] at *; done)
    | (exfalso; simp_all [fValueAt, fArcBall, vaErr, abErr]; done)
    | (simp_all [fValueAt, fArcBall, vaErr, abErr]; done)
    | trace_state

end Go.Eng.Lp
