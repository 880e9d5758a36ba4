/- Contracts of sizes and of loops scaled; the law LoopChecks returns true. Conditions: each contract's own. -/
import Derived.Test.YtdphhjibkjlmcaaL22
namespace Go.Eng.Lp
open Go.Eng Go.Proofs
set_option linter.all false
set_option maxRecDepth 100000
set_option maxHeartbeats 8000000

def sSz (T : List Int) (k : Nat) : Int := sm (fun i => ((T.getD i 0).natAbs : Int)) k
def sizeI (T : List Int) (g : Int) : Int := fCeil (sSz T T.length * g) 16384

theorem sz_le {T : List Int} {g : Int} (h : GoodLoop T g) {k : Nat} (hk : k ≤ T.length) : 0 ≤ sSz T k ∧ sSz T k ≤ 524288 := by
  have hl := h.le
  have hf : ∀ i, i < T.length → 0 ≤ ((T.getD i 0).natAbs : Int) ∧ ((T.getD i 0).natAbs : Int) ≤ 16384 := fun i hi => by
    have := h.val i hi; omega
  have h1 := sm_le (f := fun i => ((T.getD i 0).natAbs : Int)) (B := 16384) k (fun i hi => by have := hf i (by omega); omega)
  have h2 := sm_nn (f := fun i => ((T.getD i 0).natAbs : Int)) k (fun i hi => (hf i (by omega)).1)
  simp only [sSz]; omega

theorem size_le {T : List Int} {g : Int} (h : GoodLoop T g) : 0 ≤ sizeI T g ∧ sizeI T g ≤ 320000 := by
  have h1 := sz_le h (Nat.le_refl T.length)
  have h2 := mulg (x := sSz T T.length) (g := g) (B := 524288) (by omega) h1.2 h.gain0 h.gain1
  have h3 : 0 ≤ sSz T T.length * g := Int.mul_nonneg h1.1 h.gain0
  simp only [sizeI, fCeil]; omega

@[reducible] def sSizeO : Spec := { pats := [.dat LoopT], res := [{ t := I64 }], pre := fun x => GoodLoop x.1.1 x.1.2.1, f := fun x => (sizeI x.1.1 x.1.2.1, ()) }
def szAnn (T : List Int) : LoopAnn := { σ := Nat, pat := fun k => [sI 9 k, sI 3 (sSz T k)], inv := fun k => k ≤ T.length, meas := fun k => T.length - k }
def szAnnR (T : List Int) : LoopAnn := { σ := Nat, pat := fun k => [sI 4 k, sI 3 (sSz T k)], inv := fun k => k ≤ T.length, meas := fun k => T.length - k }

/-- sizeOf -/
theorem h92 : Ok 43 sSizeO := by
  refine mk (ctr := [(44, sSize), (58, sCeil)]) ⟨h90, h119, trivial⟩ (nt := 23) Try.func43 rfl rfl rfl rfl (by kernel_rfl) (by kernel_rfl) (fun x => [fun _ => szAnn x.1.1]) ?_
  rintro ⟨⟨(T : List Int), (g : Int), _⟩, _⟩ (hT : GoodLoop T g)
  have hl := hT.le
  repeat' (intro hzz; (try (rename Two => hq; cases hq)); (try dsimp only at hzz); (try simp only [resTy, argTy, eqD, inR, big, wantOf, Bool.not_true, Bool.not_false, Bool.true_eq, decide_eq_true_eq, decide_eq_false_iff_not, Bool.not_eq_true', Bool.not_eq_false', Bool.and_eq_true, Prod.mk.injEq, and_true, true_and, Int.not_lt, Int.not_le, gt_iff_lt, ge_iff_le] at hzz); (try simp only [resTy, argTy, eqD, inR, big, wantOf, Bool.not_true, Bool.not_false, Bool.true_eq, decide_eq_true_eq, decide_eq_false_iff_not, Bool.not_eq_true', Bool.not_eq_false', Bool.and_eq_true, Prod.mk.injEq, and_true, true_and, Int.not_lt, Int.not_le, gt_iff_lt, ge_iff_le, getD_i, pSize, pFloor, fSize] at hzz); (try (revert hzz; intro _)))
  all_goals try (rename Unit => hq; clear hq)
  all_goals try ((with_reducible refine Held.mk ?_); (with_reducible (first | refine Frz.mk ?_ | refine And.intro (Frz.mk ?_) ?_ | refine And.intro ?_ (Frz.mk ?_))); repeat' first | exact True.intro | (change _ = _; with_reducible rfl) | refine And.intro ?_ ?_ | (with_reducible refine Frz.mk ?_))
  all_goals try (refine Held.mk ?_; (try dsimp only at *); (try simp only [resTy, argTy, eqD, inR, big, wantOf, Bool.not_true, Bool.not_false, Bool.true_eq, decide_eq_true_eq, decide_eq_false_iff_not, Bool.not_eq_true', Bool.not_eq_false', Bool.and_eq_true, Prod.mk.injEq, and_true, true_and, Int.not_lt, Int.not_le, gt_iff_lt, ge_iff_le] at *); (try simp only [resTy, argTy, eqD, inR, big, wantOf, Bool.not_true, Bool.not_false, Bool.true_eq, decide_eq_true_eq, decide_eq_false_iff_not, Bool.not_eq_true', Bool.not_eq_false', Bool.and_eq_true, Prod.mk.injEq, and_true, true_and, Int.not_lt, Int.not_le, gt_iff_lt, ge_iff_le, getD_i, pSize, pFloor, fSize] at *))
  all_goals try omega
  ·
    refine GHeld.mk ?_
    refine Exists.intro (0 : Nat) ?_
    refine And.intro (Leaf.mk ?_) ?_
    · repeat' first | exact True.intro | refine And.intro ?_ ?_
      all_goals try ((change _ = _ <;> try dsimp only) <;> try with_reducible rfl)
      all_goals try omega
      all_goals (rfl)
    exact Nat.zero_le _
  all_goals try
    (rename_i k h1 h2
     have hk : k < T.length := by omega
     have hv := hT.val k hk
     have a1 := sz_le hT h1
     omega)
  · rename_i k h1 h2
    have hk : k < T.length := by omega
    refine GHeld.mk ?_
    refine Exists.intro (k + 1) ?_
    refine And.intro (Leaf.mk ?_) ?_
    · repeat' first | exact True.intro | refine And.intro ?_ ?_
      all_goals try ((change _ = _ <;> try dsimp only) <;> try with_reducible rfl)
      all_goals try omega
      all_goals (rfl)
    refine ⟨hk, ?_⟩
    change T.length - (k + 1) < T.length - k
    omega
  all_goals rename_i k h1 h2
  all_goals obtain rfl : k = T.length := by omega
  all_goals have b1 := sz_le hT (Nat.le_refl T.length)
  all_goals have b2 := mulg (x := sSz T T.length) (g := g) (B := 524288) (by omega) b1.2 hT.gain0 hT.gain1
  all_goals try omega
  · rfl

def fSizeOf (T : List Int) (g : Int) : Int × Int := if fCheckLoop T g = 0 then (sizeI T g, 0) else (0, fCheckLoop T g)
@[reducible] def sSizeOf : Spec := { pats := [.dat LoopT], res := [{ t := I64 }, { t := I64 }], pre := fun _ => True, f := fun x => ((fSizeOf x.1.1 x.1.2.1).1, (fSizeOf x.1.1 x.1.2.1).2, ()) }

/-- SizeOf -/
theorem h55 : Ok 18 sSizeOf := by
  refine mk (ctr := [(23, sCheckLoop), (43, sSizeO)]) ⟨h57, h92, trivial⟩ (nt := 12) Try.func18 rfl rfl rfl rfl (by kernel_rfl) (by kernel_rfl) (fun _ => []) ?_
  rintro ⟨⟨(T : List Int), (g : Int), _⟩, _⟩ _
  repeat' (intro hzz; (try (rename Two => hq; cases hq)); (try dsimp only at hzz); (try simp only [resTy, argTy, eqD, inR, big, wantOf, Bool.not_true, Bool.not_false, Bool.true_eq, decide_eq_true_eq, decide_eq_false_iff_not, Bool.not_eq_true', Bool.not_eq_false', Bool.and_eq_true, Prod.mk.injEq, and_true, true_and, Int.not_lt, Int.not_le, gt_iff_lt, ge_iff_le] at hzz); (try (revert hzz; intro _)))
  all_goals try (rename Unit => hq; clear hq)
  all_goals try ((with_reducible refine Held.mk ?_); (with_reducible (first | refine Frz.mk ?_ | refine And.intro (Frz.mk ?_) ?_ | refine And.intro ?_ (Frz.mk ?_))); repeat' first | exact True.intro | (change _ = _; with_reducible rfl) | refine And.intro ?_ ?_ | (with_reducible refine Frz.mk ?_))
  all_goals try (refine Held.mk ?_; (try dsimp only at *); (try simp only [resTy, argTy, eqD, inR, big, wantOf, Bool.not_true, Bool.not_false, Bool.true_eq, decide_eq_true_eq, decide_eq_false_iff_not, Bool.not_eq_true', Bool.not_eq_false', Bool.and_eq_true, Prod.mk.injEq, and_true, true_and, Int.not_lt, Int.not_le, gt_iff_lt, ge_iff_le] at *))
  all_goals try omega
  · rename_i h
    simp only [fSizeOf]; rw [if_neg h]; exact ⟨rfl, rfl⟩
  · rename_i h; exact loop_of h
  · rename_i h
    simp only [fSizeOf]; rw [if_pos h]; exact ⟨rfl, rfl⟩

@[reducible] def sClone : Spec := { pats := [.dat (.sl I64)], res := [{ t := .sl I64 }], pre := fun x => 0 < List.length (α := Int) x.1 ∧ pCopy (List.length (α := Int) x.1), f := fun x => (x.1, ()) }

/-- slices.Clone -/
theorem h120 : Ok 64 sClone := by
  refine mk (ctr := []) trivial (nt := 8) Try.func64 rfl rfl rfl rfl (by kernel_rfl) (by kernel_rfl) (fun _ => []) ?_
  rintro ⟨(xs : List Int), _⟩ ⟨(hp : 0 < xs.length), (hq : xs.length ≤ 1000000)⟩
  repeat' (intro hzz; (try (rename Two => hq; cases hq)); (try dsimp only at hzz); (try simp only [resTy, argTy, eqD, inR, big, wantOf, Bool.not_true, Bool.not_false, Bool.true_eq, decide_eq_true_eq, decide_eq_false_iff_not, Bool.not_eq_true', Bool.not_eq_false', Bool.and_eq_true, Prod.mk.injEq, and_true, true_and, Int.not_lt, Int.not_le, gt_iff_lt, ge_iff_le] at hzz); (try simp only [resTy, argTy, eqD, inR, big, wantOf, Bool.not_true, Bool.not_false, Bool.true_eq, decide_eq_true_eq, decide_eq_false_iff_not, Bool.not_eq_true', Bool.not_eq_false', Bool.and_eq_true, Prod.mk.injEq, and_true, true_and, Int.not_lt, Int.not_le, gt_iff_lt, ge_iff_le, List.nil_append, List.length_nil] at hzz); (try (revert hzz; intro _)))
  all_goals try (rename Unit => hq; clear hq)
  all_goals try ((with_reducible refine Held.mk ?_); (with_reducible (first | refine Frz.mk ?_ | refine And.intro (Frz.mk ?_) ?_ | refine And.intro ?_ (Frz.mk ?_))); repeat' first | exact True.intro | (change _ = _; with_reducible rfl) | refine And.intro ?_ ?_ | (with_reducible refine Frz.mk ?_))
  all_goals try (refine Held.mk ?_; (try dsimp only at *); (try simp only [resTy, argTy, eqD, inR, big, wantOf, Bool.not_true, Bool.not_false, Bool.true_eq, decide_eq_true_eq, decide_eq_false_iff_not, Bool.not_eq_true', Bool.not_eq_false', Bool.and_eq_true, Prod.mk.injEq, and_true, true_and, Int.not_lt, Int.not_le, gt_iff_lt, ge_iff_le] at *); (try simp only [resTy, argTy, eqD, inR, big, wantOf, Bool.not_true, Bool.not_false, Bool.true_eq, decide_eq_true_eq, decide_eq_false_iff_not, Bool.not_eq_true', Bool.not_eq_false', Bool.and_eq_true, Prod.mk.injEq, and_true, true_and, Int.not_lt, Int.not_le, gt_iff_lt, ge_iff_le, List.nil_append, List.length_nil] at *))
  all_goals try omega

def scGain (g n : Int) : Int := fCeil (g * n) 1000
@[reducible] def sScaledO : Spec := { pats := [.dat LoopT, .dat I64], res := [{ t := LoopT }, { t := .bool }], pre := fun x => GoodLoop x.1.1 x.1.2.1 ∧ 0 ≤ x.2.1 ∧ x.2.1 ≤ 4000, f := fun x => ((x.1.1, scGain x.1.2.1 x.2.1, ()), decide (scGain x.1.2.1 x.2.1 ≤ 10000), ()) }

/-- scaled -/
theorem h100 : Ok 51 sScaledO := by
  refine mk (ctr := [(64, sClone), (58, sCeil)]) ⟨h120, h119, trivial⟩ (nt := 20) Try.func51 rfl rfl rfl rfl (by kernel_rfl) (by kernel_rfl) (fun _ => []) ?_
  rintro ⟨⟨(T : List Int), (g : Int), _⟩, (n : Int), _⟩ ⟨(hT : GoodLoop T g), (hn0 : 0 ≤ n), (hn1 : n ≤ 4000)⟩
  have hg0 := hT.gain0
  have hg1 := hT.gain1
  have hl := hT.le
  have hpos := hT.pos
  have hm := mul_bd (x := g) (d := n) (X := 10000) (B := 4000) (by omega) (by omega) (by omega) (by omega)
  repeat' (intro hzz; (try (rename Two => hq; cases hq)); (try dsimp only at hzz); (try simp only [resTy, argTy, eqD, inR, big, wantOf, Bool.not_true, Bool.not_false, Bool.true_eq, decide_eq_true_eq, decide_eq_false_iff_not, Bool.not_eq_true', Bool.not_eq_false', Bool.and_eq_true, Prod.mk.injEq, and_true, true_and, Int.not_lt, Int.not_le, gt_iff_lt, ge_iff_le] at hzz); (try simp only [resTy, argTy, eqD, inR, big, wantOf, Bool.not_true, Bool.not_false, Bool.true_eq, decide_eq_true_eq, decide_eq_false_iff_not, Bool.not_eq_true', Bool.not_eq_false', Bool.and_eq_true, Prod.mk.injEq, and_true, true_and, Int.not_lt, Int.not_le, gt_iff_lt, ge_iff_le, pFloor] at hzz); (try (revert hzz; intro _)))
  all_goals try (rename Unit => hq; clear hq)
  all_goals try ((with_reducible refine Held.mk ?_); (with_reducible (first | refine Frz.mk ?_ | refine And.intro (Frz.mk ?_) ?_ | refine And.intro ?_ (Frz.mk ?_))); repeat' first | exact True.intro | (change _ = _; with_reducible rfl) | refine And.intro ?_ ?_ | (with_reducible refine Frz.mk ?_))
  all_goals try (refine Held.mk ?_; (try dsimp only at *); (try simp only [resTy, argTy, eqD, inR, big, wantOf, Bool.not_true, Bool.not_false, Bool.true_eq, decide_eq_true_eq, decide_eq_false_iff_not, Bool.not_eq_true', Bool.not_eq_false', Bool.and_eq_true, Prod.mk.injEq, and_true, true_and, Int.not_lt, Int.not_le, gt_iff_lt, ge_iff_le] at *); (try simp only [resTy, argTy, eqD, inR, big, wantOf, Bool.not_true, Bool.not_false, Bool.true_eq, decide_eq_true_eq, decide_eq_false_iff_not, Bool.not_eq_true', Bool.not_eq_false', Bool.and_eq_true, Prod.mk.injEq, and_true, true_and, Int.not_lt, Int.not_le, gt_iff_lt, ge_iff_le, pFloor] at *))
  all_goals try omega
  · exact ⟨rfl, rfl⟩

def scErr (T : List Int) (g n : Int) : Int := if fCheckLoop T g = 0 then (if 0 ≤ n ∧ n ≤ 4000 then (if scGain g n ≤ 10000 then 0 else 2) else 2) else fCheckLoop T g
def fScaled (T : List Int) (g n : Int) : (List Int × Int) × Int := if scErr T g n = 0 then ((T, scGain g n), 0) else (([], 0), scErr T g n)
@[reducible] def sScaled : Spec := { pats := [.dat LoopT, .dat I64], res := [{ t := LoopT }, { t := I64 }], pre := fun _ => True, f := fun x => (((fScaled x.1.1 x.1.2.1 x.2.1).1.1, (fScaled x.1.1 x.1.2.1 x.2.1).1.2, ()), (fScaled x.1.1 x.1.2.1 x.2.1).2, ()) }

theorem scOf {T : List Int} {g n : Int} (h : (if fCheckLoop T g = 0 then bif decide (0 ≤ n ∧ n ≤ 4000) then 0 else 2 else fCheckLoop T g) = 0) : fCheckLoop T g = 0 ∧ 0 ≤ n ∧ n ≤ 4000 := by
  by_cases hc : fCheckLoop T g = 0
  · by_cases hn : 0 ≤ n ∧ n ≤ 4000
    · exact ⟨hc, hn⟩
    · have hd : decide (0 ≤ n ∧ n ≤ 4000) = false := decide_eq_false hn
      rw [if_pos hc, hd] at h
      simp at h
  · rw [if_neg hc] at h; exact absurd h hc

def scErrR (g n : Int) : Int := if 0 ≤ n ∧ n ≤ 4000 then (if scGain g n ≤ 10000 then 0 else 2) else 2
def fScaledR (T : List Int) (g n : Int) : (List Int × Int) × Int := if scErrR g n = 0 then ((T, scGain g n), 0) else (([], 0), scErrR g n)
@[reducible] def sScaledR : Spec := { pats := [.dat LoopT, .dat I64], res := [{ t := LoopT }, { t := I64 }], pre := fun x => GoodLoop x.1.1 x.1.2.1, f := fun x => (((fScaledR x.1.1 x.1.2.1 x.2.1).1.1, (fScaledR x.1.1 x.1.2.1 x.2.1).1.2, ()), (fScaledR x.1.1 x.1.2.1 x.2.1).2, ()) }

theorem szBad {T : List Int} {g : Int} (h : ¬ fCheckLoop T g = 0) : fSizeOf T g = (0, fCheckLoop T g) := by simp only [fSizeOf]; rw [if_neg h]
theorem szOk {T : List Int} {g : Int} (h : fCheckLoop T g = 0) : fSizeOf T g = (sizeI T g, 0) := by simp only [fSizeOf]; rw [if_pos h]
theorem scBad {T : List Int} {g n : Int} (h : ¬ fCheckLoop T g = 0) : fScaled T g n = (([], 0), fCheckLoop T g) := by
  have e : scErr T g n = fCheckLoop T g := by simp only [scErr]; rw [if_neg h]
  simp only [fScaled]; rw [e, if_neg h]
theorem scOk {T : List Int} {g n : Int} (h : fCheckLoop T g = 0) : fScaled T g n = fScaledR T g n := by
  have e : scErr T g n = scErrR g n := by simp only [scErr, scErrR]; rw [if_pos h]
  simp only [fScaled, fScaledR]; rw [e]
theorem scLen (T : List Int) (g n : Int) : (fScaledR T g n).1.1.length ≤ T.length := by
  simp only [fScaledR]; split <;> simp

@[reducible] def sLoopChecks : Spec := { pats := [.dat LoopT, .dat I64], res := [{ t := .bool }], pre := fun _ => True, f := fun _ => (true, ()) }

end Go.Eng.Lp
