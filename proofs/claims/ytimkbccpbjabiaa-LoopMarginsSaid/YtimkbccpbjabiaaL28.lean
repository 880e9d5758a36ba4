/- Contract of the reference's Rings; the law LoopProofs returns true. Conditions: each contract's own. -/
import Derived.Test.YtimkbccpbjabiaaL27
namespace Go.Eng.Lp
open Go.Eng Go.Proofs
set_option linter.all false
set_option maxRecDepth 100000
set_option maxHeartbeats 8000000

/-- ref.Rings -/
theorem h64 : Ok 64 sRingsR := by
  refine mk (ctr := [(28, sRefArc), (26, sRefValue)]) ⟨h28, h26, trivial⟩ (nt := 73) Try.func64 rfl rfl rfl rfl (by kernel_rfl) (by kernel_rfl) (fun _ => []) ?_
  rintro ⟨_, ⟨(T : List Int), (g : Int), _⟩, ⟨(a : Int), (b : Int), _⟩, _⟩ ⟨(rfl : _ = theTable), (hT : GoodLoop T g), (ha : fArcErr a b = 0)⟩
  have hab := arc_of ha
  have b1 := value_bd hT a
  have b2 := value_bd hT b
  have b3 := arc_bd (g := g) hT hab
  have hva : GoodLoop T g ∧ -1000000 ≤ a ∧ a ≤ 1000000 := ⟨hT, by omega⟩
  have hvb : GoodLoop T g ∧ -1000000 ≤ b ∧ b ≤ 1000000 := ⟨hT, by omega⟩
  have hvc : GoodLoop T g ∧ fArcErr a b = 0 := ⟨hT, ha⟩
  repeat' (intro hzz; (try (rename Two => hq; cases hq)); (try dsimp only at hzz); (try simp only [resTy, argTy, eqD, inR, big, wantOf, Bool.not_true, Bool.not_false, Bool.true_eq, decide_eq_true_eq, decide_eq_false_iff_not, Bool.not_eq_true', Bool.not_eq_false', Bool.and_eq_true, Prod.mk.injEq, and_true, true_and, Int.not_lt, Int.not_le, gt_iff_lt, ge_iff_le] at hzz); (try (revert hzz; intro _)))
  all_goals try (rename Unit => hq; clear hq)
  all_goals try ((with_reducible refine Held.mk ?_); (with_reducible (first | refine Frz.mk ?_ | refine And.intro (Frz.mk ?_) ?_ | refine And.intro ?_ (Frz.mk ?_))); repeat' first | exact True.intro | (change _ = _; with_reducible rfl) | refine And.intro ?_ ?_ | (with_reducible refine Frz.mk ?_))
  all_goals try (refine Held.mk ?_; (try dsimp only at *); (try simp only [resTy, argTy, eqD, inR, big, wantOf, Bool.not_true, Bool.not_false, Bool.true_eq, decide_eq_true_eq, decide_eq_false_iff_not, Bool.not_eq_true', Bool.not_eq_false', Bool.and_eq_true, Prod.mk.injEq, and_true, true_and, Int.not_lt, Int.not_le, gt_iff_lt, ge_iff_le] at *))
  all_goals simp only [okBall] at b1 b2 b3
  all_goals first | exact hva | exact hvb | exact hvc | omega | skip
  all_goals simp only [fRings]
  all_goals first
    | (simp only [decide_eq_true_eq]; omega)
    | (simp only [decide_eq_false_iff_not]; omega)
    | (symm; simp only [decide_eq_true_eq]; omega)
    | (symm; simp only [decide_eq_false_iff_not]; omega)
    | (simp only [decide_eq_decide]; omega)
    | trace_state

@[reducible] def sLoopProofs : Spec := { pats := [.dat LoopT, .dat (.sl ArcT), .dat ArcT], res := [{ t := .bool }], pre := fun _ => True, f := fun _ => (true, ()) }

theorem crErr_no {T : List Int} {g a b : Int} (hc : ¬ fCheckLoop T g = 0) : crErr T g a b = fCheckLoop T g := by
  have e : abErr T g a b = fCheckLoop T g := by simp only [abErr]; rw [if_neg hc]
  simp only [crErr]; rw [e, if_neg hc]
theorem crErr_arc {T : List Int} {g a b : Int} (hc : fCheckLoop T g = 0) (ha : ¬ fArcErr a b = 0) : crErr T g a b = fArcErr a b := by
  have e : abErr T g a b = fArcErr a b := by simp only [abErr]; rw [if_pos hc]
  simp only [crErr]; rw [e, if_neg ha]
theorem crErr_ok {T : List Int} {g a b : Int} (hc : fCheckLoop T g = 0) (ha : fArcErr a b = 0) : crErr T g a b = if fRings T g a b = true then 0 else 20 := by
  have e : abErr T g a b = fArcErr a b := by simp only [abErr]; rw [if_pos hc]
  simp only [crErr]; rw [e, if_pos ha]

/-- LoopProofs -/
theorem h11 : Ok 11 sLoopProofs := by
  refine mk (ctr := [(16, sAwake), (21, sFew), (23, sCopy), (60, sCheckArcs), (61, sCopyArcs), (62, sCheckRings), (25, sCheckLoop), (63, sCheckArcsR), (27, sArcErr), (20, sTable'), (64, sRingsR)]) ⟨h16, h21, h23, h60, h61, h62, h25, h63, h27, h20', h64, trivial⟩ (nt := 101) Try.func11 rfl rfl rfl rfl (by kernel_rfl) (by kernel_rfl) (fun _ => []) ?_
  rintro ⟨⟨(T : List Int), (g : Int), _⟩, (arcs : List AA), ⟨(a : Int), (b : Int), _⟩, _⟩ _
  by_cases hfew : (T.length : Int) ≤ 34 ∧ (arcs.length : Int) ≤ 514
  · by_cases hc : fCheckLoop T g = 0
    · have hT := loop_of hc
      have hCA : caErr T g arcs = if 512 < arcs.length then 8 else arcsE T g 0 arcs := by simp only [caErr]; rw [if_pos hc]
      by_cases hE : (if 512 < arcs.length then 8 else arcsE T g 0 arcs) = 0
      · rw [hE] at hCA
        have hN : (if caErr T g arcs = 0 then (arcs.length : Int) else 0) = arcs.length := if_pos hCA
        have hz : arcsE T g 0 arcs = 0 := by
          by_cases hl : 512 < arcs.length
          · rw [if_pos hl] at hE; omega
          · rwa [if_neg hl] at hE
        by_cases ha : fArcErr a b = 0
        · have hab := arc_of ha
          have hR : fRings T g a b = false := no_rings hT hT.gain0 (Int.le_refl g) (arcs_cover arcs 0 hz) hab
          have hQ : GoodLoop T g ∧ fArcErr a b = 0 := ⟨hT, ha⟩
          have hCR := crErr_ok (g := g) hc ha
          rw [hR, if_neg (by simp)] at hCR
          repeat' (intro hzz; (try (rename Two => hq; cases hq)); (try dsimp only at hzz); (try simp only [resTy, argTy, eqD, inR, big, wantOf, Bool.not_true, Bool.not_false, Bool.true_eq, decide_eq_true_eq, decide_eq_false_iff_not, Bool.not_eq_true', Bool.not_eq_false', Bool.and_eq_true, Prod.mk.injEq, and_true, true_and, Int.not_lt, Int.not_le, gt_iff_lt, ge_iff_le] at hzz); (try simp only [resTy, argTy, eqD, inR, big, wantOf, Bool.not_true, Bool.not_false, Bool.true_eq, decide_eq_true_eq, decide_eq_false_iff_not, Bool.not_eq_true', Bool.not_eq_false', Bool.and_eq_true, Prod.mk.injEq, and_true, true_and, Int.not_lt, Int.not_le, gt_iff_lt, ge_iff_le, hc, hN, hCA, hE, ha, hR, hCR] at hzz); (try (first | contradiction | (exfalso; omega))); (try (revert hzz; intro _)))
          all_goals try (rename Unit => hq; clear hq)
          all_goals try ((with_reducible refine Held.mk ?_); (with_reducible (first | refine Frz.mk ?_ | refine And.intro (Frz.mk ?_) ?_ | refine And.intro ?_ (Frz.mk ?_))); repeat' first | exact True.intro | (change _ = _; with_reducible rfl) | refine And.intro ?_ ?_ | (with_reducible refine Frz.mk ?_))
          all_goals try (refine Held.mk ?_; (try dsimp only at *); (try simp only [resTy, argTy, eqD, inR, big, wantOf, Bool.not_true, Bool.not_false, Bool.true_eq, decide_eq_true_eq, decide_eq_false_iff_not, Bool.not_eq_true', Bool.not_eq_false', Bool.and_eq_true, Prod.mk.injEq, and_true, true_and, Int.not_lt, Int.not_le, gt_iff_lt, ge_iff_le] at *); (try simp only [resTy, argTy, eqD, inR, big, wantOf, Bool.not_true, Bool.not_false, Bool.true_eq, decide_eq_true_eq, decide_eq_false_iff_not, Bool.not_eq_true', Bool.not_eq_false', Bool.and_eq_true, Prod.mk.injEq, and_true, true_and, Int.not_lt, Int.not_le, gt_iff_lt, ge_iff_le, hc, hN, hCA, hE, ha, hR, hCR] at *))
          all_goals try omega
        · have hCR := crErr_arc (g := g) hc ha
          repeat' (intro hzz; (try (rename Two => hq; cases hq)); (try dsimp only at hzz); (try simp only [resTy, argTy, eqD, inR, big, wantOf, Bool.not_true, Bool.not_false, Bool.true_eq, decide_eq_true_eq, decide_eq_false_iff_not, Bool.not_eq_true', Bool.not_eq_false', Bool.and_eq_true, Prod.mk.injEq, and_true, true_and, Int.not_lt, Int.not_le, gt_iff_lt, ge_iff_le] at hzz); (try simp only [resTy, argTy, eqD, inR, big, wantOf, Bool.not_true, Bool.not_false, Bool.true_eq, decide_eq_true_eq, decide_eq_false_iff_not, Bool.not_eq_true', Bool.not_eq_false', Bool.and_eq_true, Prod.mk.injEq, and_true, true_and, Int.not_lt, Int.not_le, gt_iff_lt, ge_iff_le, hc, hN, hCA, hE, hCR] at hzz); (try (first | contradiction | (exfalso; omega))); (try (revert hzz; intro _)))
          all_goals try (rename Unit => hq; clear hq)
          all_goals try ((with_reducible refine Held.mk ?_); (with_reducible (first | refine Frz.mk ?_ | refine And.intro (Frz.mk ?_) ?_ | refine And.intro ?_ (Frz.mk ?_))); repeat' first | exact True.intro | (change _ = _; with_reducible rfl) | refine And.intro ?_ ?_ | (with_reducible refine Frz.mk ?_))
          all_goals try (refine Held.mk ?_; (try dsimp only at *); (try simp only [resTy, argTy, eqD, inR, big, wantOf, Bool.not_true, Bool.not_false, Bool.true_eq, decide_eq_true_eq, decide_eq_false_iff_not, Bool.not_eq_true', Bool.not_eq_false', Bool.and_eq_true, Prod.mk.injEq, and_true, true_and, Int.not_lt, Int.not_le, gt_iff_lt, ge_iff_le] at *); (try simp only [resTy, argTy, eqD, inR, big, wantOf, Bool.not_true, Bool.not_false, Bool.true_eq, decide_eq_true_eq, decide_eq_false_iff_not, Bool.not_eq_true', Bool.not_eq_false', Bool.and_eq_true, Prod.mk.injEq, and_true, true_and, Int.not_lt, Int.not_le, gt_iff_lt, ge_iff_le, hc, hN, hCA, hE, hCR] at *))
          all_goals try omega
      · have hE' : ¬ caErr T g arcs = 0 := by rw [hCA]; exact hE
        have hN : (if caErr T g arcs = 0 then (arcs.length : Int) else 0) = 0 := if_neg hE'
        by_cases ha : fArcErr a b = 0
        · have hab := arc_of ha
          have hQ : GoodLoop T g ∧ fArcErr a b = 0 := ⟨hT, ha⟩
          have hCR := crErr_ok (g := g) hc ha
          cases hR : fRings T g a b with
          | true =>
            rw [hR, if_pos rfl] at hCR
            repeat' (intro hzz; (try (rename Two => hq; cases hq)); (try dsimp only at hzz); (try simp only [resTy, argTy, eqD, inR, big, wantOf, Bool.not_true, Bool.not_false, Bool.true_eq, decide_eq_true_eq, decide_eq_false_iff_not, Bool.not_eq_true', Bool.not_eq_false', Bool.and_eq_true, Prod.mk.injEq, and_true, true_and, Int.not_lt, Int.not_le, gt_iff_lt, ge_iff_le] at hzz); (try simp only [resTy, argTy, eqD, inR, big, wantOf, Bool.not_true, Bool.not_false, Bool.true_eq, decide_eq_true_eq, decide_eq_false_iff_not, Bool.not_eq_true', Bool.not_eq_false', Bool.and_eq_true, Prod.mk.injEq, and_true, true_and, Int.not_lt, Int.not_le, gt_iff_lt, ge_iff_le, hc, hN, hCA, ha, hR, hCR] at hzz); (try (first | contradiction | (exfalso; omega))); (try (revert hzz; intro _)))
            all_goals try (rename Unit => hq; clear hq)
            all_goals try ((with_reducible refine Held.mk ?_); (with_reducible (first | refine Frz.mk ?_ | refine And.intro (Frz.mk ?_) ?_ | refine And.intro ?_ (Frz.mk ?_))); repeat' first | exact True.intro | (change _ = _; with_reducible rfl) | refine And.intro ?_ ?_ | (with_reducible refine Frz.mk ?_))
            all_goals try (refine Held.mk ?_; (try dsimp only at *); (try simp only [resTy, argTy, eqD, inR, big, wantOf, Bool.not_true, Bool.not_false, Bool.true_eq, decide_eq_true_eq, decide_eq_false_iff_not, Bool.not_eq_true', Bool.not_eq_false', Bool.and_eq_true, Prod.mk.injEq, and_true, true_and, Int.not_lt, Int.not_le, gt_iff_lt, ge_iff_le] at *); (try simp only [resTy, argTy, eqD, inR, big, wantOf, Bool.not_true, Bool.not_false, Bool.true_eq, decide_eq_true_eq, decide_eq_false_iff_not, Bool.not_eq_true', Bool.not_eq_false', Bool.and_eq_true, Prod.mk.injEq, and_true, true_and, Int.not_lt, Int.not_le, gt_iff_lt, ge_iff_le, hc, hN, hCA, ha, hR, hCR] at *))
            all_goals try omega
          | false =>
            rw [hR, if_neg (by simp)] at hCR
            repeat' (intro hzz; (try (rename Two => hq; cases hq)); (try dsimp only at hzz); (try simp only [resTy, argTy, eqD, inR, big, wantOf, Bool.not_true, Bool.not_false, Bool.true_eq, decide_eq_true_eq, decide_eq_false_iff_not, Bool.not_eq_true', Bool.not_eq_false', Bool.and_eq_true, Prod.mk.injEq, and_true, true_and, Int.not_lt, Int.not_le, gt_iff_lt, ge_iff_le] at hzz); (try simp only [resTy, argTy, eqD, inR, big, wantOf, Bool.not_true, Bool.not_false, Bool.true_eq, decide_eq_true_eq, decide_eq_false_iff_not, Bool.not_eq_true', Bool.not_eq_false', Bool.and_eq_true, Prod.mk.injEq, and_true, true_and, Int.not_lt, Int.not_le, gt_iff_lt, ge_iff_le, hc, hN, hCA, ha, hR, hCR] at hzz); (try (first | contradiction | (exfalso; omega))); (try (revert hzz; intro _)))
            all_goals try (rename Unit => hq; clear hq)
            all_goals try ((with_reducible refine Held.mk ?_); (with_reducible (first | refine Frz.mk ?_ | refine And.intro (Frz.mk ?_) ?_ | refine And.intro ?_ (Frz.mk ?_))); repeat' first | exact True.intro | (change _ = _; with_reducible rfl) | refine And.intro ?_ ?_ | (with_reducible refine Frz.mk ?_))
            all_goals try (refine Held.mk ?_; (try dsimp only at *); (try simp only [resTy, argTy, eqD, inR, big, wantOf, Bool.not_true, Bool.not_false, Bool.true_eq, decide_eq_true_eq, decide_eq_false_iff_not, Bool.not_eq_true', Bool.not_eq_false', Bool.and_eq_true, Prod.mk.injEq, and_true, true_and, Int.not_lt, Int.not_le, gt_iff_lt, ge_iff_le] at *); (try simp only [resTy, argTy, eqD, inR, big, wantOf, Bool.not_true, Bool.not_false, Bool.true_eq, decide_eq_true_eq, decide_eq_false_iff_not, Bool.not_eq_true', Bool.not_eq_false', Bool.and_eq_true, Prod.mk.injEq, and_true, true_and, Int.not_lt, Int.not_le, gt_iff_lt, ge_iff_le, hc, hN, hCA, ha, hR, hCR] at *))
            all_goals try omega
        · have hCR := crErr_arc (g := g) hc ha
          repeat' (intro hzz; (try (rename Two => hq; cases hq)); (try dsimp only at hzz); (try simp only [resTy, argTy, eqD, inR, big, wantOf, Bool.not_true, Bool.not_false, Bool.true_eq, decide_eq_true_eq, decide_eq_false_iff_not, Bool.not_eq_true', Bool.not_eq_false', Bool.and_eq_true, Prod.mk.injEq, and_true, true_and, Int.not_lt, Int.not_le, gt_iff_lt, ge_iff_le] at hzz); (try simp only [resTy, argTy, eqD, inR, big, wantOf, Bool.not_true, Bool.not_false, Bool.true_eq, decide_eq_true_eq, decide_eq_false_iff_not, Bool.not_eq_true', Bool.not_eq_false', Bool.and_eq_true, Prod.mk.injEq, and_true, true_and, Int.not_lt, Int.not_le, gt_iff_lt, ge_iff_le, hc, hN, hCA, hCR] at hzz); (try (first | contradiction | (exfalso; omega))); (try (revert hzz; intro _)))
          all_goals try (rename Unit => hq; clear hq)
          all_goals try ((with_reducible refine Held.mk ?_); (with_reducible (first | refine Frz.mk ?_ | refine And.intro (Frz.mk ?_) ?_ | refine And.intro ?_ (Frz.mk ?_))); repeat' first | exact True.intro | (change _ = _; with_reducible rfl) | refine And.intro ?_ ?_ | (with_reducible refine Frz.mk ?_))
          all_goals try (refine Held.mk ?_; (try dsimp only at *); (try simp only [resTy, argTy, eqD, inR, big, wantOf, Bool.not_true, Bool.not_false, Bool.true_eq, decide_eq_true_eq, decide_eq_false_iff_not, Bool.not_eq_true', Bool.not_eq_false', Bool.and_eq_true, Prod.mk.injEq, and_true, true_and, Int.not_lt, Int.not_le, gt_iff_lt, ge_iff_le] at *); (try simp only [resTy, argTy, eqD, inR, big, wantOf, Bool.not_true, Bool.not_false, Bool.true_eq, decide_eq_true_eq, decide_eq_false_iff_not, Bool.not_eq_true', Bool.not_eq_false', Bool.and_eq_true, Prod.mk.injEq, and_true, true_and, Int.not_lt, Int.not_le, gt_iff_lt, ge_iff_le, hc, hN, hCA, hCR] at *))
          all_goals try omega
    · have hCA : caErr T g arcs = fCheckLoop T g := by simp only [caErr]; rw [if_neg hc]
      have hN : (if caErr T g arcs = 0 then (arcs.length : Int) else 0) = 0 := if_neg (by rw [hCA]; exact hc)
      have hCR := crErr_no (a := a) (b := b) hc
      repeat' (intro hzz; (try (rename Two => hq; cases hq)); (try dsimp only at hzz); (try simp only [resTy, argTy, eqD, inR, big, wantOf, Bool.not_true, Bool.not_false, Bool.true_eq, decide_eq_true_eq, decide_eq_false_iff_not, Bool.not_eq_true', Bool.not_eq_false', Bool.and_eq_true, Prod.mk.injEq, and_true, true_and, Int.not_lt, Int.not_le, gt_iff_lt, ge_iff_le] at hzz); (try simp only [resTy, argTy, eqD, inR, big, wantOf, Bool.not_true, Bool.not_false, Bool.true_eq, decide_eq_true_eq, decide_eq_false_iff_not, Bool.not_eq_true', Bool.not_eq_false', Bool.and_eq_true, Prod.mk.injEq, and_true, true_and, Int.not_lt, Int.not_le, gt_iff_lt, ge_iff_le, hN, hCA, hCR] at hzz); (try (first | contradiction | (exfalso; omega))); (try (revert hzz; intro _)))
      all_goals try (rename Unit => hq; clear hq)
      all_goals try ((with_reducible refine Held.mk ?_); (with_reducible (first | refine Frz.mk ?_ | refine And.intro (Frz.mk ?_) ?_ | refine And.intro ?_ (Frz.mk ?_))); repeat' first | exact True.intro | (change _ = _; with_reducible rfl) | refine And.intro ?_ ?_ | (with_reducible refine Frz.mk ?_))
      all_goals try (refine Held.mk ?_; (try dsimp only at *); (try simp only [resTy, argTy, eqD, inR, big, wantOf, Bool.not_true, Bool.not_false, Bool.true_eq, decide_eq_true_eq, decide_eq_false_iff_not, Bool.not_eq_true', Bool.not_eq_false', Bool.and_eq_true, Prod.mk.injEq, and_true, true_and, Int.not_lt, Int.not_le, gt_iff_lt, ge_iff_le] at *); (try simp only [resTy, argTy, eqD, inR, big, wantOf, Bool.not_true, Bool.not_false, Bool.true_eq, decide_eq_true_eq, decide_eq_false_iff_not, Bool.not_eq_true', Bool.not_eq_false', Bool.and_eq_true, Prod.mk.injEq, and_true, true_and, Int.not_lt, Int.not_le, gt_iff_lt, ge_iff_le, hN, hCA, hCR] at *))
      all_goals try omega
  ·
    repeat' (intro hzz; (try (rename Two => hq; cases hq)); (try dsimp only at hzz); (try simp only [resTy, argTy, eqD, inR, big, wantOf, Bool.not_true, Bool.not_false, Bool.true_eq, decide_eq_true_eq, decide_eq_false_iff_not, Bool.not_eq_true', Bool.not_eq_false', Bool.and_eq_true, Prod.mk.injEq, and_true, true_and, Int.not_lt, Int.not_le, gt_iff_lt, ge_iff_le] at hzz); (try (first | contradiction | (exfalso; omega))); (try (revert hzz; intro _)))
    all_goals try (rename Unit => hq; clear hq)
    all_goals try ((with_reducible refine Held.mk ?_); (with_reducible (first | refine Frz.mk ?_ | refine And.intro (Frz.mk ?_) ?_ | refine And.intro ?_ (Frz.mk ?_))); repeat' first | exact True.intro | (change _ = _; with_reducible rfl) | refine And.intro ?_ ?_ | (with_reducible refine Frz.mk ?_))
    all_goals try (refine Held.mk ?_; (try dsimp only at *); (try simp only [resTy, argTy, eqD, inR, big, wantOf, Bool.not_true, Bool.not_false, Bool.true_eq, decide_eq_true_eq, decide_eq_false_iff_not, Bool.not_eq_true', Bool.not_eq_false', Bool.and_eq_true, Prod.mk.injEq, and_true, true_and, Int.not_lt, Int.not_le, gt_iff_lt, ge_iff_le] at *))
    all_goals try omega

end Go.Eng.Lp
