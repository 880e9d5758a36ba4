/- Contracts of wayOf and UnitOf. Conditions: each contract's own. -/
import Derived.Test.YtacgcendcdiodaaDoorL4
namespace Go.Eng.Lp
open Go.Eng Go.Proofs
set_option linter.all false
set_option maxRecDepth 100000
set_option maxHeartbeats 8000000

theorem tm1 (m : Int) : (m % 4096).tmod 1024 = m % 1024 := by rw [Int.tmod_eq_emod_of_nonneg (by omega)]; omega
theorem td1 (m : Int) : (m % 4096).tdiv 1024 = m % 4096 / 1024 := by rw [Int.tdiv_eq_ediv_of_nonneg (by omega)]
theorem td2 (a b : Nat) : ((a : Int) + b).tdiv 2 = (((a + b) / 2 : Nat) : Int) := by rw [Int.tdiv_eq_ediv_of_nonneg (by omega)]; omega

theorem wayInv_step {at_ lo hi n : Nat} {a b : NN} (h : wayInv at_ (lo, hi, a, b, n)) (hne : at_ ≠ lo) : ∃ k, n = k + 1 ∧ okMid a b = true ∧
    (at_ < (lo + hi) / 2 → wayInv at_ (lo, (lo + hi) / 2, a, cut lo hi a b, k)) ∧ ((lo + hi) / 2 ≤ at_ → wayInv at_ ((lo + hi) / 2, hi, cut lo hi a b, b, k)) := by
  obtain ⟨h1, h2, h3, h4, h5, h6⟩ := h
  dsimp only at h1 h2 h3 h4 h5 h6
  cases n with
  | zero => simp at h3; omega
  | succ k =>
    have hp : (lo + hi) / 2 = lo + 2 ^ k := by rw [Nat.pow_succ] at h3; omega
    have hq : hi = lo + 2 ^ k + 2 ^ k := by rw [Nat.pow_succ] at h3; omega
    simp only [okTree, Bool.and_eq_true] at h2
    obtain ⟨⟨g1, g2⟩, g3⟩ := h2
    simp only [bis] at h1
    refine ⟨k, rfl, g1, fun hlt => ?_, fun hge => ?_⟩
    · have hb : Nat.blt at_ ((lo + hi) / 2) = true := by simpa using hlt
      rw [hb] at h1
      exact ⟨h1, g2, hp, h4, hlt, by dsimp only; omega⟩
    · have hb : Nat.blt at_ ((lo + hi) / 2) = false := by
        cases hc : Nat.blt at_ ((lo + hi) / 2) with
        | false => rfl
        | true => simp at hc; omega
      rw [hb] at h1
      exact ⟨h1, g3, by dsimp only; omega, hge, h5, h6⟩

theorem cut_512 {lo hi : Nat} {a b : NN} (h : (lo + hi) / 2 = 512) : cut lo hi a b = (47453132, 47453132) := by simp [cut, h]
theorem cut_ne {lo hi : Nat} {a b : NN} (h : (lo + hi) / 2 ≠ 512) : cut lo hi a b = mid a b := by
  have : Nat.beq ((lo + hi) / 2) 512 = false := by
    cases hc : Nat.beq ((lo + hi) / 2) 512 with
    | false => rfl
    | true => exact absurd (Nat.eq_of_beq_eq_true hc) h
  simp only [cut, this, cond_false]

/-- wayOf -/
theorem h77 : Ok 76 sWay := by
  refine mk (ctr := [(89, sMid), (90, sTurn)]) ⟨h115, h116, trivial⟩ (nt := 51) Tryd.func76 rfl rfl rfl rfl (by kernel_rfl) (by kernel_rfl) (fun x => [fun _ => wayAnn x.1]) ?_
  rintro ⟨(m : Int), _⟩ _
  repeat' (intro hzz; (try (rename Two => hq; cases hq)); (try dsimp only at hzz); (try simp only [resTy, argTy, eqD, inR, big, wantOf, Bool.not_true, Bool.not_false, Bool.true_eq, decide_eq_true_eq, decide_eq_false_iff_not, Bool.not_eq_true', Bool.not_eq_false', Bool.and_eq_true, Prod.mk.injEq, and_true, true_and, Int.not_lt, Int.not_le, gt_iff_lt, ge_iff_le] at hzz); (try simp only [resTy, argTy, eqD, inR, big, wantOf, Bool.not_true, Bool.not_false, Bool.true_eq, decide_eq_true_eq, decide_eq_false_iff_not, Bool.not_eq_true', Bool.not_eq_false', Bool.and_eq_true, Prod.mk.injEq, and_true, true_and, Int.not_lt, Int.not_le, gt_iff_lt, ge_iff_le, bits_4095, tm1, td1] at hzz); (try (revert hzz; intro _)))
  all_goals try (rename Unit => hq; clear hq)
  all_goals try ((with_reducible refine Held.mk ?_); (with_reducible (first | refine Frz.mk ?_ | refine And.intro (Frz.mk ?_) ?_ | refine And.intro ?_ (Frz.mk ?_))); repeat' first | exact True.intro | (change _ = _; with_reducible rfl) | refine And.intro ?_ ?_ | (with_reducible refine Frz.mk ?_))
  all_goals try (refine Held.mk ?_; (try dsimp only at *); (try simp only [resTy, argTy, eqD, inR, big, wantOf, Bool.not_true, Bool.not_false, Bool.true_eq, decide_eq_true_eq, decide_eq_false_iff_not, Bool.not_eq_true', Bool.not_eq_false', Bool.and_eq_true, Prod.mk.injEq, and_true, true_and, Int.not_lt, Int.not_le, gt_iff_lt, ge_iff_le] at *); (try simp only [resTy, argTy, eqD, inR, big, wantOf, Bool.not_true, Bool.not_false, Bool.true_eq, decide_eq_true_eq, decide_eq_false_iff_not, Bool.not_eq_true', Bool.not_eq_false', Bool.and_eq_true, Prod.mk.injEq, and_true, true_and, Int.not_lt, Int.not_le, gt_iff_lt, ge_iff_le, bits_4095, tm1, td1] at *))
  · omega
  · omega
  ·
    refine GHeld.mk ?_
    refine Exists.intro (0, 1024, (67108864, 0), (0, 67108864), 10) ?_
    refine And.intro (Leaf.mk ?_) ?_
    · repeat' first | exact True.intro | refine And.intro ?_ ?_
      all_goals try ((change _ = _ <;> try dsimp only) <;> try with_reducible rfl)
      all_goals try omega
    exact ⟨rfl, tree_ok, rfl, by dsimp only; omega, by dsimp only; omega, by dsimp only; omega⟩
  · rename_i s hi g1 g2
    obtain ⟨lo, hi', a, b, n⟩ := s
    have := hi.2.2
    dsimp only at *
    omega
  · rename_i s hi g1 g2
    obtain ⟨lo, hi', a, b, n⟩ := s
    have := hi.2.2
    dsimp only at *
    rw [td2]
    omega
  · rename_i s hi g1 g2
    obtain ⟨lo, hi', a, b, n⟩ := s
    dsimp only at *
    obtain ⟨k, _, hk, _⟩ := wayInv_step hi (by omega)
    exact okMid_spec hk
  · rename_i s hi g1 g2 g3 g4
    obtain ⟨lo, hi', a, b, n⟩ := s
    all_goals try dsimp only at g1 g2 g3 g4
    all_goals try simp only [resTy, argTy, eqD, inR, big, wantOf, Bool.not_true, Bool.not_false, Bool.true_eq, decide_eq_true_eq, decide_eq_false_iff_not, Bool.not_eq_true', Bool.not_eq_false', Bool.and_eq_true, Prod.mk.injEq, and_true, true_and, Int.not_lt, Int.not_le, gt_iff_lt, ge_iff_le] at g1 g2 g3 g4
    all_goals try simp only [resTy, argTy, eqD, inR, big, wantOf, Bool.not_true, Bool.not_false, Bool.true_eq, decide_eq_true_eq, decide_eq_false_iff_not, Bool.not_eq_true', Bool.not_eq_false', Bool.and_eq_true, Prod.mk.injEq, and_true, true_and, Int.not_lt, Int.not_le, gt_iff_lt, ge_iff_le, bits_4095, tm1, td1, td2] at g1 g2 g3 g4
    obtain ⟨k, rfl, hk, e1, e2⟩ := wayInv_step hi (by omega)
    have hc := cut_512 (a := a) (b := b) (show (lo + hi') / 2 = 512 by omega)
    rw [hc] at e1
    have e1 := e1 (by omega)
    refine GHeld.mk ?_
    refine Exists.intro (lo, (lo + hi') / 2, a, (47453132, 47453132), k) ?_
    refine And.intro (Leaf.mk ?_) ?_
    · repeat' first | exact True.intro | refine And.intro ?_ ?_
      all_goals try ((change _ = _ <;> try dsimp only) <;> try with_reducible rfl)
      all_goals try omega
      all_goals (exact td2 _ _)
    exact ⟨e1, Nat.lt_succ_self k⟩
  · rename_i s hi g1 g2 g3 g4
    obtain ⟨lo, hi', a, b, n⟩ := s
    all_goals try dsimp only at g1 g2 g3 g4
    all_goals try simp only [resTy, argTy, eqD, inR, big, wantOf, Bool.not_true, Bool.not_false, Bool.true_eq, decide_eq_true_eq, decide_eq_false_iff_not, Bool.not_eq_true', Bool.not_eq_false', Bool.and_eq_true, Prod.mk.injEq, and_true, true_and, Int.not_lt, Int.not_le, gt_iff_lt, ge_iff_le] at g1 g2 g3 g4
    all_goals try simp only [resTy, argTy, eqD, inR, big, wantOf, Bool.not_true, Bool.not_false, Bool.true_eq, decide_eq_true_eq, decide_eq_false_iff_not, Bool.not_eq_true', Bool.not_eq_false', Bool.and_eq_true, Prod.mk.injEq, and_true, true_and, Int.not_lt, Int.not_le, gt_iff_lt, ge_iff_le, bits_4095, tm1, td1, td2] at g1 g2 g3 g4
    obtain ⟨k, rfl, hk, e1, e2⟩ := wayInv_step hi (by omega)
    have hc := cut_512 (a := a) (b := b) (show (lo + hi') / 2 = 512 by omega)
    rw [hc] at e2
    have e2 := e2 (by omega)
    refine GHeld.mk ?_
    refine Exists.intro ((lo + hi') / 2, hi', (47453132, 47453132), b, k) ?_
    refine And.intro (Leaf.mk ?_) ?_
    · repeat' first | exact True.intro | refine And.intro ?_ ?_
      all_goals try ((change _ = _ <;> try dsimp only) <;> try with_reducible rfl)
      all_goals try omega
      all_goals (exact td2 _ _)
    exact ⟨e2, Nat.lt_succ_self k⟩
  · rename_i s hi g1 g2 g3 g4
    obtain ⟨lo, hi', a, b, n⟩ := s
    all_goals try dsimp only at g1 g2 g3 g4
    all_goals try simp only [resTy, argTy, eqD, inR, big, wantOf, Bool.not_true, Bool.not_false, Bool.true_eq, decide_eq_true_eq, decide_eq_false_iff_not, Bool.not_eq_true', Bool.not_eq_false', Bool.and_eq_true, Prod.mk.injEq, and_true, true_and, Int.not_lt, Int.not_le, gt_iff_lt, ge_iff_le] at g1 g2 g3 g4
    all_goals try simp only [resTy, argTy, eqD, inR, big, wantOf, Bool.not_true, Bool.not_false, Bool.true_eq, decide_eq_true_eq, decide_eq_false_iff_not, Bool.not_eq_true', Bool.not_eq_false', Bool.and_eq_true, Prod.mk.injEq, and_true, true_and, Int.not_lt, Int.not_le, gt_iff_lt, ge_iff_le, bits_4095, tm1, td1, td2] at g1 g2 g3 g4
    obtain ⟨k, rfl, hk, e1, e2⟩ := wayInv_step hi (by omega)
    have hc := cut_ne (a := a) (b := b) (show (lo + hi') / 2 ≠ 512 by omega)
    rw [hc] at e1
    have e1 := e1 (by omega)
    have hm1 : (midI a.1 a.2 b.1 b.2).1 = ((mid a b).1 : Int) := congrArg Prod.fst (midI_cast a b)
    have hm2 : (midI a.1 a.2 b.1 b.2).2 = ((mid a b).2 : Int) := congrArg Prod.snd (midI_cast a b)
    refine GHeld.mk ?_
    refine Exists.intro (lo, (lo + hi') / 2, a, mid a b, k) ?_
    refine And.intro (Leaf.mk ?_) ?_
    · repeat' first | exact True.intro | refine And.intro ?_ ?_
      all_goals try ((change _ = _ <;> try dsimp only) <;> try with_reducible rfl)
      all_goals try omega
      all_goals (first | with_reducible exact td2 _ _ | with_reducible exact hm1 | with_reducible exact hm2 | trace_state)
    exact ⟨e1, Nat.lt_succ_self k⟩
  · rename_i s hi g1 g2 g3 g4
    obtain ⟨lo, hi', a, b, n⟩ := s
    all_goals try dsimp only at g1 g2 g3 g4
    all_goals try simp only [resTy, argTy, eqD, inR, big, wantOf, Bool.not_true, Bool.not_false, Bool.true_eq, decide_eq_true_eq, decide_eq_false_iff_not, Bool.not_eq_true', Bool.not_eq_false', Bool.and_eq_true, Prod.mk.injEq, and_true, true_and, Int.not_lt, Int.not_le, gt_iff_lt, ge_iff_le] at g1 g2 g3 g4
    all_goals try simp only [resTy, argTy, eqD, inR, big, wantOf, Bool.not_true, Bool.not_false, Bool.true_eq, decide_eq_true_eq, decide_eq_false_iff_not, Bool.not_eq_true', Bool.not_eq_false', Bool.and_eq_true, Prod.mk.injEq, and_true, true_and, Int.not_lt, Int.not_le, gt_iff_lt, ge_iff_le, bits_4095, tm1, td1, td2] at g1 g2 g3 g4
    obtain ⟨k, rfl, hk, e1, e2⟩ := wayInv_step hi (by omega)
    have hc := cut_ne (a := a) (b := b) (show (lo + hi') / 2 ≠ 512 by omega)
    rw [hc] at e2
    have e2 := e2 (by omega)
    have hm1 : (midI a.1 a.2 b.1 b.2).1 = ((mid a b).1 : Int) := congrArg Prod.fst (midI_cast a b)
    have hm2 : (midI a.1 a.2 b.1 b.2).2 = ((mid a b).2 : Int) := congrArg Prod.snd (midI_cast a b)
    refine GHeld.mk ?_
    refine Exists.intro ((lo + hi') / 2, hi', mid a b, b, k) ?_
    refine And.intro (Leaf.mk ?_) ?_
    · repeat' first | exact True.intro | refine And.intro ?_ ?_
      all_goals try ((change _ = _ <;> try dsimp only) <;> try with_reducible rfl)
      all_goals try omega
      all_goals (first | with_reducible exact td2 _ _ | with_reducible exact hm1 | with_reducible exact hm2 | trace_state)
    exact ⟨e2, Nat.lt_succ_self k⟩
  · rename_i s hi g1 g2 g3
    obtain ⟨lo, hi', a, b, n⟩ := s
    have := hi.2.2.2.2.1
    dsimp only at *
    omega
  · rename_i s hi g1 g2 g3
    obtain ⟨lo, hi', a, b, n⟩ := s
    have := hi.2.2.2.2.1
    dsimp only at *
    omega
  · rename_i s hi g1 g2 g3
    obtain ⟨lo, hi', a, b, n⟩ := s
    have := hi.2.2.2.2.1
    dsimp only at *
    omega
  · rename_i s hi g1 g2 g3
    obtain ⟨lo, hi', a, b, n⟩ := s
    have := hi.2.2.2.2.1
    dsimp only at *
    omega
  · rename_i s hi g1 g2
    obtain ⟨lo, hi', a, b, n⟩ := s
    have := hi.2.2.2.2.1
    dsimp only at *
    omega
  · rename_i s hi g1 g2
    obtain ⟨lo, hi', a, b, n⟩ := s
    have := hi.2.2.2.2.1
    dsimp only at *
    omega
  · rename_i s hi g1 g2
    obtain ⟨lo, hi', a, b, n⟩ := s
    have hw := wayQ_le (m % 1024).toNat
    obtain ⟨e1, e2, e3, e4, e5, e6⟩ := hi
    dsimp only at *
    have hl : (m % 1024).toNat = lo := by omega
    rw [hl, e3, bis_lo] at e1
    rw [← hl] at e1
    rw [e1]
    omega
  · rename_i s hi g1 g2
    obtain ⟨lo, hi', a, b, n⟩ := s
    obtain ⟨e1, e2, e3, e4, e5, e6⟩ := hi
    dsimp only at *
    have hl : (m % 1024).toNat = lo := by omega
    rw [hl, e3, bis_lo] at e1
    rw [← hl] at e1
    rw [e1]
    exact ⟨rfl, rfl⟩

abbrev pUnitOf (m : Int) : Prop := True
@[reducible] def sUnitOf : Spec := { pats := [.dat I64], res := [{ t := Ball }], pre := fun x => True, f := fun x => (unitI x.1, ()) }

/-- UnitOf -/
theorem h18 : Ok 63 sUnitOf := by
  refine mk (ctr := [(76, sWay), (47, sRound)]) ⟨h77, h78, trivial⟩ (nt := 19) Tryd.func63 rfl rfl rfl rfl (by kernel_rfl) (by kernel_rfl) (fun _ => []) ?_
  rintro ⟨(m : Int), _⟩ _
  have hw := wayI_le m
  repeat' (intro hzz; (try (rename Two => hq; cases hq)); (try dsimp only at hzz); (try simp only [resTy, argTy, eqD, inR, big, wantOf, Bool.not_true, Bool.not_false, Bool.true_eq, decide_eq_true_eq, decide_eq_false_iff_not, Bool.not_eq_true', Bool.not_eq_false', Bool.and_eq_true, Prod.mk.injEq, and_true, true_and, Int.not_lt, Int.not_le, gt_iff_lt, ge_iff_le] at hzz); (try simp only [resTy, argTy, eqD, inR, big, wantOf, Bool.not_true, Bool.not_false, Bool.true_eq, decide_eq_true_eq, decide_eq_false_iff_not, Bool.not_eq_true', Bool.not_eq_false', Bool.and_eq_true, Prod.mk.injEq, and_true, true_and, Int.not_lt, Int.not_le, gt_iff_lt, ge_iff_le, pRound, fRound, bits_1023, unitI] at hzz); (try (revert hzz; intro _)))
  all_goals try (rename Unit => hq; clear hq)
  all_goals try ((with_reducible refine Held.mk ?_); (with_reducible (first | refine Frz.mk ?_ | refine And.intro (Frz.mk ?_) ?_ | refine And.intro ?_ (Frz.mk ?_))); repeat' first | exact True.intro | (change _ = _; with_reducible rfl) | refine And.intro ?_ ?_ | (with_reducible refine Frz.mk ?_))
  all_goals try (refine Held.mk ?_; (try dsimp only at *); (try simp only [resTy, argTy, eqD, inR, big, wantOf, Bool.not_true, Bool.not_false, Bool.true_eq, decide_eq_true_eq, decide_eq_false_iff_not, Bool.not_eq_true', Bool.not_eq_false', Bool.and_eq_true, Prod.mk.injEq, and_true, true_and, Int.not_lt, Int.not_le, gt_iff_lt, ge_iff_le] at *); (try simp only [resTy, argTy, eqD, inR, big, wantOf, Bool.not_true, Bool.not_false, Bool.true_eq, decide_eq_true_eq, decide_eq_false_iff_not, Bool.not_eq_true', Bool.not_eq_false', Bool.and_eq_true, Prod.mk.injEq, and_true, true_and, Int.not_lt, Int.not_le, gt_iff_lt, ge_iff_le, pRound, fRound, bits_1023, unitI] at *))
  all_goals try omega

end Go.Eng.Lp
