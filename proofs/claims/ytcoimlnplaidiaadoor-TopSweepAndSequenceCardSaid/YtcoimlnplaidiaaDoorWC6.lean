/- Contracts: the states, the bits, the period of a start. Conditions: the register is right, the start a state. Contracts: pairs; a float's error as a part. Conditions: each contract's own. Contracts: lists of complex numbers, checked and taken apart, for any raw numbers. Conditions: each contract's own. Contracts: numbers with whole parts: from complex numbers and back. Conditions: each contract's own. Contracts at the examples of the document. Conditions: each contract's own. -/
import Derived.Test.YtcoimlnplaidiaaDoorWC5
import Derived.Test.YtcoimlnplaidiaaDoorWC4
namespace Go.Eng.Pu
open Go.Eng Go.Proofs
set_option linter.all false
set_option maxRecDepth 100000
set_option maxHeartbeats 8000000

abbrev StT : Ty := .clo 81 (.cons (.ptr I64) (.cons (.ptr Reg) .nil))
@[reducible] def sStates : Spec := { pats := [.dat Reg, .dat I64], res := [{ t := StT }], pre := fun _ => True, f := fun x => ((x.2.1, (x.1, ())), ()) }

/-- register.states -/
theorem h145 : Ok 70 sStates := by
  refine mkX (X := xS) (hX := xS_ok) (ctr := []) trivial (nt := 6) Tryd.func70 rfl rfl rfl rfl (by kernel_rfl) (by kernel_rfl) (fun _ => []) ?_
  rintro ⟨⟨⟨(L : Int), (xs : List Int), _⟩, _⟩, (s : Int), _⟩ _
  repeat' (intro hzz; (try (rename Two => hq; cases hq)); (try dsimp only at hzz); (try simp only [resTy, argTy, eqD, inR, big, wantOf, Bool.not_true, Bool.not_false, Bool.true_eq, decide_eq_true_eq, decide_eq_false_iff_not, Bool.not_eq_true', Bool.not_eq_false', Bool.and_eq_true, Prod.mk.injEq, and_true, true_and, Int.not_lt, Int.not_le, gt_iff_lt, ge_iff_le] at hzz); (try (revert hzz; intro _)))
  all_goals try (rename Unit => hq; clear hq)
  all_goals try ((with_reducible refine Held.mk ?_); (with_reducible (first | refine Frz.mk ?_ | refine And.intro (Frz.mk ?_) ?_ | refine And.intro ?_ (Frz.mk ?_))); repeat' first | exact True.intro | (change _ = _; with_reducible rfl) | refine And.intro ?_ ?_ | (with_reducible refine Frz.mk ?_))
  all_goals try (refine Held.mk ?_; (try dsimp only at *); (try simp only [resTy, argTy, eqD, inR, big, wantOf, Bool.not_true, Bool.not_false, Bool.true_eq, decide_eq_true_eq, decide_eq_false_iff_not, Bool.not_eq_true', Bool.not_eq_false', Bool.and_eq_true, Prod.mk.injEq, and_true, true_and, Int.not_lt, Int.not_le, gt_iff_lt, ge_iff_le] at *))

abbrev cOwn (key off k el : Nat) (xs : List Int) : St := [.cell key off (.o k xs.length), .row k el I64 xs]

def bitI (L : Int) (xs : List Int) (s : Int) (i : Nat) : Int := stI L xs s i % 2

@[reducible] def sBits : Spec := { pats := [.dat Reg, .dat I64, .dat I64], res := [{ own := some 3, t := .sl I64 }], pre := fun x => pSt x.1.1.1 x.1.1.2.1 x.2.1 ∧ 0 ≤ x.2.2.1 ∧ x.2.2.1 ≤ (1024 : Int), f := fun x => (tab (bitI x.1.1.1 x.1.1.2.1 x.2.1) (Int.toNat x.2.2.1), ()) }

/-- register.bits -/
theorem h87 : Ok 53 sBits := by
  refine mkX (X := xS) (hX := xS_ok) (ctr := [(70, sStates)]) ⟨h145, trivial⟩ (nt := 23) Tryd.func53 rfl rfl rfl rfl (by kernel_rfl) (by kernel_rfl) (fun x => [fun _ => { σ := Nat, pat := fun k => cOwn 7 0 60007 3 (tab (bitI x.1.1.1 x.1.1.2.1 x.2.1) k), inv := fun k => (k : Int) ≤ x.2.2.1, meas := fun k => k }]) ?_
  rintro ⟨⟨⟨(L : Int), (xs : List Int), _⟩, _⟩, (s : Int), (n : Int), _⟩ ⟨(hp : pSt L xs s), (h0 : 0 ≤ n), (h1 : n ≤ 1024)⟩
  repeat' (intro hzz; (try (rename Two => hq; cases hq)); (try dsimp only at hzz); (try simp only [resTy, argTy, eqD, inR, big, wantOf, Bool.not_true, Bool.not_false, Bool.true_eq, decide_eq_true_eq, decide_eq_false_iff_not, Bool.not_eq_true', Bool.not_eq_false', Bool.and_eq_true, Prod.mk.injEq, and_true, true_and, Int.not_lt, Int.not_le, gt_iff_lt, ge_iff_le] at hzz); (try simp only [resTy, argTy, eqD, inR, big, wantOf, Bool.not_true, Bool.not_false, Bool.true_eq, decide_eq_true_eq, decide_eq_false_iff_not, Bool.not_eq_true', Bool.not_eq_false', Bool.and_eq_true, Prod.mk.injEq, and_true, true_and, Int.not_lt, Int.not_le, gt_iff_lt, ge_iff_le, tab_len] at hzz); (try (first | contradiction | (exfalso; omega))); (try (revert hzz; intro _)))
  all_goals try (rename Unit => hq; clear hq)
  all_goals try ((with_reducible refine Held.mk ?_); (with_reducible (first | refine Frz.mk ?_ | refine And.intro (Frz.mk ?_) ?_ | refine And.intro ?_ (Frz.mk ?_))); repeat' first | exact True.intro | (change _ = _; with_reducible rfl) | refine And.intro ?_ ?_ | (with_reducible refine Frz.mk ?_))
  all_goals try (refine Held.mk ?_; (try dsimp only at *); (try simp only [resTy, argTy, eqD, inR, big, wantOf, Bool.not_true, Bool.not_false, Bool.true_eq, decide_eq_true_eq, decide_eq_false_iff_not, Bool.not_eq_true', Bool.not_eq_false', Bool.and_eq_true, Prod.mk.injEq, and_true, true_and, Int.not_lt, Int.not_le, gt_iff_lt, ge_iff_le] at *); (try simp only [resTy, argTy, eqD, inR, big, wantOf, Bool.not_true, Bool.not_false, Bool.true_eq, decide_eq_true_eq, decide_eq_false_iff_not, Bool.not_eq_true', Bool.not_eq_false', Bool.and_eq_true, Prod.mk.injEq, and_true, true_and, Int.not_lt, Int.not_le, gt_iff_lt, ge_iff_le, tab_len] at *))
  all_goals try omega
  · 
    refine GHeld.mk ?_
    refine Exists.intro 0 ?_
    refine And.intro (Leaf.mk ?_) ?_
    · repeat' first | exact True.intro | refine And.intro ?_ ?_
      all_goals try ((change _ = _ <;> try dsimp only) <;> try with_reducible rfl)
      all_goals try omega
      all_goals (rfl)
    exact ⟨h0, rfl⟩
  · exact fun _ => ⟨1025, fun k hk => by omega⟩
  · exact fun k hk => ⟨rfl, rfl, rfl⟩
  · rename_i k hk _ hg
    show tab (bitI L xs s) k = tab (bitI L xs s) n.toNat
    rw [show n.toNat = k from by omega]
  · rename_i k hk _ hg
    show k + 1 ≤ 2147483648
    omega
  · rename_i k hk _ hg
    obtain ⟨_, _, r1, r2⟩ := stI_pSt hp k
    have hP := P2_in (chk_zero hp.1).1
    have e : bits .and .i64 (stI L xs s k) 1 = bitI L xs s k := and1 r1 (by omega)
    rw [e]
    refine GHeld.mk ?_
    refine Exists.intro (k + 1) ?_
    refine And.intro (Leaf.mk ?_) ?_
    · repeat' first | exact True.intro | refine And.intro ?_ ?_
      all_goals try ((change _ = _ <;> try dsimp only) <;> try with_reducible rfl)
      all_goals try omega
      all_goals (first | rfl | (rw [tab_len]; rfl) | skip)
    exact ⟨by show ((k + 1 : Nat) : Int) ≤ n; omega, rfl⟩

/-- Not back yet. -/
def nyet (L : Int) (xs : List Int) (s : Int) (k : Nat) : Prop := ∀ m, 1 ≤ m → m ≤ k → stI L xs s m ≠ s

theorem nyet_lt {L : Int} {xs : List Int} {s : Int} (h : pSt L xs s) {k : Nat} (hk : nyet L xs s k) : k < per L xs s := by
  obtain ⟨h1, h2, h3, h4⟩ := per_spec h
  by_cases hc : k < per L xs s
  · exact hc
  · exact absurd h1 (hk _ h2 (by omega))

theorem nyet_per {L : Int} {xs : List Int} {s : Int} (h : pSt L xs s) {k : Nat} (hk : nyet L xs s k) (he : stI L xs s (k + 1) = s) : per L xs s = k + 1 := by
  obtain ⟨h1, h2, h3, h4⟩ := per_spec h
  have := nyet_lt h hk
  by_cases hc : k + 1 < per L xs s
  · exact absurd he (h4 (k + 1) (by omega) hc)
  · omega

@[reducible] def sPer : Spec := { pats := [.dat Reg, .dat I64], res := [{ t := I64 }], pre := fun x => pSt x.1.1.1 x.1.1.2.1 x.2.1, f := fun x => ((per x.1.1.1 x.1.1.2.1 x.2.1 : Int), ()) }

/-- register.period -/
theorem h88 : Ok 69 sPer := by
  refine mkX (X := xS) (hX := xS_ok) (ctr := [(70, sStates), (80, sNext)]) ⟨h145, h146, trivial⟩ (nt := 19) Tryd.func69 rfl rfl rfl rfl (by kernel_rfl) (by kernel_rfl) (fun x => [fun _ => { σ := Nat, pat := fun k => [cI 5 0 k], inv := fun k => nyet x.1.1.1 x.1.1.2.1 x.2.1 k, meas := fun k => k }]) ?_
  rintro ⟨⟨⟨(L : Int), (xs : List Int), _⟩, _⟩, (s : Int), _⟩ (hp : pSt L xs s)
  have hn : pSt L xs (nxt L xs s) := stI_pSt hp 1
  repeat' (intro hzz; (try (rename Two => hq; cases hq)); (try dsimp only at hzz); (try simp only [resTy, argTy, eqD, inR, big, wantOf, Bool.not_true, Bool.not_false, Bool.true_eq, decide_eq_true_eq, decide_eq_false_iff_not, Bool.not_eq_true', Bool.not_eq_false', Bool.and_eq_true, Prod.mk.injEq, and_true, true_and, Int.not_lt, Int.not_le, gt_iff_lt, ge_iff_le] at hzz); (try simp only [resTy, argTy, eqD, inR, big, wantOf, Bool.not_true, Bool.not_false, Bool.true_eq, decide_eq_true_eq, decide_eq_false_iff_not, Bool.not_eq_true', Bool.not_eq_false', Bool.and_eq_true, Prod.mk.injEq, and_true, true_and, Int.not_lt, Int.not_le, gt_iff_lt, ge_iff_le, stI_nxt] at hzz); (try (first | contradiction | (exfalso; omega))); (try (revert hzz; intro _)))
  all_goals try (rename Unit => hq; clear hq)
  all_goals try ((with_reducible refine Held.mk ?_); (with_reducible (first | refine Frz.mk ?_ | refine And.intro (Frz.mk ?_) ?_ | refine And.intro ?_ (Frz.mk ?_))); repeat' first | exact True.intro | (change _ = _; with_reducible rfl) | refine And.intro ?_ ?_ | (with_reducible refine Frz.mk ?_))
  all_goals try (refine Held.mk ?_; (try dsimp only at *); (try simp only [resTy, argTy, eqD, inR, big, wantOf, Bool.not_true, Bool.not_false, Bool.true_eq, decide_eq_true_eq, decide_eq_false_iff_not, Bool.not_eq_true', Bool.not_eq_false', Bool.and_eq_true, Prod.mk.injEq, and_true, true_and, Int.not_lt, Int.not_le, gt_iff_lt, ge_iff_le] at *); (try simp only [resTy, argTy, eqD, inR, big, wantOf, Bool.not_true, Bool.not_false, Bool.true_eq, decide_eq_true_eq, decide_eq_false_iff_not, Bool.not_eq_true', Bool.not_eq_false', Bool.and_eq_true, Prod.mk.injEq, and_true, true_and, Int.not_lt, Int.not_le, gt_iff_lt, ge_iff_le, stI_nxt] at *))
  all_goals try omega
  · 
    refine GHeld.mk ?_
    refine Exists.intro 0 ?_
    refine And.intro (Leaf.mk ?_) ?_
    · repeat' first | exact True.intro | refine And.intro ?_ ?_
      all_goals try ((change _ = _ <;> try dsimp only) <;> try with_reducible rfl)
      all_goals try omega
      all_goals (rfl)
    exact ⟨fun m h1 h2 => by omega, rfl⟩
  · exact fun _ => ⟨per L xs s, fun k hk => nyet_lt hp hk⟩
  · exact fun k hk => ⟨rfl, rfl, rfl⟩
  · rename_i k hk _
    have := nyet_lt hp hk
    have := per_spec hp
    have := P2_in (chk_zero hp.1).1
    omega
  · rename_i k hk _ h
    have h : stI L xs s (k + 1) = s := h
    have := nyet_per hp hk h
    show ((k : Int) + 1) = (per L xs s : Int)
    omega
  · rename_i k hk _ h
    refine GHeld.mk ?_
    refine Exists.intro (k + 1) ?_
    refine And.intro (Leaf.mk ?_) ?_
    · repeat' first | exact True.intro | refine And.intro ?_ ?_
      all_goals try ((change _ = _ <;> try dsimp only) <;> try with_reducible rfl)
      all_goals try omega
    refine ⟨fun m h1 h2 => ?_, rfl⟩
    by_cases hm : m = k + 1
    · subst hm; exact h
    · exact hk m h1 (by omega)

@[reducible] def sIsMax : Spec := { pats := [.dat Reg], res := [{ t := .bool }], pre := fun x => chk x.1.1.1 x.1.1.2.1 = 0 ∧ pLen (List.length (α := Int) x.1.1.2.1), f := fun x => (decide ((per x.1.1.1 x.1.1.2.1 1 : Int) = most x.1.1.1), ()) }

theorem one_pSt {L : Int} {xs : List Int} (h : chk L xs = 0) (hl : pLen xs.length) : pSt L xs 1 := ⟨h, hl, by omega, by have := P2_in (chk_zero h).1; omega⟩

/-- register.isMaximal -/
theorem h121 : Ok 50 sIsMax := by
  refine mk (ctr := [(69, sPer), (46, sFull)]) ⟨h88, h94, trivial⟩ (nt := 8) Tryd.func50 rfl rfl rfl rfl (by kernel_rfl) (by kernel_rfl) (fun _ => []) ?_
  rintro ⟨⟨⟨(L : Int), (xs : List Int), _⟩, _⟩, _⟩ ⟨(hc : chk L xs = 0), (hl : pLen xs.length)⟩
  have h1 := one_pSt hc hl
  have h2 := (chk_zero hc).1
  repeat' (intro hzz; (try (rename Two => hq; cases hq)); (try dsimp only at hzz); (try simp only [resTy, argTy, eqD, inR, big, wantOf, Bool.not_true, Bool.not_false, Bool.true_eq, decide_eq_true_eq, decide_eq_false_iff_not, Bool.not_eq_true', Bool.not_eq_false', Bool.and_eq_true, Prod.mk.injEq, and_true, true_and, Int.not_lt, Int.not_le, gt_iff_lt, ge_iff_le] at hzz); (try (first | contradiction | (exfalso; omega))); (try (revert hzz; intro _)))
  all_goals try (rename Unit => hq; clear hq)
  all_goals try ((with_reducible refine Held.mk ?_); (with_reducible (first | refine Frz.mk ?_ | refine And.intro (Frz.mk ?_) ?_ | refine And.intro ?_ (Frz.mk ?_))); repeat' first | exact True.intro | (change _ = _; with_reducible rfl) | refine And.intro ?_ ?_ | (with_reducible refine Frz.mk ?_))
  all_goals try (refine Held.mk ?_; (try dsimp only at *); (try simp only [resTy, argTy, eqD, inR, big, wantOf, Bool.not_true, Bool.not_false, Bool.true_eq, decide_eq_true_eq, decide_eq_false_iff_not, Bool.not_eq_true', Bool.not_eq_false', Bool.and_eq_true, Prod.mk.injEq, and_true, true_and, Int.not_lt, Int.not_le, gt_iff_lt, ge_iff_le] at *))
  all_goals try omega

end Go.Eng.Pu

namespace Go.Eng.Pu
open Go.Eng Go.Proofs
set_option linter.all false
set_option maxRecDepth 100000
set_option maxHeartbeats 8000000

abbrev okI (n : Int) : Prop := -4000000000000000000 ≤ n ∧ n ≤ 4000000000000000000
@[reducible] def sPlus : Spec := { pats := [.dat PairT, .dat PairT], res := [{ t := PairT }], pre := fun x => okI x.1.1 ∧ okI x.1.2.1 ∧ okI x.2.1.1 ∧ okI x.2.1.2.1, f := fun x => ((x.1.1 + x.2.1.1, x.1.2.1 + x.2.1.2.1, ()), ()) }

/-- pair.plus -/
theorem h122 : Ok 37 sPlus := by
  refine mk (ctr := []) trivial (nt := 16) Tryd.func37 rfl rfl rfl rfl (by kernel_rfl) (by kernel_rfl) (fun _ => []) ?_
  rintro ⟨⟨(a : Int), (b : Int), _⟩, ⟨(c : Int), (d : Int), _⟩, _⟩ ⟨(h1 : okI a), (h2 : okI b), (h3 : okI c), (h4 : okI d)⟩
  repeat' (intro hzz; (try (rename Two => hq; cases hq)); (try dsimp only at hzz); (try simp only [resTy, argTy, eqD, inR, big, wantOf, Bool.not_true, Bool.not_false, Bool.true_eq, decide_eq_true_eq, decide_eq_false_iff_not, Bool.not_eq_true', Bool.not_eq_false', Bool.and_eq_true, Prod.mk.injEq, and_true, true_and, Int.not_lt, Int.not_le, gt_iff_lt, ge_iff_le] at hzz); (try simp only [resTy, argTy, eqD, inR, big, wantOf, Bool.not_true, Bool.not_false, Bool.true_eq, decide_eq_true_eq, decide_eq_false_iff_not, Bool.not_eq_true', Bool.not_eq_false', Bool.and_eq_true, Prod.mk.injEq, and_true, true_and, Int.not_lt, Int.not_le, gt_iff_lt, ge_iff_le, okI] at hzz); (try (revert hzz; intro _)))
  all_goals try (rename Unit => hq; clear hq)
  all_goals try ((with_reducible refine Held.mk ?_); (with_reducible (first | refine Frz.mk ?_ | refine And.intro (Frz.mk ?_) ?_ | refine And.intro ?_ (Frz.mk ?_))); repeat' first | exact True.intro | (change _ = _; with_reducible rfl) | refine And.intro ?_ ?_ | (with_reducible refine Frz.mk ?_))
  all_goals try (refine Held.mk ?_; (try dsimp only at *); (try simp only [resTy, argTy, eqD, inR, big, wantOf, Bool.not_true, Bool.not_false, Bool.true_eq, decide_eq_true_eq, decide_eq_false_iff_not, Bool.not_eq_true', Bool.not_eq_false', Bool.and_eq_true, Prod.mk.injEq, and_true, true_and, Int.not_lt, Int.not_le, gt_iff_lt, ge_iff_le] at *); (try simp only [resTy, argTy, eqD, inR, big, wantOf, Bool.not_true, Bool.not_false, Bool.true_eq, decide_eq_true_eq, decide_eq_false_iff_not, Bool.not_eq_true', Bool.not_eq_false', Bool.and_eq_true, Prod.mk.injEq, and_true, true_and, Int.not_lt, Int.not_le, gt_iff_lt, ge_iff_le, okI] at *))
  all_goals try omega

abbrev okP (n : Int) : Prop := -1000000000 ≤ n ∧ n ≤ 1000000000
theorem mul_ok {a b : Int} (ha : okP a) (hb : okP b) : okI (a * b) := by
  have h1 : a.natAbs ≤ 1000000000 := by unfold okP at ha; omega
  have h2 : b.natAbs ≤ 1000000000 := by unfold okP at hb; omega
  have h3 : (a * b).natAbs ≤ 1000000000 * 1000000000 := by rw [Int.natAbs_mul]; exact Nat.mul_le_mul h1 h2
  unfold okI; omega

@[reducible] def sBy : Spec := { pats := [.dat PairT, .dat I64], res := [{ t := PairT }], pre := fun x => okP x.1.1 ∧ okP x.1.2.1 ∧ okP x.2.1, f := fun x => ((x.1.1 * x.2.1, x.1.2.1 * x.2.1, ()), ()) }

/-- pair.by -/
theorem h149 : Ok 67 sBy := by
  refine mk (ctr := []) trivial (nt := 14) Tryd.func67 rfl rfl rfl rfl (by kernel_rfl) (by kernel_rfl) (fun _ => []) ?_
  rintro ⟨⟨(a : Int), (b : Int), _⟩, (c : Int), _⟩ ⟨(h1 : okP a), (h2 : okP b), (h3 : okP c)⟩
  have h4 := mul_ok h1 h3
  have h5 := mul_ok h2 h3
  repeat' (intro hzz; (try (rename Two => hq; cases hq)); (try dsimp only at hzz); (try simp only [resTy, argTy, eqD, inR, big, wantOf, Bool.not_true, Bool.not_false, Bool.true_eq, decide_eq_true_eq, decide_eq_false_iff_not, Bool.not_eq_true', Bool.not_eq_false', Bool.and_eq_true, Prod.mk.injEq, and_true, true_and, Int.not_lt, Int.not_le, gt_iff_lt, ge_iff_le] at hzz); (try simp only [resTy, argTy, eqD, inR, big, wantOf, Bool.not_true, Bool.not_false, Bool.true_eq, decide_eq_true_eq, decide_eq_false_iff_not, Bool.not_eq_true', Bool.not_eq_false', Bool.and_eq_true, Prod.mk.injEq, and_true, true_and, Int.not_lt, Int.not_le, gt_iff_lt, ge_iff_le, okI, okP] at hzz); (try (revert hzz; intro _)))
  all_goals try (rename Unit => hq; clear hq)
  all_goals try ((with_reducible refine Held.mk ?_); (with_reducible (first | refine Frz.mk ?_ | refine And.intro (Frz.mk ?_) ?_ | refine And.intro ?_ (Frz.mk ?_))); repeat' first | exact True.intro | (change _ = _; with_reducible rfl) | refine And.intro ?_ ?_ | (with_reducible refine Frz.mk ?_))
  all_goals try (refine Held.mk ?_; (try dsimp only at *); (try simp only [resTy, argTy, eqD, inR, big, wantOf, Bool.not_true, Bool.not_false, Bool.true_eq, decide_eq_true_eq, decide_eq_false_iff_not, Bool.not_eq_true', Bool.not_eq_false', Bool.and_eq_true, Prod.mk.injEq, and_true, true_and, Int.not_lt, Int.not_le, gt_iff_lt, ge_iff_le] at *); (try simp only [resTy, argTy, eqD, inR, big, wantOf, Bool.not_true, Bool.not_false, Bool.true_eq, decide_eq_true_eq, decide_eq_false_iff_not, Bool.not_eq_true', Bool.not_eq_false', Bool.and_eq_true, Prod.mk.injEq, and_true, true_and, Int.not_lt, Int.not_le, gt_iff_lt, ge_iff_le, okI, okP] at *))
  all_goals try omega

@[reducible] def sFits : Spec := { pats := [.dat PairT], res := [{ t := .bool }], pre := fun x => True, f := fun x => (fRec x.1.1 && fRec x.1.2.1, ()) }

/-- pair.fits -/
theorem h137 : Ok 42 sFits := by
  refine mk (ctr := [(63, sRec)]) ⟨h117, trivial⟩ (nt := 11) Tryd.func42 rfl rfl rfl rfl (by kernel_rfl) (by kernel_rfl) (fun _ => []) ?_
  rintro ⟨⟨(a : Int), (b : Int), _⟩, _⟩ _
  repeat' (intro hzz; (try (rename Two => hq; cases hq)); (try dsimp only at hzz); (try simp only [resTy, argTy, eqD, inR, big, wantOf, Bool.not_true, Bool.not_false, Bool.true_eq, decide_eq_true_eq, decide_eq_false_iff_not, Bool.not_eq_true', Bool.not_eq_false', Bool.and_eq_true, Prod.mk.injEq, and_true, true_and, Int.not_lt, Int.not_le, gt_iff_lt, ge_iff_le] at hzz); (try simp only [resTy, argTy, eqD, inR, big, wantOf, Bool.not_true, Bool.not_false, Bool.true_eq, decide_eq_true_eq, decide_eq_false_iff_not, Bool.not_eq_true', Bool.not_eq_false', Bool.and_eq_true, Prod.mk.injEq, and_true, true_and, Int.not_lt, Int.not_le, gt_iff_lt, ge_iff_le, fRec] at hzz); (try (revert hzz; intro _)))
  all_goals try (rename Unit => hq; clear hq)
  all_goals try ((with_reducible refine Held.mk ?_); (with_reducible (first | refine Frz.mk ?_ | refine And.intro (Frz.mk ?_) ?_ | refine And.intro ?_ (Frz.mk ?_))); repeat' first | exact True.intro | (change _ = _; with_reducible rfl) | refine And.intro ?_ ?_ | (with_reducible refine Frz.mk ?_))
  all_goals try (refine Held.mk ?_; (try dsimp only at *); (try simp only [resTy, argTy, eqD, inR, big, wantOf, Bool.not_true, Bool.not_false, Bool.true_eq, decide_eq_true_eq, decide_eq_false_iff_not, Bool.not_eq_true', Bool.not_eq_false', Bool.and_eq_true, Prod.mk.injEq, and_true, true_and, Int.not_lt, Int.not_le, gt_iff_lt, ge_iff_le] at *); (try simp only [resTy, argTy, eqD, inR, big, wantOf, Bool.not_true, Bool.not_false, Bool.true_eq, decide_eq_true_eq, decide_eq_false_iff_not, Bool.not_eq_true', Bool.not_eq_false', Bool.and_eq_true, Prod.mk.injEq, and_true, true_and, Int.not_lt, Int.not_le, gt_iff_lt, ge_iff_le, fRec] at *))
  · rename_i h; simp [fWithin, h]
  · rename_i h; simp [fWithin, h]

@[reducible] def sNumber : Spec := { pats := [.dat PairT], res := [{ t := C64 }], pre := fun x => True, f := fun x => ((floatOfInt .f32 x.1.1, floatOfInt .f32 x.1.2.1), ()) }

/-- pair.number -/
theorem h148 : Ok 58 sNumber := by
  refine mk (ctr := []) trivial (nt := 10) Tryd.func58 rfl rfl rfl rfl (by kernel_rfl) (by kernel_rfl) (fun _ => []) ?_
  rintro ⟨⟨(a : Int), (b : Int), _⟩, _⟩ _
  repeat' (intro hzz; (try (rename Two => hq; cases hq)); (try dsimp only at hzz); (try simp only [resTy, argTy, eqD, inR, big, wantOf, Bool.not_true, Bool.not_false, Bool.true_eq, decide_eq_true_eq, decide_eq_false_iff_not, Bool.not_eq_true', Bool.not_eq_false', Bool.and_eq_true, Prod.mk.injEq, and_true, true_and, Int.not_lt, Int.not_le, gt_iff_lt, ge_iff_le] at hzz); (try (revert hzz; intro _)))
  all_goals try (rename Unit => hq; clear hq)
  all_goals try ((with_reducible refine Held.mk ?_); (with_reducible (first | refine Frz.mk ?_ | refine And.intro (Frz.mk ?_) ?_ | refine And.intro ?_ (Frz.mk ?_))); repeat' first | exact True.intro | (change _ = _; with_reducible rfl) | refine And.intro ?_ ?_ | (with_reducible refine Frz.mk ?_))
  all_goals try (refine Held.mk ?_; (try dsimp only at *); (try simp only [resTy, argTy, eqD, inR, big, wantOf, Bool.not_true, Bool.not_false, Bool.true_eq, decide_eq_true_eq, decide_eq_false_iff_not, Bool.not_eq_true', Bool.not_eq_false', Bool.and_eq_true, Prod.mk.injEq, and_true, true_and, Int.not_lt, Int.not_le, gt_iff_lt, ge_iff_le] at *))

/-- What is asked of a float that is tried as a part: that what the program makes of it is told. -/
def pPart (x : Nat) : Prop := (FloatKind.f32.format.sub x x).isSome = true ∧ (floatToIntVal .f32 x .i64).isSome = true
def fPart (x : Nat) : Int :=
  if (FloatKind.f32.format.order x x != some .eq) = true then 27 else
  if (FloatKind.f32.format.order ((FloatKind.f32.format.sub x x).getD 0) 0 != some .eq) = true then 27 else
  if (FloatKind.f32.format.order x 1266679808 == some .gt) = true then 2 else
  if (FloatKind.f32.format.order x 3414163456 == some .lt) = true then 2 else
  cond (FloatKind.f32.format.order (floatOfInt .f32 ((floatToIntVal .f32 x .i64).getD 0)) x == some .eq) 0 27

@[reducible] def sPart : Spec := { pats := [.dat F32], res := [{ t := I64 }], pre := fun x => pPart x.1, f := fun x => (fPart x.1, ()) }

/-- partErr -/
theorem h147 : Ok 64 sPart := by
  refine mk (ctr := [(52, sUnless)]) ⟨h85, trivial⟩ (nt := 26) Tryd.func64 rfl rfl rfl rfl (by kernel_rfl) (by kernel_rfl) (fun _ => []) ?_
  rintro ⟨(x : Nat), _⟩ ⟨h1, h2⟩
  repeat' (intro hzz; (try (rename Two => hq; cases hq)); (try dsimp only at hzz); (try simp only [resTy, argTy, eqD, inR, big, wantOf, Bool.not_true, Bool.not_false, Bool.true_eq, decide_eq_true_eq, decide_eq_false_iff_not, Bool.not_eq_true', Bool.not_eq_false', Bool.and_eq_true, Prod.mk.injEq, and_true, true_and, Int.not_lt, Int.not_le, gt_iff_lt, ge_iff_le] at hzz); (try (revert hzz; intro _)))
  all_goals try (rename Unit => hq; clear hq)
  all_goals try ((with_reducible refine Held.mk ?_); (with_reducible (first | refine Frz.mk ?_ | refine And.intro (Frz.mk ?_) ?_ | refine And.intro ?_ (Frz.mk ?_))); repeat' first | exact True.intro | (change _ = _; with_reducible rfl) | refine And.intro ?_ ?_ | (with_reducible refine Frz.mk ?_))
  all_goals try (refine Held.mk ?_; (try dsimp only at *); (try simp only [resTy, argTy, eqD, inR, big, wantOf, Bool.not_true, Bool.not_false, Bool.true_eq, decide_eq_true_eq, decide_eq_false_iff_not, Bool.not_eq_true', Bool.not_eq_false', Bool.and_eq_true, Prod.mk.injEq, and_true, true_and, Int.not_lt, Int.not_le, gt_iff_lt, ge_iff_le] at *))
  all_goals (first | exact h1 | exact h2 | skip)
  all_goals (unfold fPart; simp only [*, if_true, if_false, Bool.false_eq_true])

end Go.Eng.Pu

namespace Go.Eng.Pu
open Go.Eng Go.Proofs
set_option linter.all false
set_option maxRecDepth 100000
set_option maxHeartbeats 8000000

theorem big32 {x : Nat} (hN : fN .f32 x = true) (h : M32 < fV .f32 x ∨ fV .f32 x < -M32) : fWh .f32 x = true := by
  apply big_whole hN
  have hb : ((2 * FloatKind.f32.format.binade : Nat) : Int) = 16777216 := by decide
  rw [hb]
  unfold M32 at h
  exact h

theorem pE_eq (x : Nat) : pE x = if pW x = true then (if M32 < fV .f32 x ∨ fV .f32 x < -M32 then 2 else 0) else 27 := by
  unfold pE pW
  by_cases hN : fN .f32 x = true
  · rw [if_pos hN, hN, Bool.true_and]
    by_cases hb : M32 < fV .f32 x ∨ fV .f32 x < -M32
    · rw [if_pos hb, if_pos (big32 hN hb), if_pos hb]
    · rw [if_neg hb, if_neg hb]
  · rw [if_neg hN, if_neg (by simp [hN])]

theorem fS_32_64 : fS .f64 = fS .f32 * 2 ^ 925 := by decide +kernel

/-- A float32 as a float64, or a NaN. -/
theorem wid_all {x n : Nat} (h : fok .f64 (f2f .f32 x .f64) n) : iwh n = pW x ∧ (pW x = true → (FloatKind.f64.format.order n 4715268809856909312 == some .gt) = decide (M32 < fV .f32 x) ∧ (FloatKind.f64.format.order n 13938640846711685120 == some .lt) = decide (fV .f32 x < -M32)) := by
  by_cases hN : fN .f32 x = true
  · obtain ⟨y, h1, h2, h3⟩ := wid_num hN
    rw [h1] at h
    have := fok_some h
    subst this
    have e1 : fWh .f64 n = fWh .f32 x := by
      unfold fWh fT
      rw [h3, fS_32_64, Int.mul_tdiv_mul_of_pos_left _ _ (by decide +kernel), ← Int.mul_assoc]
      have hp : (0 : Int) < 2 ^ 925 := by decide +kernel
      simp only [decide_eq_decide]
      exact ⟨fun hh => Int.eq_of_mul_eq_mul_right (by omega) hh, fun hh => by rw [hh]⟩
    have c1 : fN .f64 4715268809856909312 = true ∧ fN .f64 13938640846711685120 = true ∧ fV .f64 4715268809856909312 = M32 * 2 ^ 925 ∧ fV .f64 13938640846711685120 = -M32 * 2 ^ 925 := by decide +kernel
    refine ⟨by unfold iwh pW; rw [h2, hN, e1], fun _ => ⟨?_, ?_⟩⟩
    · rw [cmp_gt h2 c1.1, c1.2.2.1, h3]
      have hp : (0 : Int) < 2 ^ 925 := by decide +kernel
      simp only [decide_eq_decide]
      exact ⟨fun hh => Int.lt_of_mul_lt_mul_right hh (by omega), fun hh => Int.mul_lt_mul_of_pos_right hh hp⟩
    · rw [cmp_lt h2 c1.2.1, c1.2.2.2, h3]
      have hp : (0 : Int) < 2 ^ 925 := by decide +kernel
      simp only [decide_eq_decide]
      exact ⟨fun hh => Int.lt_of_mul_lt_mul_right hh (by omega), fun hh => Int.mul_lt_mul_of_pos_right hh hp⟩
  · have hp : pW x = false := by unfold pW; simp [hN]
    refine ⟨?_, fun hh => by rw [hp] at hh; cases hh⟩
    rw [hp]
    have hn : fN .f64 n = false := by
      rcases not_num hN with ⟨s, e⟩ | ⟨s, f, e⟩
      · obtain ⟨y, h1, h2⟩ := wid_inf e
        rw [h1] at h
        have := fok_some h
        subst this
        unfold fN; rw [h2]; rfl
      · rw [wid_nan e] at h
        rcases h with h | ⟨_, h⟩
        · cases h
        · obtain ⟨s', f', e'⟩ := read_nan h
          unfold fN; rw [e']; rfl
    unfold iwh; rw [hn]; rfl

theorem wid_side (x : Nat) : (FloatKind.f32.decode x).isNaN = true ∨ (f2f .f32 x .f64).isSome = true := by
  by_cases hN : fN .f32 x = true
  · obtain ⟨y, h1, _⟩ := wid_num hN
    exact .inr (by rw [h1]; rfl)
  · rcases not_num hN with ⟨s, e⟩ | ⟨s, f, e⟩
    · obtain ⟨y, h1, _⟩ := wid_inf e
      exact .inr (by rw [h1]; rfl)
    · left
      show (FloatKind.f32.format.read x).isNaN = true
      rw [e]; rfl

/-! ### Lists -/

abbrev CL := List (Nat × Nat)
abbrev IP := Int × Int × Unit
/-- The error of a number, and of a list. -/
def eE (z : Nat × Nat) : Int := if pE z.1 = 27 ∨ pE z.2 = 27 then 27 else if pE z.1 ≠ 0 ∨ pE z.2 ≠ 0 then 2 else 0
def lF : CL → Int
  | [] => 0
  | z :: r => if eE z = 0 then lF r else eE z
def lE (xs : CL) : Int := if xs.length = 0 then 10 else if 1024 < xs.length then 8 else lF xs
def prT (z : Nat × Nat) : IP := (fT .f32 z.1, fT .f32 z.2, ())
def lP (xs : CL) : List IP := if lE xs = 0 then tab (fun i => prT (xs.getD i (0, 0))) xs.length else []

theorem drop_getC {α : Type} {xs : List α} {i : Nat} {d : α} (h : i < xs.length) : xs.drop i = xs.getD i d :: xs.drop (i + 1) := by
  rw [List.drop_eq_getElem_cons h]
  simp [List.getD, List.getElem?_eq_getElem h]

theorem lF_step {xs : CL} {i : Nat} (h : i < xs.length) : lF (xs.drop i) = if eE (xs.getD i (0, 0)) = 0 then lF (xs.drop (i + 1)) else eE (xs.getD i (0, 0)) := by
  rw [drop_getC (d := (0, 0)) h]; rfl

theorem getD_c (xs : CL) (i : Nat) : List.getD xs ((i : Int)).toNat (Ty.dflt C64) = xs.getD i (0, 0) := rfl

theorem eE_of {z : Nat × Nat} {n1 n2 : Nat} (f1 : fok .f64 (f2f .f32 z.1 .f64) n1) (f2 : fok .f64 (f2f .f32 z.2 .f64) n2) :
    eE z = if iwh n1 = true ∧ iwh n2 = true then (if (FloatKind.f64.format.order n1 4715268809856909312 == some .gt) = true ∨ (FloatKind.f64.format.order n1 13938640846711685120 == some .lt) = true ∨ (FloatKind.f64.format.order n2 4715268809856909312 == some .gt) = true ∨ (FloatKind.f64.format.order n2 13938640846711685120 == some .lt) = true then 2 else 0) else 27 := by
  obtain ⟨a1, a2⟩ := wid_all f1
  obtain ⟨b1, b2⟩ := wid_all f2
  unfold eE
  rw [pE_eq, pE_eq, a1, b1]
  by_cases h1 : pW z.1 = true
  · by_cases h2 : pW z.2 = true
    · obtain ⟨a3, a4⟩ := a2 h1
      obtain ⟨b3, b4⟩ := b2 h2
      rw [a3, a4, b3, b4]
      simp only [h1, h2, if_true, and_self, decide_eq_true_eq]
      by_cases A : M32 < fV .f32 z.1 <;> by_cases B : fV .f32 z.1 < -M32 <;> by_cases C : M32 < fV .f32 z.2 <;> by_cases D : fV .f32 z.2 < -M32 <;> simp [A, B, C, D]
    · rw [if_neg h2]; simp [h2]
  · rw [if_neg h1]; simp [h1]

theorem lE_err {xs : CL} {k : Nat} {e : Int} (h0 : ¬ (xs.length : Int) = 0) (h1 : (xs.length : Int) ≤ 1024) (hk : k ≤ xs.length ∧ lF (xs.drop k) = lF xs) (hlt : (k : Int) < xs.length) (he : eE (xs.getD k (0, 0)) = e) (hne : e ≠ 0) : e = lE xs := by
  unfold lE
  rw [if_neg (by omega), if_neg (by omega), ← hk.2, lF_step (by omega), he, if_neg hne]

theorem lE_next {xs : CL} {k : Nat} (hk : k ≤ xs.length ∧ lF (xs.drop k) = lF xs) (hlt : (k : Int) < xs.length) (he : eE (xs.getD k (0, 0)) = 0) : k + 1 ≤ xs.length ∧ lF (xs.drop (k + 1)) = lF xs := by
  refine ⟨by omega, ?_⟩
  have := hk.2
  rwa [lF_step (by omega), if_pos he] at this

theorem lE_end {xs : CL} {k : Nat} (h0 : ¬ (xs.length : Int) = 0) (h1 : (xs.length : Int) ≤ 1024) (hk : k ≤ xs.length ∧ lF (xs.drop k) = lF xs) (hge : (xs.length : Int) ≤ k) : 0 = lE xs := by
  unfold lE
  rw [if_neg (by omega), if_neg (by omega), ← hk.2, List.drop_eq_nil_of_le (by omega)]; rfl

@[reducible] def sListE : Spec := { pats := [.dat (.sl C64)], res := [{ t := I64 }], pre := fun _ => True, f := fun x => (lE x.1, ()) }

end Go.Eng.Pu

namespace Go.Eng.Pu
open Go.Eng Go.Proofs
set_option linter.all false
set_option maxRecDepth 100000
set_option maxHeartbeats 8000000

abbrev rOwn (t k el : Nat) (e : Ty) (xs : List e.Den) : St := [.slot t (.one (.o k xs.length)), .row k el e xs]

theorem eE_zero {z : Nat × Nat} (h : eE z = 0) : pE z.1 = 0 ∧ pE z.2 = 0 := by
  unfold eE at h
  split at h
  · cases h
  · split at h
    · cases h
    · rename_i h2; omega

theorem pE_zero {x : Nat} (h : pE x = 0) : fN .f32 x = true ∧ fWh .f32 x = true ∧ -16777216 ≤ fT .f32 x ∧ fT .f32 x ≤ 16777216 ∧ floatToIntVal .f32 x .i64 = some (fT .f32 x) := by
  unfold pE at h
  split at h
  · rename_i hN
    split at h
    · cases h
    · rename_i hb
      split at h
      · rename_i hw
        have ht := fT_small (x := x) (fun hh => hb (.inl hh)) (fun hh => hb (.inr hh))
        exact ⟨hN, hw, ht.1, ht.2, f2i_fT hN (by omega) (by omega)⟩
      · cases h
  · cases h

theorem lE_ok {xs : CL} (h : lE xs = 0) : 1 ≤ xs.length ∧ xs.length ≤ 1024 ∧ ∀ i, i < xs.length → eE (xs.getD i (0, 0)) = 0 := by
  unfold lE at h
  split at h
  · cases h
  · split at h
    · cases h
    · refine ⟨by omega, by omega, ?_⟩
      have key : ∀ k, k ≤ xs.length → lF (xs.drop k) = 0 ∧ ∀ i, i < k → eE (xs.getD i (0, 0)) = 0 := by
        intro k
        induction k with
        | zero => intro _; exact ⟨h, fun i hi => by omega⟩
        | succ k ih =>
          intro hk
          obtain ⟨a, b⟩ := ih (by omega)
          rw [lF_step (by omega)] at a
          have c : eE (xs.getD k (0, 0)) = 0 := by
            by_cases hc : eE (xs.getD k (0, 0)) = 0
            · exact hc
            · rw [if_neg hc] at a; exact a
          rw [if_pos c] at a
          refine ⟨a, fun i hi => ?_⟩
          by_cases he : i = k
          · rw [he]; exact c
          · exact b i (by omega)
      exact (key xs.length (Nat.le_refl _)).2

theorem eE_a {z : Nat × Nat} (h : pE z.1 = 27 ∨ pE z.2 = 27) : eE z = 27 := if_pos h
theorem eE_b {z : Nat × Nat} (h1 : ¬ pE z.1 = 27) (h2 : ¬ pE z.2 = 27) (h : ¬ pE z.1 = 0 ∨ ¬ pE z.2 = 0) : eE z = 2 := by
  unfold eE; rw [if_neg (fun hh => hh.elim h1 h2), if_pos h]
theorem eE_c {z : Nat × Nat} (h1 : pE z.1 = 0) (h2 : pE z.2 = 0) : eE z = 0 := by
  unfold eE; rw [h1, h2]; rfl

def prF (xs : CL) (i : Nat) : IP := prT (xs.getD i (0, 0))

theorem lP_err {xs : CL} {e : Int} (h : e = lE xs) (hne : e ≠ 0) : [] = lP xs ∧ e = lE xs := by
  refine ⟨?_, h⟩
  unfold lP
  rw [if_neg (by rw [← h]; exact hne)]

theorem lP_len {xs : CL} (h : lE xs = 0) : (lP xs).length = xs.length := by
  unfold lP
  rw [if_pos h]; exact tab_len _ _

@[reducible] def sRecd : Spec := { pats := [.dat (.sl C64)], res := [{ own := some 69, t := .sl PairT }, { t := I64 }], pre := fun _ => True, f := fun x => (lP x.1, lE x.1, ()) }

/-- recorded -/
theorem h91n : Ok 43 sRecd := by
  refine mkN (X := x0) (hX := x0_ok) (ctr := [(64, sPartE)]) ⟨h147n, trivial⟩ (nt := 55) Tryd.func43 rfl rfl rfl rfl (by kernel_rfl) (by kernel_rfl) (fun x => [fun _ => { σ := Nat, pat := fun k => [sI 19 k] ++ rOwn 4 60004 69 PairT (tab (prF x.1) k), inv := fun k => k ≤ List.length (α := Nat × Nat) x.1 ∧ lF (List.drop (α := Nat × Nat) k x.1) = lF x.1, meas := fun k => List.length (α := Nat × Nat) x.1 - k }]) ?_
  rintro ⟨(xs : CL), _⟩ _
  repeat' (intro hzz; (try (rename Two => hq; cases hq)); (try dsimp only at hzz); (try simp only [resTy, argTy, eqD, inR, big, wantOf, Bool.not_true, Bool.not_false, Bool.true_eq, decide_eq_true_eq, decide_eq_false_iff_not, Bool.not_eq_true', Bool.not_eq_false', Bool.and_eq_true, Prod.mk.injEq, and_true, true_and, Int.not_lt, Int.not_le, gt_iff_lt, ge_iff_le] at hzz); (try simp only [resTy, argTy, eqD, inR, big, wantOf, Bool.not_true, Bool.not_false, Bool.true_eq, decide_eq_true_eq, decide_eq_false_iff_not, Bool.not_eq_true', Bool.not_eq_false', Bool.and_eq_true, Prod.mk.injEq, and_true, true_and, Int.not_lt, Int.not_le, gt_iff_lt, ge_iff_le, getD_c] at hzz); (try (first | contradiction | (exfalso; omega))); (try (revert hzz; intro _)))
  all_goals try (rename Unit => hq; clear hq)
  all_goals try ((with_reducible refine Held.mk ?_); (with_reducible (first | refine Frz.mk ?_ | refine And.intro (Frz.mk ?_) ?_ | refine And.intro ?_ (Frz.mk ?_))); repeat' first | exact True.intro | (change _ = _; with_reducible rfl) | refine And.intro ?_ ?_ | (with_reducible refine Frz.mk ?_))
  all_goals try (refine Held.mk ?_; (try dsimp only at *); (try simp only [resTy, argTy, eqD, inR, big, wantOf, Bool.not_true, Bool.not_false, Bool.true_eq, decide_eq_true_eq, decide_eq_false_iff_not, Bool.not_eq_true', Bool.not_eq_false', Bool.and_eq_true, Prod.mk.injEq, and_true, true_and, Int.not_lt, Int.not_le, gt_iff_lt, ge_iff_le] at *); (try simp only [resTy, argTy, eqD, inR, big, wantOf, Bool.not_true, Bool.not_false, Bool.true_eq, decide_eq_true_eq, decide_eq_false_iff_not, Bool.not_eq_true', Bool.not_eq_false', Bool.and_eq_true, Prod.mk.injEq, and_true, true_and, Int.not_lt, Int.not_le, gt_iff_lt, ge_iff_le, getD_c] at *))
  all_goals try omega
  · rename_i h
    exact lP_err (by unfold lE; rw [if_pos (by omega)]) (by decide)
  · rename_i h0 h
    exact lP_err (by unfold lE; rw [if_neg (by omega), if_pos (by omega)]) (by decide)
  · 
    refine GHeld.mk ?_
    refine Exists.intro 0 ?_
    refine And.intro (Leaf.mk ?_) ?_
    · repeat' first | exact True.intro | refine And.intro ?_ ?_
      all_goals try ((change _ = _ <;> try dsimp only) <;> try with_reducible rfl)
      all_goals try omega
      all_goals (rfl)
    exact ⟨Nat.zero_le _, rfl⟩
  · rename_i h0 h1 k hk hlt q1 q2
    exact lP_err (lE_err h0 h1 hk hlt (eE_a (.inr q2)) (by decide)) (by decide)
  · rename_i h0 h1 k hk hlt q1 q2 q3 q4
    exact lP_err (lE_err h0 h1 hk hlt (eE_b q1 q2 (.inr q4)) (by decide)) (by decide)
  · rename_i h0 h1 k hk hlt q1 q2 q3 q4
    rw [(pE_zero q3).2.2.2.2]; rfl
  · rename_i h0 h1 k hk hlt q1 q2 q3 q4
    rw [(pE_zero q4).2.2.2.2]; rfl
  · rename_i h0 h1 k hk hlt q1 q2 q3 q4
    rw [tab_len]; show k + 1 ≤ 2147483648; omega
  · rename_i h0 h1 k hk hlt q1 q2 q3 q4
    have hn := lE_next hk hlt (eE_c q3 q4)
    have e : tab (prF xs) k ++ [((floatToIntVal .f32 (xs.getD k (0, 0)).1 .i64).getD 0, (floatToIntVal .f32 (xs.getD k (0, 0)).2 .i64).getD 0, ())] = tab (prF xs) (k + 1) := by
      rw [(pE_zero q3).2.2.2.2, (pE_zero q4).2.2.2.2]; rfl
    refine GHeld.mk ?_
    refine Exists.intro (k + 1) ?_
    refine And.intro (Leaf.mk ?_) ?_
    · repeat' first | exact True.intro | refine And.intro ?_ ?_
      all_goals try ((change _ = _ <;> try dsimp only) <;> try with_reducible rfl)
      all_goals try omega
      all_goals (first | exact e | exact congrArg List.length e)
    exact ⟨hn, by show xs.length - (k + 1) < xs.length - k; omega⟩
  · rename_i h0 h1 k hk hlt q1 q2 q3
    exact lP_err (lE_err h0 h1 hk hlt (eE_b q1 q2 (.inl q3)) (by decide)) (by decide)
  · rename_i h0 h1 k hk hlt q1
    exact lP_err (lE_err h0 h1 hk hlt (eE_a (.inl q1)) (by decide)) (by decide)
  · rename_i h0 h1 k hk hge
    have h := lE_end h0 h1 hk hge
    refine ⟨?_, h⟩
    unfold lP
    rw [if_pos h.symm, show k = xs.length by omega]; rfl

def lsF (l : List (Nat × Nat × Unit)) (i : Nat) : Nat × Nat := ((l.getD i (0, 0, ())).1, (l.getD i (0, 0, ())).2.1)
/-- Raw parts as complex numbers. -/
def lsL (l : List (Nat × Nat × Unit)) : CL := tab (lsF l) l.length

@[reducible] def sListW : Spec := { pats := [.dat (.sl RawT)], res := [{ own := some 48, t := .sl C64 }], pre := fun x => List.length (α := Nat × Nat × Unit) x.1 ≤ 1000000000, f := fun x => (lsL x.1, ()) }

/-- List -/
theorem h30n : Ok 24 sListW := by
  refine mkN (X := x0) (hX := x0_ok) (ctr := []) trivial (nt := 26) Tryd.func24 rfl rfl rfl rfl (by kernel_rfl) (by kernel_rfl) (fun x => [fun _ => { σ := Nat, pat := fun k => [sI 4 k] ++ rOwn 3 60003 48 C64 (tab (lsF x.1) k), inv := fun k => k ≤ List.length (α := Nat × Nat × Unit) x.1, meas := fun k => List.length (α := Nat × Nat × Unit) x.1 - k }]) ?_
  rintro ⟨(l : List (Nat × Nat × Unit)), _⟩ (hl : l.length ≤ 1000000000)
  repeat' (intro hzz; (try (rename Two => hq; cases hq)); (try dsimp only at hzz); (try simp only [resTy, argTy, eqD, inR, big, wantOf, Bool.not_true, Bool.not_false, Bool.true_eq, decide_eq_true_eq, decide_eq_false_iff_not, Bool.not_eq_true', Bool.not_eq_false', Bool.and_eq_true, Prod.mk.injEq, and_true, true_and, Int.not_lt, Int.not_le, gt_iff_lt, ge_iff_le] at hzz); (try (first | contradiction | (exfalso; omega))); (try (revert hzz; intro _)))
  all_goals try (rename Unit => hq; clear hq)
  all_goals try ((with_reducible refine Held.mk ?_); (with_reducible (first | refine Frz.mk ?_ | refine And.intro (Frz.mk ?_) ?_ | refine And.intro ?_ (Frz.mk ?_))); repeat' first | exact True.intro | (change _ = _; with_reducible rfl) | refine And.intro ?_ ?_ | (with_reducible refine Frz.mk ?_))
  all_goals try (refine Held.mk ?_; (try dsimp only at *); (try simp only [resTy, argTy, eqD, inR, big, wantOf, Bool.not_true, Bool.not_false, Bool.true_eq, decide_eq_true_eq, decide_eq_false_iff_not, Bool.not_eq_true', Bool.not_eq_false', Bool.and_eq_true, Prod.mk.injEq, and_true, true_and, Int.not_lt, Int.not_le, gt_iff_lt, ge_iff_le] at *))
  all_goals try omega
  · 
    refine GHeld.mk ?_
    refine Exists.intro 0 ?_
    refine And.intro (Leaf.mk ?_) ?_
    · repeat' first | exact True.intro | refine And.intro ?_ ?_
      all_goals try ((change _ = _ <;> try dsimp only) <;> try with_reducible rfl)
      all_goals try omega
      all_goals (rfl)
    exact Nat.zero_le _
  · rename_i k hk hlt
    rw [tab_len]; show k + 1 ≤ 2147483648; omega
  · rename_i k hk hlt
    refine GHeld.mk ?_
    refine Exists.intro (k + 1) ?_
    refine And.intro (Leaf.mk ?_) ?_
    · repeat' first | exact True.intro | refine And.intro ?_ ?_
      all_goals try ((change _ = _ <;> try dsimp only) <;> try with_reducible rfl)
      all_goals try omega
      all_goals (rfl)
    exact ⟨by show k + 1 ≤ l.length; omega, by show l.length - (k + 1) < l.length - k; omega⟩
  · rename_i k hk hge
    rw [show k = l.length by omega]; rfl

@[reducible] def sSize : Spec := { pats := [.dat I64], res := [{ t := I64 }], pre := fun x => okI x.1, f := fun x => (((show Int from x.1).natAbs : Int), ()) }

/-- base.Size -/
theorem h141 : Ok 78 sSize := by
  refine mk (ctr := []) trivial (nt := 7) Tryd.func78 rfl rfl rfl rfl (by kernel_rfl) (by kernel_rfl) (fun _ => []) ?_
  rintro ⟨(n : Int), _⟩ (h : okI n)
  repeat' (intro hzz; (try (rename Two => hq; cases hq)); (try dsimp only at hzz); (try simp only [resTy, argTy, eqD, inR, big, wantOf, Bool.not_true, Bool.not_false, Bool.true_eq, decide_eq_true_eq, decide_eq_false_iff_not, Bool.not_eq_true', Bool.not_eq_false', Bool.and_eq_true, Prod.mk.injEq, and_true, true_and, Int.not_lt, Int.not_le, gt_iff_lt, ge_iff_le] at hzz); (try simp only [resTy, argTy, eqD, inR, big, wantOf, Bool.not_true, Bool.not_false, Bool.true_eq, decide_eq_true_eq, decide_eq_false_iff_not, Bool.not_eq_true', Bool.not_eq_false', Bool.and_eq_true, Prod.mk.injEq, and_true, true_and, Int.not_lt, Int.not_le, gt_iff_lt, ge_iff_le, okI] at hzz); (try (revert hzz; intro _)))
  all_goals try (rename Unit => hq; clear hq)
  all_goals try ((with_reducible refine Held.mk ?_); (with_reducible (first | refine Frz.mk ?_ | refine And.intro (Frz.mk ?_) ?_ | refine And.intro ?_ (Frz.mk ?_))); repeat' first | exact True.intro | (change _ = _; with_reducible rfl) | refine And.intro ?_ ?_ | (with_reducible refine Frz.mk ?_))
  all_goals try (refine Held.mk ?_; (try dsimp only at *); (try simp only [resTy, argTy, eqD, inR, big, wantOf, Bool.not_true, Bool.not_false, Bool.true_eq, decide_eq_true_eq, decide_eq_false_iff_not, Bool.not_eq_true', Bool.not_eq_false', Bool.and_eq_true, Prod.mk.injEq, and_true, true_and, Int.not_lt, Int.not_le, gt_iff_lt, ge_iff_le] at *); (try simp only [resTy, argTy, eqD, inR, big, wantOf, Bool.not_true, Bool.not_false, Bool.true_eq, decide_eq_true_eq, decide_eq_false_iff_not, Bool.not_eq_true', Bool.not_eq_false', Bool.and_eq_true, Prod.mk.injEq, and_true, true_and, Int.not_lt, Int.not_le, gt_iff_lt, ge_iff_le, okI] at *))
  all_goals try omega
  simp only [cond_true]
  split <;> omega

/-! ### Back to complex numbers -/

def fits (p : IP) : Bool := fRec p.1 && fRec p.2.1
def nmF (ps : List IP) (i : Nat) : Nat × Nat := (floatOfInt .f32 (ps.getD i (0, 0, ())).1, floatOfInt .f32 (ps.getD i (0, 0, ())).2.1)
def allFit (ps : List IP) : Bool := ps.all fits
def tE (ps : List IP) : Int := if allFit ps = true then 0 else 8
def tL (ps : List IP) : CL := if allFit ps = true then tab (nmF ps) ps.length else []

theorem fit_no {ps : List IP} {k : Nat} (hk : k < ps.length) (h : fits (ps.getD k (0, 0, ())) = false) : allFit ps = false := by
  unfold allFit
  rw [List.all_eq_false]
  exact ⟨ps.getD k (0, 0, ()), by simp only [List.getD, List.getElem?_eq_getElem hk, Option.getD_some]; exact List.getElem_mem hk, by rw [h]; exact Bool.false_ne_true⟩

theorem fit_all {ps : List IP} (h : ∀ j, j < ps.length → fits (ps.getD j (0, 0, ())) = true) : allFit ps = true := by
  unfold allFit
  rw [List.all_eq_true]
  intro p hp
  obtain ⟨j, hj, rfl⟩ := List.mem_iff_getElem.1 hp
  have := h j hj
  simpa only [List.getD, List.getElem?_eq_getElem hj, Option.getD_some] using this

theorem t_no {ps : List IP} (h : allFit ps = false) : [] = tL ps ∧ 8 = tE ps := by
  unfold tL tE; rw [h]; exact ⟨rfl, rfl⟩
theorem t_yes {ps : List IP} (h : allFit ps = true) : tab (nmF ps) ps.length = tL ps ∧ 0 = tE ps := by
  unfold tL tE; rw [h]; exact ⟨rfl, rfl⟩

theorem getD_p (ps : List IP) (i : Nat) : List.getD ps ((i : Int)).toNat (Ty.dflt PairT) = ps.getD i (0, 0, ()) := rfl

@[reducible] def sTold : Spec := { pats := [.dat (.sl PairT)], res := [{ own := some 48, t := .sl C64 }, { t := I64 }], pre := fun x => List.length (α := IP) x.1 ≤ 2000000000, f := fun x => (tL x.1, tE x.1, ()) }

/-- told -/
theorem h93n : Ok 30 sTold := by
  refine mkN (X := x0) (hX := x0_ok) (ctr := [(42, sFits), (58, sNumber)]) ⟨h137, h148, trivial⟩ (nt := 23) Tryd.func30 rfl rfl rfl rfl (by kernel_rfl) (by kernel_rfl) (fun x => [fun _ => { σ := Nat, pat := fun k => [sI 9 k] ++ rOwn 4 60004 48 C64 (tab (nmF x.1) k), inv := fun k => k ≤ List.length (α := IP) x.1 ∧ ∀ j, j < k → fits (List.getD (α := IP) x.1 j (0, 0, ())) = true, meas := fun k => List.length (α := IP) x.1 - k }]) ?_
  rintro ⟨(ps : List IP), _⟩ (hl : ps.length ≤ 2000000000)
  repeat' (intro hzz; (try (rename Two => hq; cases hq)); (try dsimp only at hzz); (try simp only [resTy, argTy, eqD, inR, big, wantOf, Bool.not_true, Bool.not_false, Bool.true_eq, decide_eq_true_eq, decide_eq_false_iff_not, Bool.not_eq_true', Bool.not_eq_false', Bool.and_eq_true, Prod.mk.injEq, and_true, true_and, Int.not_lt, Int.not_le, gt_iff_lt, ge_iff_le] at hzz); (try simp only [resTy, argTy, eqD, inR, big, wantOf, Bool.not_true, Bool.not_false, Bool.true_eq, decide_eq_true_eq, decide_eq_false_iff_not, Bool.not_eq_true', Bool.not_eq_false', Bool.and_eq_true, Prod.mk.injEq, and_true, true_and, Int.not_lt, Int.not_le, gt_iff_lt, ge_iff_le, getD_p] at hzz); (try (first | contradiction | (exfalso; omega))); (try (revert hzz; intro _)))
  all_goals try (rename Unit => hq; clear hq)
  all_goals try ((with_reducible refine Held.mk ?_); (with_reducible (first | refine Frz.mk ?_ | refine And.intro (Frz.mk ?_) ?_ | refine And.intro ?_ (Frz.mk ?_))); repeat' first | exact True.intro | (change _ = _; with_reducible rfl) | refine And.intro ?_ ?_ | (with_reducible refine Frz.mk ?_))
  all_goals try (refine Held.mk ?_; (try dsimp only at *); (try simp only [resTy, argTy, eqD, inR, big, wantOf, Bool.not_true, Bool.not_false, Bool.true_eq, decide_eq_true_eq, decide_eq_false_iff_not, Bool.not_eq_true', Bool.not_eq_false', Bool.and_eq_true, Prod.mk.injEq, and_true, true_and, Int.not_lt, Int.not_le, gt_iff_lt, ge_iff_le] at *); (try simp only [resTy, argTy, eqD, inR, big, wantOf, Bool.not_true, Bool.not_false, Bool.true_eq, decide_eq_true_eq, decide_eq_false_iff_not, Bool.not_eq_true', Bool.not_eq_false', Bool.and_eq_true, Prod.mk.injEq, and_true, true_and, Int.not_lt, Int.not_le, gt_iff_lt, ge_iff_le, getD_p] at *))
  all_goals try omega
  · 
    refine GHeld.mk ?_
    refine Exists.intro 0 ?_
    refine And.intro (Leaf.mk ?_) ?_
    · repeat' first | exact True.intro | refine And.intro ?_ ?_
      all_goals try ((change _ = _ <;> try dsimp only) <;> try with_reducible rfl)
      all_goals try omega
      all_goals (rfl)
    exact ⟨Nat.zero_le _, fun j hj => by omega⟩
  · rename_i k hk hlt h
    exact t_no (fit_no (by omega) h)
  · rename_i k hk hlt h
    rw [tab_len]; show k + 1 ≤ 2147483648; omega
  · rename_i k hk hlt h
    refine GHeld.mk ?_
    refine Exists.intro (k + 1) ?_
    refine And.intro (Leaf.mk ?_) ?_
    · repeat' first | exact True.intro | refine And.intro ?_ ?_
      all_goals try ((change _ = _ <;> try dsimp only) <;> try with_reducible rfl)
      all_goals try omega
      all_goals (rfl)
    refine ⟨⟨by show k + 1 ≤ ps.length; omega, fun j hj => ?_⟩, by show ps.length - (k + 1) < ps.length - k; omega⟩
    by_cases he : j = k
    · rw [he]
      show (fRec _ && fRec _) = true
      simp only [Bool.and_eq_true, decide_eq_true_eq]
      exact h
    · exact hk.2 j (by omega)
  · rename_i k hk hge
    have := t_yes (fit_all fun j hj => hk.2 j (by omega))
    rwa [show k = ps.length by omega]

/-- All numbers of a list are small. -/
def okL (B : Int) (ps : List IP) : Prop := ∀ i : Nat, (-B ≤ (ps.getD i (0, 0, ())).1 ∧ (ps.getD i (0, 0, ())).1 ≤ B) ∧ (-B ≤ (ps.getD i (0, 0, ())).2.1 ∧ (ps.getD i (0, 0, ())).2.1 ≤ B)

theorem fit_size {p : IP} : fits p = (decide ((p.1.natAbs : Int) ≤ 16777216) && decide ((p.2.1.natAbs : Int) ≤ 16777216)) := by
  unfold fits
  show (decide (-16777216 ≤ p.1 ∧ p.1 ≤ 16777216) && decide (-16777216 ≤ p.2.1 ∧ p.2.1 ≤ 16777216)) = _
  congr 1 <;> rw [decide_eq_decide] <;> omega

@[reducible] def sNums : Spec := { pats := [.dat (.sl PairT)], res := [{ own := some 48, t := .sl C64 }, { t := .bool }], pre := fun x => List.length (α := IP) x.1 ≤ 2000000000 ∧ okL 4000000000000000000 x.1, f := fun x => (tL x.1, allFit x.1, ()) }

/-- ref.numbers -/
theorem h150n : Ok 59 sNums := by
  refine mkN (X := x0) (hX := x0_ok) (ctr := [(78, sSize)]) ⟨h141, trivial⟩ (nt := 45) Tryd.func59 rfl rfl rfl rfl (by kernel_rfl) (by kernel_rfl) (fun x => [fun _ => { σ := Nat, pat := fun k => [sI 5 k] ++ rOwn 4 60004 48 C64 (tab (nmF x.1) k), inv := fun k => k ≤ List.length (α := IP) x.1 ∧ ∀ j, j < k → fits (List.getD (α := IP) x.1 j (0, 0, ())) = true, meas := fun k => List.length (α := IP) x.1 - k }]) ?_
  rintro ⟨(ps : List IP), _⟩ ⟨(hl : ps.length ≤ 2000000000), (hp : okL 4000000000000000000 ps)⟩
  repeat' (intro hzz; (try (rename Two => hq; cases hq)); (try dsimp only at hzz); (try simp only [resTy, argTy, eqD, inR, big, wantOf, Bool.not_true, Bool.not_false, Bool.true_eq, decide_eq_true_eq, decide_eq_false_iff_not, Bool.not_eq_true', Bool.not_eq_false', Bool.and_eq_true, Prod.mk.injEq, and_true, true_and, Int.not_lt, Int.not_le, gt_iff_lt, ge_iff_le] at hzz); (try simp only [resTy, argTy, eqD, inR, big, wantOf, Bool.not_true, Bool.not_false, Bool.true_eq, decide_eq_true_eq, decide_eq_false_iff_not, Bool.not_eq_true', Bool.not_eq_false', Bool.and_eq_true, Prod.mk.injEq, and_true, true_and, Int.not_lt, Int.not_le, gt_iff_lt, ge_iff_le, getD_p] at hzz); (try (first | contradiction | (exfalso; omega))); (try (revert hzz; intro _)))
  all_goals try (rename Unit => hq; clear hq)
  all_goals try ((with_reducible refine Held.mk ?_); (with_reducible (first | refine Frz.mk ?_ | refine And.intro (Frz.mk ?_) ?_ | refine And.intro ?_ (Frz.mk ?_))); repeat' first | exact True.intro | (change _ = _; with_reducible rfl) | refine And.intro ?_ ?_ | (with_reducible refine Frz.mk ?_))
  all_goals try (refine Held.mk ?_; (try dsimp only at *); (try simp only [resTy, argTy, eqD, inR, big, wantOf, Bool.not_true, Bool.not_false, Bool.true_eq, decide_eq_true_eq, decide_eq_false_iff_not, Bool.not_eq_true', Bool.not_eq_false', Bool.and_eq_true, Prod.mk.injEq, and_true, true_and, Int.not_lt, Int.not_le, gt_iff_lt, ge_iff_le] at *); (try simp only [resTy, argTy, eqD, inR, big, wantOf, Bool.not_true, Bool.not_false, Bool.true_eq, decide_eq_true_eq, decide_eq_false_iff_not, Bool.not_eq_true', Bool.not_eq_false', Bool.and_eq_true, Prod.mk.injEq, and_true, true_and, Int.not_lt, Int.not_le, gt_iff_lt, ge_iff_le, getD_p] at *))
  all_goals try omega
  · 
    refine GHeld.mk ?_
    refine Exists.intro 0 ?_
    refine And.intro (Leaf.mk ?_) ?_
    · repeat' first | exact True.intro | refine And.intro ?_ ?_
      all_goals try ((change _ = _ <;> try dsimp only) <;> try with_reducible rfl)
      all_goals try omega
      all_goals (rfl)
    exact ⟨Nat.zero_le _, fun j hj => by omega⟩
  · exact (hp _).1
  · exact (hp _).2
  · rename_i k hk hlt h1 h2
    have hf := fit_no (ps := ps) (k := k) (by omega) (by rw [fit_size, decide_eq_false (p := ((ps.getD k (0, 0, ())).2.1.natAbs : Int) ≤ 16777216) (by omega), Bool.and_false])
    exact ⟨(t_no hf).1, hf.symm⟩
  · rename_i k hk hlt h1 h2
    rw [tab_len]; show k + 1 ≤ 2147483648; omega
  · rename_i k hk hlt h1 h2
    refine GHeld.mk ?_
    refine Exists.intro (k + 1) ?_
    refine And.intro (Leaf.mk ?_) ?_
    · repeat' first | exact True.intro | refine And.intro ?_ ?_
      all_goals try ((change _ = _ <;> try dsimp only) <;> try with_reducible rfl)
      all_goals try omega
      all_goals (rfl)
    refine ⟨⟨by show k + 1 ≤ ps.length; omega, fun j hj => ?_⟩, by show ps.length - (k + 1) < ps.length - k; omega⟩
    by_cases he : j = k
    · rw [he, fit_size, decide_eq_true h1, decide_eq_true h2]; rfl
    · exact hk.2 j (by omega)
  · rename_i k hk hlt h1
    have hf := fit_no (ps := ps) (k := k) (by omega) (by rw [fit_size, decide_eq_false (p := ((ps.getD k (0, 0, ())).1.natAbs : Int) ≤ 16777216) (by omega), Bool.false_and])
    exact ⟨(t_no hf).1, hf.symm⟩
  · rename_i k hk hge
    have hf := fit_all (ps := ps) fun j hj => hk.2 j (by omega)
    exact ⟨by have := (t_yes hf).1; rwa [show k = ps.length by omega], hf⟩

@[reducible] def sToldR : Spec := { pats := [.dat (.sl PairT)], res := [{ own := some 48, t := .sl C64 }, { t := I64 }], pre := fun x => List.length (α := IP) x.1 ≤ 2000000000 ∧ okL 4000000000000000000 x.1, f := fun x => (tL x.1, tE x.1, ()) }

/-- ref.told -/
theorem h97n : Ok 32 sToldR := by
  refine mkN (X := x0) (hX := x0_ok) (ctr := [(59, sNums)]) ⟨h150n, trivial⟩ (nt := 14) Tryd.func32 rfl rfl rfl rfl (by kernel_rfl) (by kernel_rfl) (fun _ => []) ?_
  rintro ⟨(ps : List IP), _⟩ ⟨(hl : ps.length ≤ 2000000000), (hp : okL 4000000000000000000 ps)⟩
  by_cases hf : allFit ps = true
  · have u : tE ps = 0 := (t_yes hf).2.symm
    repeat' (intro hzz; (try (rename Two => hq; cases hq)); (try dsimp only at hzz); (try simp only [resTy, argTy, eqD, inR, big, wantOf, Bool.not_true, Bool.not_false, Bool.true_eq, decide_eq_true_eq, decide_eq_false_iff_not, Bool.not_eq_true', Bool.not_eq_false', Bool.and_eq_true, Prod.mk.injEq, and_true, true_and, Int.not_lt, Int.not_le, gt_iff_lt, ge_iff_le] at hzz); (try simp only [resTy, argTy, eqD, inR, big, wantOf, Bool.not_true, Bool.not_false, Bool.true_eq, decide_eq_true_eq, decide_eq_false_iff_not, Bool.not_eq_true', Bool.not_eq_false', Bool.and_eq_true, Prod.mk.injEq, and_true, true_and, Int.not_lt, Int.not_le, gt_iff_lt, ge_iff_le, hf, u] at hzz); (try (first | contradiction | (exfalso; omega))); (try (revert hzz; intro _)))
    all_goals try (rename Unit => hq; clear hq)
    all_goals try ((with_reducible refine Held.mk ?_); (with_reducible (first | refine Frz.mk ?_ | refine And.intro (Frz.mk ?_) ?_ | refine And.intro ?_ (Frz.mk ?_))); repeat' first | exact True.intro | (change _ = _; with_reducible rfl) | refine And.intro ?_ ?_ | (with_reducible refine Frz.mk ?_))
    all_goals try (refine Held.mk ?_; (try dsimp only at *); (try simp only [resTy, argTy, eqD, inR, big, wantOf, Bool.not_true, Bool.not_false, Bool.true_eq, decide_eq_true_eq, decide_eq_false_iff_not, Bool.not_eq_true', Bool.not_eq_false', Bool.and_eq_true, Prod.mk.injEq, and_true, true_and, Int.not_lt, Int.not_le, gt_iff_lt, ge_iff_le] at *); (try simp only [resTy, argTy, eqD, inR, big, wantOf, Bool.not_true, Bool.not_false, Bool.true_eq, decide_eq_true_eq, decide_eq_false_iff_not, Bool.not_eq_true', Bool.not_eq_false', Bool.and_eq_true, Prod.mk.injEq, and_true, true_and, Int.not_lt, Int.not_le, gt_iff_lt, ge_iff_le, hf, u] at *))
    all_goals try omega
    exact ⟨hl, hp⟩
  · have hf : allFit ps = false := by simpa using hf
    have u := (t_no hf).1
    have v : tE ps = 8 := (t_no hf).2.symm
    repeat' (intro hzz; (try (rename Two => hq; cases hq)); (try dsimp only at hzz); (try simp only [resTy, argTy, eqD, inR, big, wantOf, Bool.not_true, Bool.not_false, Bool.true_eq, decide_eq_true_eq, decide_eq_false_iff_not, Bool.not_eq_true', Bool.not_eq_false', Bool.and_eq_true, Prod.mk.injEq, and_true, true_and, Int.not_lt, Int.not_le, gt_iff_lt, ge_iff_le] at hzz); (try simp only [resTy, argTy, eqD, inR, big, wantOf, Bool.not_true, Bool.not_false, Bool.true_eq, decide_eq_true_eq, decide_eq_false_iff_not, Bool.not_eq_true', Bool.not_eq_false', Bool.and_eq_true, Prod.mk.injEq, and_true, true_and, Int.not_lt, Int.not_le, gt_iff_lt, ge_iff_le, hf, v] at hzz); (try (first | contradiction | (exfalso; omega))); (try (revert hzz; intro _)))
    all_goals try (rename Unit => hq; clear hq)
    all_goals try ((with_reducible refine Held.mk ?_); (with_reducible (first | refine Frz.mk ?_ | refine And.intro (Frz.mk ?_) ?_ | refine And.intro ?_ (Frz.mk ?_))); repeat' first | exact True.intro | (change _ = _; with_reducible rfl) | refine And.intro ?_ ?_ | (with_reducible refine Frz.mk ?_))
    all_goals try (refine Held.mk ?_; (try dsimp only at *); (try simp only [resTy, argTy, eqD, inR, big, wantOf, Bool.not_true, Bool.not_false, Bool.true_eq, decide_eq_true_eq, decide_eq_false_iff_not, Bool.not_eq_true', Bool.not_eq_false', Bool.and_eq_true, Prod.mk.injEq, and_true, true_and, Int.not_lt, Int.not_le, gt_iff_lt, ge_iff_le] at *); (try simp only [resTy, argTy, eqD, inR, big, wantOf, Bool.not_true, Bool.not_false, Bool.true_eq, decide_eq_true_eq, decide_eq_false_iff_not, Bool.not_eq_true', Bool.not_eq_false', Bool.and_eq_true, Prod.mk.injEq, and_true, true_and, Int.not_lt, Int.not_le, gt_iff_lt, ge_iff_le, hf, v] at *))
    all_goals try omega
    all_goals first | exact ⟨hl, hp⟩ | exact u

/-- ref.Pairs -/
@[reducible] def sPairs : Spec := { pats := [.dat (.sl C64)], res := [{ own := some 37, t := .sl PairT }], pre := fun x => lE x.1 = 0, f := fun x => (lP x.1, ()) }
end Go.Eng.Pu

namespace Go.Eng.Pu
open Go.Eng Go.Proofs
set_option linter.all false
set_option maxRecDepth 100000
set_option maxHeartbeats 8000000

/-! ### The examples of the document, walked as they are -/

@[reducible] def xF4 : Xt := { fuel := 4 }
theorem xF4_ok : Its xF4.its := True.intro
@[reducible] def xF8 : Xt := { fuel := 8 }
theorem xF8_ok : Its xF8.its := True.intro

abbrev rawA : List (Nat × Nat × Unit) := [(1082130432, 0, ()), (3212836864, 1073741824, ())]
abbrev rawB : List (Nat × Nat × Unit) := [(3225419776, 3221225472, ()), (1084227584, 3221225472, ()), (3231711232, 1073741824, ())]
abbrev cA : List (Nat × Nat) := [(1082130432, 0), (3212836864, 1073741824)]
abbrev cB : List (Nat × Nat) := [(3225419776, 3221225472), (1084227584, 3221225472), (3231711232, 1073741824)]

@[reducible] def sListC : Spec := { pats := [.dat (.sl RawT)], res := [{ t := .sl C64 }], pre := fun x => x.1 = rawA ∨ x.1 = rawB, f := fun x => ((show List (Nat × Nat × Unit) from x.1).map (fun y => (y.1, y.2.1)), ()) }

/-- List, at the examples -/
theorem h30c : Ok 24 sListC := by
  refine mkX (X := xF4) (hX := xF4_ok) (ctr := []) trivial (nt := 26) Tryd.func24 rfl rfl rfl rfl (by kernel_rfl) (by kernel_rfl) (fun _ => []) ?_
  rintro ⟨x, ⟨⟩⟩ h
  rcases h with h | h
  · have h : x = rawA := h
    subst h
    (try (rename Two => hq; cases hq))
    repeat' (intro hzz; (try (rename Two => hq; cases hq)); (try (first | exact absurd hzz (by decide) | exact absurd hzz (by decide +kernel))); (try (revert hzz; intro _)))
    all_goals (try (rename Unit => hq; clear hq))
    all_goals (with_reducible refine Held.mk ?_)
    all_goals (repeat' first | exact True.intro | (with_reducible refine Frz.mk ?_) | refine And.intro ?_ ?_ | (change _ = _; kernel_rfl) | decide | decide +kernel)
  · have h : x = rawB := h
    subst h
    (try (rename Two => hq; cases hq))
    repeat' (intro hzz; (try (rename Two => hq; cases hq)); (try (first | exact absurd hzz (by decide) | exact absurd hzz (by decide +kernel))); (try (revert hzz; intro _)))
    all_goals (try (rename Unit => hq; clear hq))
    all_goals (with_reducible refine Held.mk ?_)
    all_goals (repeat' first | exact True.intro | (with_reducible refine Frz.mk ?_) | refine And.intro ?_ ?_ | (change _ = _; kernel_rfl) | decide | decide +kernel)

end Go.Eng.Pu
