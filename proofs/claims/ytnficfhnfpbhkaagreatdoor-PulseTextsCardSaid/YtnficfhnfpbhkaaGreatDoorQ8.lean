/- Contracts: the states, the bits, the period of a start. Conditions: the register is right, the start a state. -/
import Derived.Test.YtnficfhnfpbhkaaGreatDoorQ7
namespace Go.Eng.Pu
open Go.Eng Go.Proofs
set_option linter.all false
set_option maxRecDepth 100000
set_option maxHeartbeats 8000000

abbrev StT : Ty := .clo 85 (.cons (.ptr I64) (.cons (.ptr Reg) .nil))
@[reducible] def sStates : Spec := { pats := [.dat Reg, .dat I64], res := [{ t := StT }], pre := fun _ => True, f := fun x => ((x.2.1, (x.1, ())), ()) }

/-- register.states -/
theorem h145 : Ok 58 sStates := by
  refine mkX (X := xS) (hX := xS_ok) (ctr := []) trivial (nt := 6) Tryz.func58 rfl rfl rfl rfl (by kernel_rfl) (by kernel_rfl) (fun _ => []) ?_
  rintro ⟨⟨⟨(L : Int), (xs : List Int), _⟩, _⟩, (s : Int), _⟩ _
  repeat' (intro hzz; (try (rename Two => hq; cases hq)); (try dsimp only at hzz); (try simp only [resTy, argTy, eqD, inR, big, wantOf, Bool.not_true, Bool.not_false, Bool.true_eq, decide_eq_true_eq, decide_eq_false_iff_not, Bool.not_eq_true', Bool.not_eq_false', Bool.and_eq_true, Prod.mk.injEq, and_true, true_and, Int.not_lt, Int.not_le, gt_iff_lt, ge_iff_le] at hzz); (try (revert hzz; intro _)))
  all_goals try (rename Unit => hq; clear hq)
  all_goals try ((with_reducible refine Held.mk ?_); (with_reducible (first | refine Frz.mk ?_ | refine And.intro (Frz.mk ?_) ?_ | refine And.intro ?_ (Frz.mk ?_))); repeat' first | exact True.intro | (change _ = _; with_reducible rfl) | refine And.intro ?_ ?_ | (with_reducible refine Frz.mk ?_))
  all_goals try (refine Held.mk ?_; (try dsimp only at *); (try simp only [resTy, argTy, eqD, inR, big, wantOf, Bool.not_true, Bool.not_false, Bool.true_eq, decide_eq_true_eq, decide_eq_false_iff_not, Bool.not_eq_true', Bool.not_eq_false', Bool.and_eq_true, Prod.mk.injEq, and_true, true_and, Int.not_lt, Int.not_le, gt_iff_lt, ge_iff_le] at *))

abbrev cOwn (key off k el : Nat) (xs : List Int) : St := [.cell key off (.o k xs.length), .row k el I64 xs]

def bitI (L : Int) (xs : List Int) (s : Int) (i : Nat) : Int := stI L xs s i % 2

@[reducible] def sBits : Spec := { pats := [.dat Reg, .dat I64, .dat I64], res := [{ own := some 3, t := .sl I64 }], pre := fun x => pSt x.1.1.1 x.1.1.2.1 x.2.1 ∧ 0 ≤ x.2.2.1 ∧ x.2.2.1 ≤ (1024 : Int), f := fun x => (tab (bitI x.1.1.1 x.1.1.2.1 x.2.1) (Int.toNat x.2.2.1), ()) }

/-- register.bits -/
theorem h87 : Ok 35 sBits := by
  refine mkX (X := xS) (hX := xS_ok) (ctr := [(58, sStates)]) ⟨h145, trivial⟩ (nt := 23) Tryz.func35 rfl rfl rfl rfl (by kernel_rfl) (by kernel_rfl) (fun x => [fun _ => { σ := Nat, pat := fun k => cOwn 7 0 60007 3 (tab (bitI x.1.1.1 x.1.1.2.1 x.2.1) k), inv := fun k => (k : Int) ≤ x.2.2.1, meas := fun k => k }]) ?_
  rintro ⟨⟨⟨(L : Int), (xs : List Int), _⟩, _⟩, (s : Int), (n : Int), _⟩ ⟨(hp : pSt L xs s), (h0 : 0 ≤ n), (h1 : n ≤ 1024)⟩
  repeat' (intro hzz; (try (rename Two => hq; cases hq)); (try dsimp only at hzz); (try simp only [resTy, argTy, eqD, inR, big, wantOf, Bool.not_true, Bool.not_false, Bool.true_eq, decide_eq_true_eq, decide_eq_false_iff_not, Bool.not_eq_true', Bool.not_eq_false', Bool.and_eq_true, Prod.mk.injEq, and_true, true_and, Int.not_lt, Int.not_le, gt_iff_lt, ge_iff_le] at hzz); (try simp only [resTy, argTy, eqD, inR, big, wantOf, Bool.not_true, Bool.not_false, Bool.true_eq, decide_eq_true_eq, decide_eq_false_iff_not, Bool.not_eq_true', Bool.not_eq_false', Bool.and_eq_true, Prod.mk.injEq, and_true, true_and, Int.not_lt, Int.not_le, gt_iff_lt, ge_iff_le, tab_len] at hzz); (try (first | contradiction | (exfalso; omega))); (try (revert hzz; intro _)))
  all_goals try (rename Unit => hq; clear hq)
  all_goals try ((with_reducible refine Held.mk ?_); (with_reducible (first | refine Frz.mk ?_ | refine And.intro (Frz.mk ?_) ?_ | refine And.intro ?_ (Frz.mk ?_))); repeat' first | exact True.intro | (change _ = _; with_reducible rfl) | refine And.intro ?_ ?_ | (with_reducible refine Frz.mk ?_))
  all_goals try (refine Held.mk ?_; (try dsimp only at *); (try simp only [resTy, argTy, eqD, inR, big, wantOf, Bool.not_true, Bool.not_false, Bool.true_eq, decide_eq_true_eq, decide_eq_false_iff_not, Bool.not_eq_true', Bool.not_eq_false', Bool.and_eq_true, Prod.mk.injEq, and_true, true_and, Int.not_lt, Int.not_le, gt_iff_lt, ge_iff_le] at *); (try simp only [resTy, argTy, eqD, inR, big, wantOf, Bool.not_true, Bool.not_false, Bool.true_eq, decide_eq_true_eq, decide_eq_false_iff_not, Bool.not_eq_true', Bool.not_eq_false', Bool.and_eq_true, Prod.mk.injEq, and_true, true_and, Int.not_lt, Int.not_le, gt_iff_lt, ge_iff_le, tab_len] at *))
  all_goals try omega
  · 
    refine GHeld.mk ?_
    refine Exists.intro 0 ?_
    refine And.intro (Leaf.mk ?_) ?_
    · repeat' first | exact True.intro | refine And.intro ?_ ?_
      all_goals try ((change _ = _ <;> try dsimp only) <;> try with_reducible rfl)
      all_goals try omega
      all_goals (rfl)
    exact ⟨h0, rfl⟩
  · exact fun _ => ⟨1025, fun k hk => by omega⟩
  · exact fun k hk => ⟨rfl, rfl, rfl⟩
  · rename_i k hk _ hg
    show tab (bitI L xs s) k = tab (bitI L xs s) n.toNat
    rw [show n.toNat = k from by omega]
  · rename_i k hk _ hg
    show k + 1 ≤ 2147483648
    omega
  · rename_i k hk _ hg
    obtain ⟨_, _, r1, r2⟩ := stI_pSt hp k
    have hP := P2_in (chk_zero hp.1).1
    have e : bits .and .i64 (stI L xs s k) 1 = bitI L xs s k := and1 r1 (by omega)
    rw [e]
    refine GHeld.mk ?_
    refine Exists.intro (k + 1) ?_
    refine And.intro (Leaf.mk ?_) ?_
    · repeat' first | exact True.intro | refine And.intro ?_ ?_
      all_goals try ((change _ = _ <;> try dsimp only) <;> try with_reducible rfl)
      all_goals try omega
      all_goals (first | rfl | (rw [tab_len]; rfl) | skip)
    exact ⟨by show ((k + 1 : Nat) : Int) ≤ n; omega, rfl⟩

/-- Not back yet. -/
def nyet (L : Int) (xs : List Int) (s : Int) (k : Nat) : Prop := ∀ m, 1 ≤ m → m ≤ k → stI L xs s m ≠ s

theorem nyet_lt {L : Int} {xs : List Int} {s : Int} (h : pSt L xs s) {k : Nat} (hk : nyet L xs s k) : k < per L xs s := by
  obtain ⟨h1, h2, h3, h4⟩ := per_spec h
  by_cases hc : k < per L xs s
  · exact hc
  · exact absurd h1 (hk _ h2 (by omega))

theorem nyet_per {L : Int} {xs : List Int} {s : Int} (h : pSt L xs s) {k : Nat} (hk : nyet L xs s k) (he : stI L xs s (k + 1) = s) : per L xs s = k + 1 := by
  obtain ⟨h1, h2, h3, h4⟩ := per_spec h
  have := nyet_lt h hk
  by_cases hc : k + 1 < per L xs s
  · exact absurd he (h4 (k + 1) (by omega) hc)
  · omega

@[reducible] def sPer : Spec := { pats := [.dat Reg, .dat I64], res := [{ t := I64 }], pre := fun x => pSt x.1.1.1 x.1.1.2.1 x.2.1, f := fun x => ((per x.1.1.1 x.1.1.2.1 x.2.1 : Int), ()) }

/-- register.period -/
theorem h88 : Ok 88 sPer := by
  refine mkX (X := xS) (hX := xS_ok) (ctr := [(58, sStates), (86, sNext)]) ⟨h145, h146, trivial⟩ (nt := 19) Tryz.func88 rfl rfl rfl rfl (by kernel_rfl) (by kernel_rfl) (fun x => [fun _ => { σ := Nat, pat := fun k => [cI 5 0 k], inv := fun k => nyet x.1.1.1 x.1.1.2.1 x.2.1 k, meas := fun k => k }]) ?_
  rintro ⟨⟨⟨(L : Int), (xs : List Int), _⟩, _⟩, (s : Int), _⟩ (hp : pSt L xs s)
  have hn : pSt L xs (nxt L xs s) := stI_pSt hp 1
  repeat' (intro hzz; (try (rename Two => hq; cases hq)); (try dsimp only at hzz); (try simp only [resTy, argTy, eqD, inR, big, wantOf, Bool.not_true, Bool.not_false, Bool.true_eq, decide_eq_true_eq, decide_eq_false_iff_not, Bool.not_eq_true', Bool.not_eq_false', Bool.and_eq_true, Prod.mk.injEq, and_true, true_and, Int.not_lt, Int.not_le, gt_iff_lt, ge_iff_le] at hzz); (try simp only [resTy, argTy, eqD, inR, big, wantOf, Bool.not_true, Bool.not_false, Bool.true_eq, decide_eq_true_eq, decide_eq_false_iff_not, Bool.not_eq_true', Bool.not_eq_false', Bool.and_eq_true, Prod.mk.injEq, and_true, true_and, Int.not_lt, Int.not_le, gt_iff_lt, ge_iff_le, stI_nxt] at hzz); (try (first | contradiction | (exfalso; omega))); (try (revert hzz; intro _)))
  all_goals try (rename Unit => hq; clear hq)
  all_goals try ((with_reducible refine Held.mk ?_); (with_reducible (first | refine Frz.mk ?_ | refine And.intro (Frz.mk ?_) ?_ | refine And.intro ?_ (Frz.mk ?_))); repeat' first | exact True.intro | (change _ = _; with_reducible rfl) | refine And.intro ?_ ?_ | (with_reducible refine Frz.mk ?_))
  all_goals try (refine Held.mk ?_; (try dsimp only at *); (try simp only [resTy, argTy, eqD, inR, big, wantOf, Bool.not_true, Bool.not_false, Bool.true_eq, decide_eq_true_eq, decide_eq_false_iff_not, Bool.not_eq_true', Bool.not_eq_false', Bool.and_eq_true, Prod.mk.injEq, and_true, true_and, Int.not_lt, Int.not_le, gt_iff_lt, ge_iff_le] at *); (try simp only [resTy, argTy, eqD, inR, big, wantOf, Bool.not_true, Bool.not_false, Bool.true_eq, decide_eq_true_eq, decide_eq_false_iff_not, Bool.not_eq_true', Bool.not_eq_false', Bool.and_eq_true, Prod.mk.injEq, and_true, true_and, Int.not_lt, Int.not_le, gt_iff_lt, ge_iff_le, stI_nxt] at *))
  all_goals try omega
  · 
    refine GHeld.mk ?_
    refine Exists.intro 0 ?_
    refine And.intro (Leaf.mk ?_) ?_
    · repeat' first | exact True.intro | refine And.intro ?_ ?_
      all_goals try ((change _ = _ <;> try dsimp only) <;> try with_reducible rfl)
      all_goals try omega
      all_goals (rfl)
    exact ⟨fun m h1 h2 => by omega, rfl⟩
  · exact fun _ => ⟨per L xs s, fun k hk => nyet_lt hp hk⟩
  · exact fun k hk => ⟨rfl, rfl, rfl⟩
  · rename_i k hk _
    have := nyet_lt hp hk
    have := per_spec hp
    have := P2_in (chk_zero hp.1).1
    omega
  · rename_i k hk _ h
    have h : stI L xs s (k + 1) = s := h
    have := nyet_per hp hk h
    show ((k : Int) + 1) = (per L xs s : Int)
    omega
  · rename_i k hk _ h
    refine GHeld.mk ?_
    refine Exists.intro (k + 1) ?_
    refine And.intro (Leaf.mk ?_) ?_
    · repeat' first | exact True.intro | refine And.intro ?_ ?_
      all_goals try ((change _ = _ <;> try dsimp only) <;> try with_reducible rfl)
      all_goals try omega
    refine ⟨fun m h1 h2 => ?_, rfl⟩
    by_cases hm : m = k + 1
    · subst hm; exact h
    · exact hk m h1 (by omega)

@[reducible] def sIsMax : Spec := { pats := [.dat Reg], res := [{ t := .bool }], pre := fun x => chk x.1.1.1 x.1.1.2.1 = 0 ∧ pLen (List.length (α := Int) x.1.1.2.1), f := fun x => (decide ((per x.1.1.1 x.1.1.2.1 1 : Int) = most x.1.1.1), ()) }

theorem one_pSt {L : Int} {xs : List Int} (h : chk L xs = 0) (hl : pLen xs.length) : pSt L xs 1 := ⟨h, hl, by omega, by have := P2_in (chk_zero h).1; omega⟩

/-- register.isMaximal -/
theorem h121 : Ok 66 sIsMax := by
  refine mk (ctr := [(88, sPer), (38, sFull)]) ⟨h88, h94, trivial⟩ (nt := 8) Tryz.func66 rfl rfl rfl rfl (by kernel_rfl) (by kernel_rfl) (fun _ => []) ?_
  rintro ⟨⟨⟨(L : Int), (xs : List Int), _⟩, _⟩, _⟩ ⟨(hc : chk L xs = 0), (hl : pLen xs.length)⟩
  have h1 := one_pSt hc hl
  have h2 := (chk_zero hc).1
  repeat' (intro hzz; (try (rename Two => hq; cases hq)); (try dsimp only at hzz); (try simp only [resTy, argTy, eqD, inR, big, wantOf, Bool.not_true, Bool.not_false, Bool.true_eq, decide_eq_true_eq, decide_eq_false_iff_not, Bool.not_eq_true', Bool.not_eq_false', Bool.and_eq_true, Prod.mk.injEq, and_true, true_and, Int.not_lt, Int.not_le, gt_iff_lt, ge_iff_le] at hzz); (try (first | contradiction | (exfalso; omega))); (try (revert hzz; intro _)))
  all_goals try (rename Unit => hq; clear hq)
  all_goals try ((with_reducible refine Held.mk ?_); (with_reducible (first | refine Frz.mk ?_ | refine And.intro (Frz.mk ?_) ?_ | refine And.intro ?_ (Frz.mk ?_))); repeat' first | exact True.intro | (change _ = _; with_reducible rfl) | refine And.intro ?_ ?_ | (with_reducible refine Frz.mk ?_))
  all_goals try (refine Held.mk ?_; (try dsimp only at *); (try simp only [resTy, argTy, eqD, inR, big, wantOf, Bool.not_true, Bool.not_false, Bool.true_eq, decide_eq_true_eq, decide_eq_false_iff_not, Bool.not_eq_true', Bool.not_eq_false', Bool.and_eq_true, Prod.mk.injEq, and_true, true_and, Int.not_lt, Int.not_le, gt_iff_lt, ge_iff_le] at *))
  all_goals try omega

end Go.Eng.Pu
