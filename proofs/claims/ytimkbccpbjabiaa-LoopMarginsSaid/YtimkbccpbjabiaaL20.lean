/- Contract of ref.Unit; the law LoopUnits returns true. Conditions: Unit: the table is the right one. -/
import Derived.Test.YtimkbccpbjabiaaL19
namespace Go.Eng.Lp
open Go.Eng Go.Proofs
set_option linter.all false
set_option maxRecDepth 100000
set_option maxHeartbeats 8000000

theorem turn_rot : ∀ (n : Nat) (x y : Int), turn (n + 1) x y = (-(turn n x y).2, (turn n x y).1)
  | 0, x, y => rfl
  | n + 1, x, y => by
    have := turn_rot n (-y) x
    simp only [turn] at this ⊢
    exact this

@[irreducible] def theTable : List IIU := tableI
theorem theTable_eq : theTable = tableI := by unfold theTable; rfl
theorem theTable_len : theTable.length = 1025 := by rw [theTable_eq]; exact tab_len _ _
theorem theTable_get {i : Nat} (h : i < 1025) (d : IIU) : theTable.getD i d = wI i := by rw [theTable_eq]; exact tab_get wI d 1025 i h

@[reducible] def sTable' : Spec := { pats := [], res := [{ t := .sl DirT }], pre := fun _ => True, f := fun _ => (theTable, ()) }
theorem h20' : Ok 20 sTable' := by
  have e : sTable' = sTable := by simp only [sTable', sTable, theTable_eq]
  rw [e]; exact h20

@[reducible] def sRefUnit : Spec := { pats := [.dat (.sl DirT), .dat I64], res := [{ t := Ball }], pre := fun x => x.1 = theTable, f := fun x => (unitI x.2.1, ()) }

def ruAnn (m : Int) : LoopAnn := { σ := Nat, pat := fun i => [sI 6 i, cI 5 0 (turn i (wI (m % 1024).toNat).1 (wI (m % 1024).toNat).2.1).1, cI 5 1 (turn i (wI (m % 1024).toNat).1 (wI (m % 1024).toNat).2.1).2], inv := fun i => (i : Int) ≤ m % 4096 / 1024, meas := fun i => 4 - i }

/-- ref.Unit -/
theorem h19 : Ok 19 sRefUnit := by
  refine mk (ctr := [(66, sMod), (79, sRoundR)]) ⟨h66, h79, trivial⟩ (nt := 38) Try.func19 rfl rfl rfl rfl (by kernel_rfl) (by kernel_rfl) (fun x => [fun _ => ruAnn x.2.1]) ?_
  rintro ⟨_, (m : Int), _⟩ (rfl : _ = theTable)
  have t1 : (m % 4096).tmod 1024 = m % 1024 := tm1 m
  have t2 : (m % 4096).tdiv 1024 = m % 4096 / 1024 := td1 m
  have hw := wayQ_le (m % 1024).toNat
  have hl := theTable_len
  have ht : ∀ d, List.getD theTable (m % 1024).toNat d = wI (m % 1024).toNat := fun d => theTable_get (by omega) d
  have ew : wI (m % 1024).toNat = (((wayQ (m % 1024).toNat).1 : Int), ((wayQ (m % 1024).toNat).2 : Int), ()) := by
    simp only [wI]; rw [W_lt (by omega)]
  have hq := fun n => turn_le 67108864 n ((wayQ (m % 1024).toNat).1 : Int) ((wayQ (m % 1024).toNat).2 : Int) (by omega) (by omega) (by omega) (by omega)
  repeat' (intro hzz; (try (rename Two => hq; cases hq)); (try dsimp only at hzz); (try simp only [resTy, argTy, eqD, inR, big, wantOf, Bool.not_true, Bool.not_false, Bool.true_eq, decide_eq_true_eq, decide_eq_false_iff_not, Bool.not_eq_true', Bool.not_eq_false', Bool.and_eq_true, Prod.mk.injEq, and_true, true_and, Int.not_lt, Int.not_le, gt_iff_lt, ge_iff_le] at hzz); (try simp only [resTy, argTy, eqD, inR, big, wantOf, Bool.not_true, Bool.not_false, Bool.true_eq, decide_eq_true_eq, decide_eq_false_iff_not, Bool.not_eq_true', Bool.not_eq_false', Bool.and_eq_true, Prod.mk.injEq, and_true, true_and, Int.not_lt, Int.not_le, gt_iff_lt, ge_iff_le, fMod, tm1, td1] at hzz); (try (revert hzz; intro _)))
  all_goals try (rename Unit => hq; clear hq)
  all_goals try ((with_reducible refine Held.mk ?_); (with_reducible (first | refine Frz.mk ?_ | refine And.intro (Frz.mk ?_) ?_ | refine And.intro ?_ (Frz.mk ?_))); repeat' first | exact True.intro | (change _ = _; with_reducible rfl) | refine And.intro ?_ ?_ | (with_reducible refine Frz.mk ?_))
  all_goals try (refine Held.mk ?_; (try dsimp only at *); (try simp only [resTy, argTy, eqD, inR, big, wantOf, Bool.not_true, Bool.not_false, Bool.true_eq, decide_eq_true_eq, decide_eq_false_iff_not, Bool.not_eq_true', Bool.not_eq_false', Bool.and_eq_true, Prod.mk.injEq, and_true, true_and, Int.not_lt, Int.not_le, gt_iff_lt, ge_iff_le] at *); (try simp only [resTy, argTy, eqD, inR, big, wantOf, Bool.not_true, Bool.not_false, Bool.true_eq, decide_eq_true_eq, decide_eq_false_iff_not, Bool.not_eq_true', Bool.not_eq_false', Bool.and_eq_true, Prod.mk.injEq, and_true, true_and, Int.not_lt, Int.not_le, gt_iff_lt, ge_iff_le, fMod, tm1, td1] at *))
  all_goals try omega
  · exact (show (0 : Int) < 4096 ∧ (4096 : Int) ≤ 2000000000000000000 by decide)
  ·
    have e1 : (List.getD theTable ((fMod m 4096).tmod 1024).toNat (Ty.dflt DirT)).1 = (turn 0 (wI (m % 1024).toNat).1 (wI (m % 1024).toNat).2.1).1 := by simp only [fMod, tm1]; rw [ht]; rfl
    have e2 : (List.getD theTable ((fMod m 4096).tmod 1024).toNat (Ty.dflt DirT)).2.1 = (turn 0 (wI (m % 1024).toNat).1 (wI (m % 1024).toNat).2.1).2 := by simp only [fMod, tm1]; rw [ht]; rfl
    refine GHeld.mk ?_
    refine Exists.intro (0 : Nat) ?_
    refine And.intro (Leaf.mk ?_) ?_
    · repeat' first | exact True.intro | refine And.intro ?_ ?_
      all_goals try ((change _ = _ <;> try dsimp only) <;> try with_reducible rfl)
      all_goals try omega
      all_goals (first | exact e1 | exact e2 | trace_state)
    exact (show ((0 : Nat) : Int) ≤ m % 4096 / 1024 by omega)
  · rename_i i h1 h2
    have := hq i
    rw [ew]
    dsimp only
    omega
  · rename_i i h1 h2
    have er := turn_rot i (wI (m % 1024).toNat).1 (wI (m % 1024).toNat).2.1
    have e1 := congrArg Prod.fst er
    have e2 := congrArg Prod.snd er
    refine GHeld.mk ?_
    refine Exists.intro (i + 1) ?_
    refine And.intro (Leaf.mk ?_) ?_
    · repeat' first | exact True.intro | refine And.intro ?_ ?_
      all_goals try ((change _ = _ <;> try dsimp only) <;> try with_reducible rfl)
      all_goals try omega
      all_goals (first | exact e1.symm | exact e2.symm | trace_state)
    refine ⟨show ((i + 1 : Nat) : Int) ≤ m % 4096 / 1024 by omega, ?_⟩
    change 4 - (i + 1) < 4 - i
    omega
  all_goals
    (rename_i i h1 h2 h3
     have := hq i
     have hi : i = (m % 4096 / 1024).toNat := by omega
     have ewy : wayI m = turn i (wI (m % 1024).toNat).1 (wI (m % 1024).toNat).2.1 := by rw [ew, hi]; rfl
     have hwl := wayI_le m
     rw [← ewy]
     first
      | exact (⟨by decide, by decide, by omega, by omega⟩ : (0 : Int) < 64 ∧ (64 : Int) ≤ 2000000000000000000 ∧ -8000000000000000000 ≤ (wayI m).1 ∧ (wayI m).1 ≤ 7000000000000000000)
      | exact (⟨by decide, by decide, by omega, by omega⟩ : (0 : Int) < 64 ∧ (64 : Int) ≤ 2000000000000000000 ∧ -8000000000000000000 ≤ (wayI m).2 ∧ (wayI m).2 ≤ 7000000000000000000)
      | (simp only [unitI, fRoundR]
         first | rw [if_pos h3] | rw [if_neg h3]
         exact ⟨by omega, by omega, rfl⟩))

@[reducible] def sLoopUnits : Spec := { pats := [.dat I64], res := [{ t := .bool }], pre := fun _ => True, f := fun _ => (true, ()) }

/-- LoopUnits -/
theorem h3 : Ok 3 sLoopUnits := by
  refine mk (ctr := [(16, sAwake), (17, sWithin), (18, sUnitOf), (20, sTable'), (19, sRefUnit)]) ⟨h16, h17, h18, h20', h19, trivial⟩ (nt := 57) Try.func3 rfl rfl rfl rfl (by kernel_rfl) (by kernel_rfl) (fun _ => []) ?_
  rintro ⟨(m : Int), _⟩ _
  have hu := unitI_le m
  have hs := unit_sq m
  repeat' (intro hzz; (try (rename Two => hq; cases hq)); (try dsimp only at hzz); (try simp only [resTy, argTy, eqD, inR, big, wantOf, Bool.not_true, Bool.not_false, Bool.true_eq, decide_eq_true_eq, decide_eq_false_iff_not, Bool.not_eq_true', Bool.not_eq_false', Bool.and_eq_true, Prod.mk.injEq, and_true, true_and, Int.not_lt, Int.not_le, gt_iff_lt, ge_iff_le] at hzz); (try simp only [resTy, argTy, eqD, inR, big, wantOf, Bool.not_true, Bool.not_false, Bool.true_eq, decide_eq_true_eq, decide_eq_false_iff_not, Bool.not_eq_true', Bool.not_eq_false', Bool.and_eq_true, Prod.mk.injEq, and_true, true_and, Int.not_lt, Int.not_le, gt_iff_lt, ge_iff_le, fWithin, Ty.beq] at hzz); (try (revert hzz; intro _)))
  all_goals try (rename Unit => hq; clear hq)
  all_goals try ((with_reducible refine Held.mk ?_); (with_reducible (first | refine Frz.mk ?_ | refine And.intro (Frz.mk ?_) ?_ | refine And.intro ?_ (Frz.mk ?_))); repeat' first | exact True.intro | (change _ = _; with_reducible rfl) | refine And.intro ?_ ?_ | (with_reducible refine Frz.mk ?_))
  all_goals try (refine Held.mk ?_; (try dsimp only at *); (try simp only [resTy, argTy, eqD, inR, big, wantOf, Bool.not_true, Bool.not_false, Bool.true_eq, decide_eq_true_eq, decide_eq_false_iff_not, Bool.not_eq_true', Bool.not_eq_false', Bool.and_eq_true, Prod.mk.injEq, and_true, true_and, Int.not_lt, Int.not_le, gt_iff_lt, ge_iff_le] at *); (try simp only [resTy, argTy, eqD, inR, big, wantOf, Bool.not_true, Bool.not_false, Bool.true_eq, decide_eq_true_eq, decide_eq_false_iff_not, Bool.not_eq_true', Bool.not_eq_false', Bool.and_eq_true, Prod.mk.injEq, and_true, true_and, Int.not_lt, Int.not_le, gt_iff_lt, ge_iff_le, fWithin, Ty.beq] at *))
  all_goals try omega
  all_goals have e0 : unitI (m + 4096) = unitI m := by rw [← unitI_mod (m + 4096), ← unitI_mod m]; congr 1; omega
  · rename_i h
    exfalso
    simp [e0] at h
  all_goals have c1 := mul_bd (x := (unitI m).1) (d := (unitI m).1) (X := 1048576) (B := 1048576) (by omega) (by omega) (by omega) (by omega)
  all_goals have c2 := mul_bd (x := (unitI m).2.1) (d := (unitI m).2.1) (X := 1048576) (B := 1048576) (by omega) (by omega) (by omega) (by omega)
  all_goals have c3 := mul_bd (x := 1048576 - (unitI m).2.2.1) (d := 1048576 - (unitI m).2.2.1) (X := 1048580) (B := 1048580) (by omega) (by omega) (by omega) (by omega)
  all_goals have c4 := mul_bd (x := 1048576 + (unitI m).2.2.1) (d := 1048576 + (unitI m).2.2.1) (X := 1048580) (B := 1048580) (by omega) (by omega) (by omega) (by omega)
  all_goals try omega
  · rename_i h
    exfalso
    simp at h

end Go.Eng.Lp
