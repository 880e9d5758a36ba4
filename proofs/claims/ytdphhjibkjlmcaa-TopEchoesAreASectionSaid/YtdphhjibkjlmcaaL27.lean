/- Contracts of CheckArcs, CheckRings and of the reference's; the law LoopProofs returns true. Conditions: each contract's own. -/
import Derived.Test.YtdphhjibkjlmcaaL26
import Derived.Test.YtdphhjibkjlmcaaP5
namespace Go.Eng.Lp
open Go.Eng Go.Proofs
set_option linter.all false
set_option maxRecDepth 100000
set_option maxHeartbeats 8000000

@[reducible] def sBeyond : Spec := { pats := [.dat Ball], res := [{ t := .bool }], pre := fun x => okBall x.1.1 x.1.2.1 x.1.2.2.1, f := fun x => (decide (1048576 ≤ x.1.1 - x.1.2.2.1), ()) }
/-- beyond -/
theorem h122 : Ok 53 sBeyond := by
  refine mk (ctr := []) trivial (nt := 9) Try.func53 rfl rfl rfl rfl (by kernel_rfl) (by kernel_rfl) (fun _ => []) ?_
  rintro ⟨⟨(x : Int), (y : Int), (r : Int), _⟩, _⟩ (hb : okBall x y r)
  simp only [okBall] at hb
  repeat' (intro hzz; (try (rename Two => hq; cases hq)); (try dsimp only at hzz); (try simp only [resTy, argTy, eqD, inR, big, wantOf, Bool.not_true, Bool.not_false, Bool.true_eq, decide_eq_true_eq, decide_eq_false_iff_not, Bool.not_eq_true', Bool.not_eq_false', Bool.and_eq_true, Prod.mk.injEq, and_true, true_and, Int.not_lt, Int.not_le, gt_iff_lt, ge_iff_le] at hzz); (try (revert hzz; intro _)))
  all_goals try (rename Unit => hq; clear hq)
  all_goals try ((with_reducible refine Held.mk ?_); (with_reducible (first | refine Frz.mk ?_ | refine And.intro (Frz.mk ?_) ?_ | refine And.intro ?_ (Frz.mk ?_))); repeat' first | exact True.intro | (change _ = _; with_reducible rfl) | refine And.intro ?_ ?_ | (with_reducible refine Frz.mk ?_))
  all_goals try (refine Held.mk ?_; (try dsimp only at *); (try simp only [resTy, argTy, eqD, inR, big, wantOf, Bool.not_true, Bool.not_false, Bool.true_eq, decide_eq_true_eq, decide_eq_false_iff_not, Bool.not_eq_true', Bool.not_eq_false', Bool.and_eq_true, Prod.mk.injEq, and_true, true_and, Int.not_lt, Int.not_le, gt_iff_lt, ge_iff_le] at *))
  all_goals try omega

def fSide (y r : Int) : Int := if r < y then 1 else if r < -y then -1 else 0
@[reducible] def sSide : Spec := { pats := [.dat Ball], res := [{ t := I64 }], pre := fun x => okBall x.1.1 x.1.2.1 x.1.2.2.1, f := fun x => (fSide x.1.2.1 x.1.2.2.1, ()) }
/-- side -/
theorem h123 : Ok 55 sSide := by
  refine mk (ctr := []) trivial (nt := 16) Try.func55 rfl rfl rfl rfl (by kernel_rfl) (by kernel_rfl) (fun _ => []) ?_
  rintro ⟨⟨(x : Int), (y : Int), (r : Int), _⟩, _⟩ (hb : okBall x y r)
  simp only [okBall] at hb
  repeat' (intro hzz; (try (rename Two => hq; cases hq)); (try dsimp only at hzz); (try simp only [resTy, argTy, eqD, inR, big, wantOf, Bool.not_true, Bool.not_false, Bool.true_eq, decide_eq_true_eq, decide_eq_false_iff_not, Bool.not_eq_true', Bool.not_eq_false', Bool.and_eq_true, Prod.mk.injEq, and_true, true_and, Int.not_lt, Int.not_le, gt_iff_lt, ge_iff_le] at hzz); (try simp only [resTy, argTy, eqD, inR, big, wantOf, Bool.not_true, Bool.not_false, Bool.true_eq, decide_eq_true_eq, decide_eq_false_iff_not, Bool.not_eq_true', Bool.not_eq_false', Bool.and_eq_true, Prod.mk.injEq, and_true, true_and, Int.not_lt, Int.not_le, gt_iff_lt, ge_iff_le, fSide] at hzz); (try (revert hzz; intro _)))
  all_goals try (rename Unit => hq; clear hq)
  all_goals try ((with_reducible refine Held.mk ?_); (with_reducible (first | refine Frz.mk ?_ | refine And.intro (Frz.mk ?_) ?_ | refine And.intro ?_ (Frz.mk ?_))); repeat' first | exact True.intro | (change _ = _; with_reducible rfl) | refine And.intro ?_ ?_ | (with_reducible refine Frz.mk ?_))
  all_goals try (refine Held.mk ?_; (try dsimp only at *); (try simp only [resTy, argTy, eqD, inR, big, wantOf, Bool.not_true, Bool.not_false, Bool.true_eq, decide_eq_true_eq, decide_eq_false_iff_not, Bool.not_eq_true', Bool.not_eq_false', Bool.and_eq_true, Prod.mk.injEq, and_true, true_and, Int.not_lt, Int.not_le, gt_iff_lt, ge_iff_le] at *); (try simp only [resTy, argTy, eqD, inR, big, wantOf, Bool.not_true, Bool.not_false, Bool.true_eq, decide_eq_true_eq, decide_eq_false_iff_not, Bool.not_eq_true', Bool.not_eq_false', Bool.and_eq_true, Prod.mk.injEq, and_true, true_and, Int.not_lt, Int.not_le, gt_iff_lt, ge_iff_le, fSide] at *))
  all_goals try omega
  all_goals first
    | (rw [if_pos (by omega)])
    | (rw [if_neg (by omega), if_pos (by omega)])
    | (rw [if_neg (by omega), if_neg (by omega)])

theorem side_le (y r : Int) : -1 ≤ fSide y r ∧ fSide y r ≤ 1 := by
  simp only [fSide]; split
  · omega
  · split <;> omega
theorem side_mul (y r v s : Int) : -1 ≤ fSide y r * fSide v s ∧ fSide y r * fSide v s ≤ 1 := by
  simp only [fSide]; split <;> split <;> (try split) <;> (try split) <;> decide
theorem side_neg {y r v s : Int} (hr : 0 ≤ r) (hs : 0 ≤ s) : decide (fSide y r * fSide v s < 0) = decide ((r < y ∧ v < -s) ∨ (y < -r ∧ s < v)) := by
  have e : (fSide y r * fSide v s < 0) ↔ ((r < y ∧ v < -s) ∨ (y < -r ∧ s < v)) := by
    simp only [fSide]
    split <;> split <;> (try split) <;> (try split) <;> simp <;> omega
  simp only [e]

theorem arc_same (T : List Int) (g a : Int) : arcI T g a a = valueI T g a := by
  have e : (a + a) / 2 = a := by omega
  simp only [arcI, fCeil, e, Int.sub_self, Int.mul_zero]
  simp

@[reducible] def sRings : Spec := { pats := [.ob 0, .dat LoopT, .dat ArcT], res := [{ t := .bool }], pre := fun x => GoodLoop x.1.1 x.1.2.1 ∧ fArcErr x.2.1.1 x.2.1.2.1 = 0, f := fun x => (fRings x.1.1 x.1.2.1 x.2.1.1 x.2.1.2.1, ()) }
/-- circle.rings -/
theorem h103 : Ok 41 sRings := by
  refine mk (ctr := [(45, sValue), (54, sArc), (53, sBeyond), (55, sSide)]) ⟨h84, h86, h122, h123, trivial⟩ (nt := 47) Try.func41 rfl rfl rfl rfl (by kernel_rfl) (by kernel_rfl) (fun _ => []) ?_
  rintro ⟨⟨(T : List Int), (g : Int), _⟩, ⟨(a : Int), (b : Int), _⟩, _⟩ ⟨(hT : GoodLoop T g), (ha : fArcErr a b = 0)⟩
  have hab := arc_of ha
  have b1 := value_bd hT a
  have b2 := value_bd hT b
  have b3 := arc_bd (g := g) hT hab
  have hva : GoodLoop T g ∧ -1000000 ≤ a ∧ a ≤ 1000000 := ⟨hT, by omega⟩
  have hvb : GoodLoop T g ∧ -1000000 ≤ b ∧ b ≤ 1000000 := ⟨hT, by omega⟩
  have hvc : GoodLoop T g ∧ fArcErr a b = 0 := ⟨hT, ha⟩
  have sm1 := side_mul (valueI T g a).2.1 (valueI T g a).2.2.1 (valueI T g b).2.1 (valueI T g b).2.2.1
  have sn := side_neg (y := (valueI T g a).2.1) (v := (valueI T g b).2.1) b1.2.2.1 b2.2.2.1
  repeat' (intro hzz; (try (rename Two => hq; cases hq)); (try dsimp only at hzz); (try simp only [resTy, argTy, eqD, inR, big, wantOf, Bool.not_true, Bool.not_false, Bool.true_eq, decide_eq_true_eq, decide_eq_false_iff_not, Bool.not_eq_true', Bool.not_eq_false', Bool.and_eq_true, Prod.mk.injEq, and_true, true_and, Int.not_lt, Int.not_le, gt_iff_lt, ge_iff_le] at hzz); (try (first | contradiction | (exfalso; omega))); (try (revert hzz; intro _)))
  all_goals try (rename Unit => hq; clear hq)
  all_goals try ((with_reducible refine Held.mk ?_); (with_reducible (first | refine Frz.mk ?_ | refine And.intro (Frz.mk ?_) ?_ | refine And.intro ?_ (Frz.mk ?_))); repeat' first | exact True.intro | (change _ = _; with_reducible rfl) | refine And.intro ?_ ?_ | (with_reducible refine Frz.mk ?_))
  all_goals try (refine Held.mk ?_; (try dsimp only at *); (try simp only [resTy, argTy, eqD, inR, big, wantOf, Bool.not_true, Bool.not_false, Bool.true_eq, decide_eq_true_eq, decide_eq_false_iff_not, Bool.not_eq_true', Bool.not_eq_false', Bool.and_eq_true, Prod.mk.injEq, and_true, true_and, Int.not_lt, Int.not_le, gt_iff_lt, ge_iff_le] at *))
  all_goals try omega
  all_goals first
    | exact hva | exact hvb | exact hvc | omega
    | (rename_i h1 h2 h3
       subst h1
       have h4 : a = 0 ∨ a = 2048 := by
         have := Int.tmod_eq_emod_of_nonneg (a := a) (b := 2048) (by omega)
         omega
       simp only [fRings, arc_same]
       simp [h3, h4]; done)
    | (rename_i h; simp only [fRings, sn]
       have h5 : ¬ 1048576 ≤ (arcI T g a b).1 - (arcI T g a b).2.2.1 := by omega
       simp [h5]; done)
    | (rename_i h1 h2 h; simp only [fRings, sn]
       have h6 : ¬ (a = 0 ∨ a = 2048) := by
         have := Int.tmod_eq_emod_of_nonneg (a := a) (b := 2048) (by omega)
         omega
       simp [h, h6]; done)
    | (rename_i h1 h; simp only [fRings, sn]; simp [h, h1]; done)
    | (exfalso; rename_i h1 h2 h3 h4; have e : arcI T g a b = valueI T g a := (congrArg (arcI T g a) h1.symm).trans (arc_same T g a); rw [e] at h4; have h5 : (1048576 : Int) ≤ (valueI T g a).1 - (valueI T g a).2.2.1 := h4; omega)

@[reducible] def sRingsR : Spec := { pats := [.dat (.sl DirT), .dat LoopT, .dat ArcT], res := [{ t := .bool }], pre := fun x => x.1 = theTable ∧ GoodLoop x.2.1.1 x.2.1.2.1 ∧ fArcErr x.2.2.1.1 x.2.2.1.2.1 = 0, f := fun x => (fRings x.2.1.1 x.2.1.2.1 x.2.2.1.1 x.2.2.1.2.1, ()) }
def crErr (T : List Int) (g a b : Int) : Int := if abErr T g a b = 0 then (if fRings T g a b = true then 0 else 20) else abErr T g a b
@[reducible] def sCheckRings : Spec := { pats := [.dat LoopT, .dat ArcT], res := [{ t := I64 }], pre := fun _ => True, f := fun x => (crErr x.1.1 x.1.2.1 x.2.1.1 x.2.1.2.1, ()) }
/-- CheckRings -/
theorem h62 : Ok 16 sCheckRings := by
  refine mk (ctr := [(23, sCheckLoop), (40, sArcErr), (24, sUnless), (22, sFirst), (41, sRings)]) ⟨h57, h85, h82, h81, h103, trivial⟩ (nt := 20) Try.func16 rfl rfl rfl rfl (by kernel_rfl) (by kernel_rfl) (fun _ => []) ?_
  rintro ⟨⟨(T : List Int), (g : Int), _⟩, ⟨(a : Int), (b : Int), _⟩, _⟩ _
  repeat' (intro hzz; (try (rename Two => hq; cases hq)); (try dsimp only at hzz); (try simp only [resTy, argTy, eqD, inR, big, wantOf, Bool.not_true, Bool.not_false, Bool.true_eq, decide_eq_true_eq, decide_eq_false_iff_not, Bool.not_eq_true', Bool.not_eq_false', Bool.and_eq_true, Prod.mk.injEq, and_true, true_and, Int.not_lt, Int.not_le, gt_iff_lt, ge_iff_le] at hzz); (try simp only [resTy, argTy, eqD, inR, big, wantOf, Bool.not_true, Bool.not_false, Bool.true_eq, decide_eq_true_eq, decide_eq_false_iff_not, Bool.not_eq_true', Bool.not_eq_false', Bool.and_eq_true, Prod.mk.injEq, and_true, true_and, Int.not_lt, Int.not_le, gt_iff_lt, ge_iff_le, first2] at hzz); (try (revert hzz; intro _)))
  all_goals try (rename Unit => hq; clear hq)
  all_goals try ((with_reducible refine Held.mk ?_); (with_reducible (first | refine Frz.mk ?_ | refine And.intro (Frz.mk ?_) ?_ | refine And.intro ?_ (Frz.mk ?_))); repeat' first | exact True.intro | (change _ = _; with_reducible rfl) | refine And.intro ?_ ?_ | (with_reducible refine Frz.mk ?_))
  all_goals try (refine Held.mk ?_; (try dsimp only at *); (try simp only [resTy, argTy, eqD, inR, big, wantOf, Bool.not_true, Bool.not_false, Bool.true_eq, decide_eq_true_eq, decide_eq_false_iff_not, Bool.not_eq_true', Bool.not_eq_false', Bool.and_eq_true, Prod.mk.injEq, and_true, true_and, Int.not_lt, Int.not_le, gt_iff_lt, ge_iff_le] at *); (try simp only [resTy, argTy, eqD, inR, big, wantOf, Bool.not_true, Bool.not_false, Bool.true_eq, decide_eq_true_eq, decide_eq_false_iff_not, Bool.not_eq_true', Bool.not_eq_false', Bool.and_eq_true, Prod.mk.injEq, and_true, true_and, Int.not_lt, Int.not_le, gt_iff_lt, ge_iff_le, first2] at *))
  all_goals try omega
  · exact pLen2 (by simp)
  · rename_i h
    replace h : ¬ abErr T g a b = 0 := h
    change abErr T g a b = crErr T g a b
    simp only [crErr]; rw [if_neg h]
  · rename_i h
    split at h
    · rename_i hc; exact ⟨loop_of hc, h⟩
    · rename_i hc; exact absurd h hc
  · rename_i h
    replace h : abErr T g a b = 0 := h
    simp only [crErr]; rw [if_pos h]
    cases fRings T g a b <;> rfl

theorem getD_a (xs : List AA) (i : Nat) : List.getD xs ((i : Int)).toNat (Ty.dflt ArcT) = xs.getD i (0, 0, ()) := rfl

theorem arcs_step {T : List Int} {g at_ : Int} {arcs : List AA} {k : Nat} (h : k < arcs.length) : arcsE T g at_ (arcs.drop k) =
    if fArcErr (arcs.getD k (0, 0, ())).1 (arcs.getD k (0, 0, ())).2.1 ≠ 0 then fArcErr (arcs.getD k (0, 0, ())).1 (arcs.getD k (0, 0, ())).2.1 else if (arcs.getD k (0, 0, ())).1 ≠ at_ then 14 else if clearA T g (arcs.getD k (0, 0, ())).1 (arcs.getD k (0, 0, ())).2.1 = true then arcsE T g (arcs.getD k (0, 0, ())).2.1 (arcs.drop (k + 1)) else 20 := by
  rw [List.drop_eq_getElem_cons h]
  have e : arcs.getD k (0, 0, ()) = arcs[k] := by simp [List.getD, List.getElem?_eq_getElem h]
  rw [e]; rfl

def caErr (T : List Int) (g : Int) (arcs : List AA) : Int := if fCheckLoop T g = 0 then (if 512 < arcs.length then 8 else arcsE T g 0 arcs) else fCheckLoop T g
@[reducible] def sCheckArcs : Spec := { pats := [.dat LoopT, .dat (.sl ArcT)], res := [{ t := I64 }, { t := I64 }], pre := fun _ => True, f := fun x => ((if caErr x.1.1 x.1.2.1 x.2.1 = 0 then (List.length (α := AA) x.2.1 : Int) else 0), caErr x.1.1 x.1.2.1 x.2.1, ()) }
def ckAnn (T : List Int) (g : Int) (arcs : List AA) : LoopAnn := { σ := Nat × Int, pat := fun s => [sI 26 s.1, sI 7 s.2], inv := fun s => s.1 ≤ arcs.length ∧ arcsE T g 0 arcs = arcsE T g s.2 (arcs.drop s.1), meas := fun s => arcs.length - s.1 }

theorem ca_of {T : List Int} {g : Int} {arcs : List AA} (h : (if fCheckLoop T g = 0 then bif decide ((arcs.length : Int) ≤ 512) then 0 else 8 else fCheckLoop T g) = 0) : GoodLoop T g ∧ caErr T g arcs = arcsE T g 0 arcs ∧ arcs.length ≤ 512 := by
  by_cases hc : fCheckLoop T g = 0
  · refine ⟨loop_of hc, ?_⟩
    by_cases hl : 512 < arcs.length
    · have hd : decide ((arcs.length : Int) ≤ 512) = false := decide_eq_false (by omega)
      rw [if_pos hc, hd] at h; simp at h
    · simp only [caErr]; rw [if_pos hc, if_neg hl]; exact ⟨rfl, by omega⟩
  · rw [if_neg hc] at h; exact absurd h hc

theorem ca_no {T : List Int} {g : Int} {arcs : List AA} (h : ¬ (if fCheckLoop T g = 0 then bif decide ((arcs.length : Int) ≤ 512) then 0 else 8 else fCheckLoop T g) = 0) :
    ¬ caErr T g arcs = 0 ∧ (if fCheckLoop T g = 0 then bif decide ((arcs.length : Int) ≤ 512) then 0 else 8 else fCheckLoop T g) = caErr T g arcs := by
  by_cases hc : fCheckLoop T g = 0
  · by_cases hl : 512 < arcs.length
    · have hd : decide ((arcs.length : Int) ≤ 512) = false := decide_eq_false (by omega)
      simp only [caErr]; rw [if_pos hc, if_pos hc, if_pos hl, hd]; simp
    · have hd : decide ((arcs.length : Int) ≤ 512) = true := decide_eq_true (by omega)
      rw [if_pos hc, hd] at h; simp at h
  · simp only [caErr]; rw [if_neg hc, if_neg hc]; exact ⟨hc, rfl⟩

@[reducible] def sCheckArcsR : Spec := { pats := [.dat LoopT, .dat (.sl ArcT)], res := [{ t := I64 }], pre := fun x => GoodLoop x.1.1 x.1.2.1, f := fun x => ((if 512 < List.length (α := AA) x.2.1 then 8 else arcsE x.1.1 x.1.2.1 0 x.2.1), ()) }
def ckAnnR (T : List Int) (g : Int) (arcs : List AA) : LoopAnn := { σ := Nat × Int, pat := fun s => [sI 7 s.1, sI 6 s.2], inv := fun s => s.1 ≤ arcs.length ∧ arcsE T g 0 arcs = arcsE T g s.2 (arcs.drop s.1), meas := fun s => arcs.length - s.1 }

@[reducible] def sCopyArcs : Spec := { pats := [.dat (.sl ArcT)], res := [{ t := .sl ArcT }], pre := fun x => pCopy (List.length (α := AA) x.1), f := fun x => (x.1, ()) }
end Go.Eng.Lp
