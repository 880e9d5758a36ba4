/- Contracts: the responses of both ears, of the program and of the reference. Conditions: each contract's own. -/
import Derived.Test.YtcoimlnplaidiaaQ59
namespace Go.Eng.Pu
open Go.Eng Go.Proofs
set_option linter.all false
set_option maxRecDepth 100000
set_option maxHeartbeats 8000000

def smp (n : Int) : Bool := fWithin n (-32767) 32767
def smpP (p : IP) : Bool := smp p.1 && smp p.2.1
def erF (ps : List IP) (i : Int) (k : Nat) : Nat := floatOfInt .f32 (prtF ps i k)
def erS (ps : List IP) (i : Int) : F32L := tab (erF ps i) ps.length

abbrev EarT : Ty := .cons RespT (.cons RespT .nil)
def erR (xs : CL) (r : Int) : RespD × RespD × Unit := if lE xs = 0 then (if 8000 ≤ r ∧ r ≤ 192000 then (if (lP xs).all smpP = true then ((r, erS (lP xs) 0, ()), (r, erS (lP xs) 1, ()), ()) else ((0, [], ()), (0, [], ()), ())) else ((0, [], ()), (0, [], ()), ())) else ((0, [], ()), (0, [], ()), ())
def erE (xs : CL) (r : Int) : Int := if lE xs = 0 then (if 8000 ≤ r ∧ r ≤ 192000 then (if (lP xs).all smpP = true then 0 else 8) else 2) else lE xs

@[reducible] def sEars : Spec := { pats := [.dat (.sl C64), .dat I64], res := [{ t := EarT }, { t := I64 }], pre := fun _ => True, f := fun x => (erR x.1 x.2.1, erE x.1 x.2.1, ()) }

/-- The first k numbers are small. -/
def erK (ps : List IP) (k : Nat) : Prop := ∀ j, j < k → smpP (ps.getD j (0, 0, ())) = true

theorem erK_all {ps : List IP} (h : erK ps ps.length) : ps.all smpP = true := by
  rw [List.all_eq_true]
  intro p hp
  obtain ⟨j, hj, e⟩ := List.mem_iff_getElem.1 hp
  have := h j hj
  simp only [List.getD, List.getElem?_eq_getElem hj, Option.getD_some] at this
  rw [← e]; exact this
theorem erK_no {ps : List IP} {k : Nat} (hk : k < ps.length) (h : smpP (ps.getD k (0, 0, ())) = false) : ps.all smpP = false := by
  rw [List.all_eq_false]
  refine ⟨ps[k], List.getElem_mem hk, ?_⟩
  simp only [List.getD, List.getElem?_eq_getElem hk, Option.getD_some] at h
  rw [h]; exact Bool.false_ne_true

theorem pSm : pSmall 32767 := by decide

/-- Ears -/
theorem h55 : Ok 55 sEars := by
  refine mk (ctr := [(91, sRecdD), (86, sWithin), (85, sUnless), (84, sFirst), (118, sSmall)]) ⟨h91d, h86, h85, h84, h118, trivial⟩ (nt := 70) Try.func55 rfl rfl rfl rfl (by kernel_rfl) (by kernel_rfl) (fun x => [fun _ => { σ := Nat, pat := fun k => [sI 33 k, .cell 8 0 (.d I64 x.2.1), .cell 8 1 (.o 60081 k), .cell 8 2 (.d I64 x.2.1), .cell 8 3 (.o 60083 k), .row 60081 112 F32 (tab (erF (lP x.1) 0) k), .row 60083 112 F32 (tab (erF (lP x.1) 1) k)], inv := fun k => k ≤ List.length (α := IP) (lP x.1) ∧ erK (lP x.1) k, meas := fun k => List.length (α := IP) (lP x.1) - k }]) ?_
  rintro ⟨(xs : CL), (r : Int), _⟩ _
  have hpl := pLen2
  have hps := pSm
  by_cases h : lE xs = 0
  · have hl := lP_len h
    have hl2 := (lE_ok h).2.1
    by_cases hr : 8000 ≤ r ∧ r ≤ 192000
    · have hw : fWithin r 8000 192000 = true := decide_eq_true hr
      have hfi : firstI [0, bif fWithin r 8000 192000 then 0 else 2] = 0 := by rw [hw]; rfl
      have u : erE xs r = if (lP xs).all smpP = true then 0 else 8 := by unfold erE; rw [if_pos h, if_pos hr]
      have v : erR xs r = if (lP xs).all smpP = true then ((r, erS (lP xs) 0, ()), (r, erS (lP xs) 1, ()), ()) else ((0, [], ()), (0, [], ()), ()) := by unfold erR; rw [if_pos h, if_pos hr]
      repeat' (intro hzz; (try (rename Two => hq; cases hq)); (try dsimp only at hzz); (try simp only [resTy, argTy, eqD, inR, big, wantOf, Bool.not_true, Bool.not_false, Bool.true_eq, decide_eq_true_eq, decide_eq_false_iff_not, Bool.not_eq_true', Bool.not_eq_false', Bool.and_eq_true, Prod.mk.injEq, and_true, true_and, Int.not_lt, Int.not_le, gt_iff_lt, ge_iff_le] at hzz); (try simp only [resTy, argTy, eqD, inR, big, wantOf, Bool.not_true, Bool.not_false, Bool.true_eq, decide_eq_true_eq, decide_eq_false_iff_not, Bool.not_eq_true', Bool.not_eq_false', Bool.and_eq_true, Prod.mk.injEq, and_true, true_and, Int.not_lt, Int.not_le, gt_iff_lt, ge_iff_le, h, hfi] at hzz); (try (first | contradiction | (exfalso; omega))); (try (revert hzz; intro _)))
      all_goals try (rename Unit => hq; clear hq)
      all_goals try ((with_reducible refine Held.mk ?_); (with_reducible (first | refine Frz.mk ?_ | refine And.intro (Frz.mk ?_) ?_ | refine And.intro ?_ (Frz.mk ?_))); repeat' first | exact True.intro | (change _ = _; with_reducible rfl) | refine And.intro ?_ ?_ | (with_reducible refine Frz.mk ?_))
      all_goals try (refine Held.mk ?_; (try dsimp only at *); (try simp only [resTy, argTy, eqD, inR, big, wantOf, Bool.not_true, Bool.not_false, Bool.true_eq, decide_eq_true_eq, decide_eq_false_iff_not, Bool.not_eq_true', Bool.not_eq_false', Bool.and_eq_true, Prod.mk.injEq, and_true, true_and, Int.not_lt, Int.not_le, gt_iff_lt, ge_iff_le] at *); (try simp only [resTy, argTy, eqD, inR, big, wantOf, Bool.not_true, Bool.not_false, Bool.true_eq, decide_eq_true_eq, decide_eq_false_iff_not, Bool.not_eq_true', Bool.not_eq_false', Bool.and_eq_true, Prod.mk.injEq, and_true, true_and, Int.not_lt, Int.not_le, gt_iff_lt, ge_iff_le, h, hfi] at *))
      all_goals try omega
      · 
        refine GHeld.mk ?_
        refine Exists.intro 0 ?_
        refine And.intro (Leaf.mk ?_) ?_
        · repeat' first | exact True.intro | refine And.intro ?_ ?_
          all_goals try ((change _ = _ <;> try dsimp only) <;> try with_reducible rfl)
          all_goals try omega
          all_goals (rfl)
        exact ⟨Nat.zero_le _, fun j hj => by omega⟩
      · rename_i k hk hlt q1 q2
        have hf := erK_no (ps := lP xs) (k := k) (by omega) (by unfold smpP smp; rw [show fWithin ((lP xs).getD k (0, 0, ())).2.1 (-32767) 32767 = false from decide_eq_false q2, Bool.and_false])
        rw [u, v, hf]; exact ⟨⟨⟨rfl, rfl⟩, rfl, rfl⟩, rfl⟩
      · rename_i k hk hlt q1 q2
        rw [tab_len]; exact ⟨rfl, by show k + 1 ≤ 2147483648; omega⟩
      · rename_i k hk hlt q1 q2
        rw [tab_len]; exact ⟨rfl, by show k + 1 ≤ 2147483648; omega⟩
      · rename_i k hk hlt q1 q2
        refine GHeld.mk ?_
        refine Exists.intro (k + 1) ?_
        refine And.intro (Leaf.mk ?_) ?_
        · repeat' first | exact True.intro | refine And.intro ?_ ?_
          all_goals try ((change _ = _ <;> try dsimp only) <;> try with_reducible rfl)
          all_goals try omega
          all_goals (first | exact tab_len _ (k + 1) | rfl)
        refine ⟨⟨by show k + 1 ≤ (lP xs).length; omega, fun j hj => ?_⟩, by show (lP xs).length - (k + 1) < (lP xs).length - k; omega⟩
        by_cases e : j = k
        · rw [e]; unfold smpP smp
          rw [show fWithin ((lP xs).getD k (0, 0, ())).1 (-32767) 32767 = true from decide_eq_true q1, show fWithin ((lP xs).getD k (0, 0, ())).2.1 (-32767) 32767 = true from decide_eq_true q2]; rfl
        · exact hk.2 j (by omega)
      · rename_i k hk hlt q1
        have hf := erK_no (ps := lP xs) (k := k) (by omega) (by unfold smpP smp; rw [show fWithin ((lP xs).getD k (0, 0, ())).1 (-32767) 32767 = false from decide_eq_false q1, Bool.false_and])
        rw [u, v, hf]; exact ⟨⟨⟨rfl, rfl⟩, rfl, rfl⟩, rfl⟩
      all_goals try exact (tab_len _ _).symm
      · rename_i k hk hge
        have hf := erK_all (ps := lP xs) (by rw [show (lP xs).length = k by omega]; exact hk.2)
        rw [u, v, hf, show k = (lP xs).length by omega]; exact ⟨⟨⟨rfl, rfl⟩, rfl, rfl⟩, rfl⟩
    · have hw : fWithin r 8000 192000 = false := decide_eq_false hr
      have hfi : firstI [0, bif fWithin r 8000 192000 then 0 else 2] = 2 := by rw [hw]; rfl
      have u : erE xs r = 2 := by unfold erE; rw [if_pos h, if_neg hr]
      have v : erR xs r = ((0, [], ()), (0, [], ()), ()) := by unfold erR; rw [if_pos h, if_neg hr]
      repeat' (intro hzz; (try (rename Two => hq; cases hq)); (try dsimp only at hzz); (try simp only [resTy, argTy, eqD, inR, big, wantOf, Bool.not_true, Bool.not_false, Bool.true_eq, decide_eq_true_eq, decide_eq_false_iff_not, Bool.not_eq_true', Bool.not_eq_false', Bool.and_eq_true, Prod.mk.injEq, and_true, true_and, Int.not_lt, Int.not_le, gt_iff_lt, ge_iff_le] at hzz); (try simp only [resTy, argTy, eqD, inR, big, wantOf, Bool.not_true, Bool.not_false, Bool.true_eq, decide_eq_true_eq, decide_eq_false_iff_not, Bool.not_eq_true', Bool.not_eq_false', Bool.and_eq_true, Prod.mk.injEq, and_true, true_and, Int.not_lt, Int.not_le, gt_iff_lt, ge_iff_le, h, hfi, u, v] at hzz); (try (first | contradiction | (exfalso; omega))); (try (revert hzz; intro _)))
      all_goals try (rename Unit => hq; clear hq)
      all_goals try ((with_reducible refine Held.mk ?_); (with_reducible (first | refine Frz.mk ?_ | refine And.intro (Frz.mk ?_) ?_ | refine And.intro ?_ (Frz.mk ?_))); repeat' first | exact True.intro | (change _ = _; with_reducible rfl) | refine And.intro ?_ ?_ | (with_reducible refine Frz.mk ?_))
      all_goals try (refine Held.mk ?_; (try dsimp only at *); (try simp only [resTy, argTy, eqD, inR, big, wantOf, Bool.not_true, Bool.not_false, Bool.true_eq, decide_eq_true_eq, decide_eq_false_iff_not, Bool.not_eq_true', Bool.not_eq_false', Bool.and_eq_true, Prod.mk.injEq, and_true, true_and, Int.not_lt, Int.not_le, gt_iff_lt, ge_iff_le] at *); (try simp only [resTy, argTy, eqD, inR, big, wantOf, Bool.not_true, Bool.not_false, Bool.true_eq, decide_eq_true_eq, decide_eq_false_iff_not, Bool.not_eq_true', Bool.not_eq_false', Bool.and_eq_true, Prod.mk.injEq, and_true, true_and, Int.not_lt, Int.not_le, gt_iff_lt, ge_iff_le, h, hfi, u, v] at *))
      all_goals try omega
  · have hfi : ∀ e, firstI [lE xs, e] = lE xs := fun e => by simp [firstI, h]
    have u : erE xs r = lE xs := by unfold erE; rw [if_neg h]
    have v : erR xs r = ((0, [], ()), (0, [], ()), ()) := by unfold erR; rw [if_neg h]
    repeat' (intro hzz; (try (rename Two => hq; cases hq)); (try dsimp only at hzz); (try simp only [resTy, argTy, eqD, inR, big, wantOf, Bool.not_true, Bool.not_false, Bool.true_eq, decide_eq_true_eq, decide_eq_false_iff_not, Bool.not_eq_true', Bool.not_eq_false', Bool.and_eq_true, Prod.mk.injEq, and_true, true_and, Int.not_lt, Int.not_le, gt_iff_lt, ge_iff_le] at hzz); (try simp only [resTy, argTy, eqD, inR, big, wantOf, Bool.not_true, Bool.not_false, Bool.true_eq, decide_eq_true_eq, decide_eq_false_iff_not, Bool.not_eq_true', Bool.not_eq_false', Bool.and_eq_true, Prod.mk.injEq, and_true, true_and, Int.not_lt, Int.not_le, gt_iff_lt, ge_iff_le, hfi, u, v] at hzz); (try (first | contradiction | (exfalso; omega))); (try (revert hzz; intro _)))
    all_goals try (rename Unit => hq; clear hq)
    all_goals try ((with_reducible refine Held.mk ?_); (with_reducible (first | refine Frz.mk ?_ | refine And.intro (Frz.mk ?_) ?_ | refine And.intro ?_ (Frz.mk ?_))); repeat' first | exact True.intro | (change _ = _; with_reducible rfl) | refine And.intro ?_ ?_ | (with_reducible refine Frz.mk ?_))
    all_goals try (refine Held.mk ?_; (try dsimp only at *); (try simp only [resTy, argTy, eqD, inR, big, wantOf, Bool.not_true, Bool.not_false, Bool.true_eq, decide_eq_true_eq, decide_eq_false_iff_not, Bool.not_eq_true', Bool.not_eq_false', Bool.and_eq_true, Prod.mk.injEq, and_true, true_and, Int.not_lt, Int.not_le, gt_iff_lt, ge_iff_le] at *); (try simp only [resTy, argTy, eqD, inR, big, wantOf, Bool.not_true, Bool.not_false, Bool.true_eq, decide_eq_true_eq, decide_eq_false_iff_not, Bool.not_eq_true', Bool.not_eq_false', Bool.and_eq_true, Prod.mk.injEq, and_true, true_and, Int.not_lt, Int.not_le, gt_iff_lt, ge_iff_le, hfi, u, v] at *))
    all_goals try omega

@[reducible] def sRngS : Spec := { pats := [.dat (.sl I64), .dat I64], res := [{ t := I64 }], pre := fun x => List.length (α := Int) x.1 ≤ 2000000000 ∧ x.2.1 = (32767 : Int), f := fun x => ((bif List.all (α := Int) x.1 smp then 0 else 2 : Int), ()) }

/-- ref.rangeErr, for samples -/
theorem h105s : Ok 105 sRngS := by
  refine mk (ctr := [(25, sWithin)]) ⟨h25, trivial⟩ (nt := 21) Try.func105 rfl rfl rfl rfl (by kernel_rfl) (by kernel_rfl) (fun x => [fun _ => { σ := Nat, pat := fun k => [sI 5 k], inv := fun k => k ≤ List.length (α := Int) x.1 ∧ ∀ j, j < k → smp (List.getD (α := Int) x.1 j 0) = true, meas := fun k => List.length (α := Int) x.1 - k }]) ?_
  rintro ⟨(xs : List Int), (b : Int), _⟩ ⟨(h1 : xs.length ≤ 2000000000), (h2 : b = 32767)⟩
  subst h2
  repeat' (intro hzz; (try (rename Two => hq; cases hq)); (try dsimp only at hzz); (try simp only [resTy, argTy, eqD, inR, big, wantOf, Bool.not_true, Bool.not_false, Bool.true_eq, decide_eq_true_eq, decide_eq_false_iff_not, Bool.not_eq_true', Bool.not_eq_false', Bool.and_eq_true, Prod.mk.injEq, and_true, true_and, Int.not_lt, Int.not_le, gt_iff_lt, ge_iff_le] at hzz); (try simp only [resTy, argTy, eqD, inR, big, wantOf, Bool.not_true, Bool.not_false, Bool.true_eq, decide_eq_true_eq, decide_eq_false_iff_not, Bool.not_eq_true', Bool.not_eq_false', Bool.and_eq_true, Prod.mk.injEq, and_true, true_and, Int.not_lt, Int.not_le, gt_iff_lt, ge_iff_le, getD_i, fWithin] at hzz); (try (first | contradiction | (exfalso; omega))); (try (revert hzz; intro _)))
  all_goals try (rename Unit => hq; clear hq)
  all_goals try ((with_reducible refine Held.mk ?_); (with_reducible (first | refine Frz.mk ?_ | refine And.intro (Frz.mk ?_) ?_ | refine And.intro ?_ (Frz.mk ?_))); repeat' first | exact True.intro | (change _ = _; with_reducible rfl) | refine And.intro ?_ ?_ | (with_reducible refine Frz.mk ?_))
  all_goals try (refine Held.mk ?_; (try dsimp only at *); (try simp only [resTy, argTy, eqD, inR, big, wantOf, Bool.not_true, Bool.not_false, Bool.true_eq, decide_eq_true_eq, decide_eq_false_iff_not, Bool.not_eq_true', Bool.not_eq_false', Bool.and_eq_true, Prod.mk.injEq, and_true, true_and, Int.not_lt, Int.not_le, gt_iff_lt, ge_iff_le] at *); (try simp only [resTy, argTy, eqD, inR, big, wantOf, Bool.not_true, Bool.not_false, Bool.true_eq, decide_eq_true_eq, decide_eq_false_iff_not, Bool.not_eq_true', Bool.not_eq_false', Bool.and_eq_true, Prod.mk.injEq, and_true, true_and, Int.not_lt, Int.not_le, gt_iff_lt, ge_iff_le, getD_i, fWithin] at *))
  all_goals try omega
  · 
    refine GHeld.mk ?_
    refine Exists.intro 0 ?_
    refine And.intro (Leaf.mk ?_) ?_
    · repeat' first | exact True.intro | refine And.intro ?_ ?_
      all_goals try ((change _ = _ <;> try dsimp only) <;> try with_reducible rfl)
      all_goals try omega
    exact ⟨Nat.zero_le _, fun j hj => by omega⟩
  · rename_i k hk hg h
    have : xs.all smp = false := by
      rw [List.all_eq_false]
      refine ⟨xs.getD k 0, ?_, by unfold smp; rw [show fWithin (xs.getD k 0) (-32767) 32767 = false from decide_eq_false h]; exact Bool.false_ne_true⟩
      simp only [List.getD, List.getElem?_eq_getElem (show k < xs.length by omega), Option.getD_some]
      exact List.getElem_mem _
    rw [this]; rfl
  · rename_i k hk hg h
    refine GHeld.mk ?_
    refine Exists.intro (k + 1) ?_
    refine And.intro (Leaf.mk ?_) ?_
    · repeat' first | exact True.intro | refine And.intro ?_ ?_
      all_goals try ((change _ = _ <;> try dsimp only) <;> try with_reducible rfl)
      all_goals try omega
    refine ⟨⟨by show k + 1 ≤ xs.length; omega, fun j hj => ?_⟩, by show xs.length - (k + 1) < xs.length - k; omega⟩
    by_cases e : j = k
    · rw [e]; exact decide_eq_true h
    · exact hk.2 j (by omega)
  · rename_i k hk hg
    have : xs.all smp = true := by
      rw [List.all_eq_true]
      intro x hx
      obtain ⟨j, hj, e⟩ := List.mem_iff_getElem.1 hx
      have := hk.2 j (by omega)
      simp only [List.getD, List.getElem?_eq_getElem hj, Option.getD_some] at this
      rw [← e]; exact this
    rw [this]; rfl

theorem prt_all (ps : List IP) : ps.all smpP = ((prtL ps 0).all smp && (prtL ps 1).all smp) := by
  by_cases h : erK ps ps.length
  · rw [erK_all h]
    have key : ∀ i : Int, (i = 0 ∨ i = 1) → (prtL ps i).all smp = true := fun i hi => by
      rw [List.all_eq_true]
      intro x hx
      obtain ⟨j, hj, rfl⟩ := tab_mem' hx
      have hk := h j hj
      have hk : (smp (ps.getD j (0, 0, ())).1 && smp (ps.getD j (0, 0, ())).2.1) = true := hk
      rw [Bool.and_eq_true] at hk
      rcases hi with rfl | rfl
      · exact hk.1
      · exact hk.2
    rw [key 0 (.inl rfl), key 1 (.inr rfl)]; rfl
  · have : ∃ j, j < ps.length ∧ smpP (ps.getD j (0, 0, ())) = false := by
      by_cases hx : ∃ j, j < ps.length ∧ smpP (ps.getD j (0, 0, ())) = false
      · exact hx
      · exact absurd (fun j hj => by
          cases hs : smpP (ps.getD j (0, 0, ())) with
          | true => rfl
          | false => exact absurd ⟨j, hj, hs⟩ hx) h
    obtain ⟨j, hj, hs⟩ := this
    rw [erK_no hj hs]
    have hs : (smp (ps.getD j (0, 0, ())).1 && smp (ps.getD j (0, 0, ())).2.1) = false := hs
    have no : ∀ i : Int, smp (prtF ps i j) = false → (prtL ps i).all smp = false := fun i h => by
      rw [List.all_eq_false]
      exact ⟨_, mem_tab' hj, by rw [h]; exact Bool.false_ne_true⟩
    cases h1 : smp (ps.getD j (0, 0, ())).1 with
    | false => rw [no 0 h1]; rfl
    | true =>
      rw [h1, Bool.true_and] at hs
      rw [no 1 hs, Bool.and_false]

/-- The cells of the responses when the loops have come to i and k. -/
def erPat (r : Int) (ps : List IP) (k : Nat) : Int → St
  | .ofNat 0 => [.cell 6 0 (.d I64 r), .cell 6 1 (.o 60061 k), .cell 6 2 (.d I64 (0 : Int)), .cell 6 3 (.v (.slice none 0 0)), .row 60061 112 F32 (tab (erF ps 0) k)]
  | _ => [.cell 6 0 (.d I64 r), .cell 6 1 (.o 60061 ps.length), .cell 6 2 (.d I64 r), .cell 6 3 (.o 60063 k), .row 60063 112 F32 (tab (erF ps 1) k)]

/-- ref.Ears -/
theorem h56 : Ok 56 sEars := by
  refine mkU (X := xU3) (unr := [0]) (hX := xU3_ok) (ctr := [(76, sListE), (25, sWithin), (99, sPairs), (125, sPrt), (105, sRngS)]) ⟨h76n, h25, h99n, h125, h105s, trivial⟩ (nt := 60) Try.func56 rfl rfl rfl rfl (by kernel_rfl) (by kernel_rfl) (fun x => [fun _ => { σ := Nat, pat := fun _ => [], inv := fun _ => True, meas := fun _ => 0 }, fun st => withI 9 st fun i => { σ := Nat, pat := fun k => sI 11 k :: erPat x.2.1 (lP x.1) k i, inv := fun k => k ≤ List.length (α := IP) (lP x.1), meas := fun k => List.length (α := IP) (lP x.1) - k }]) ?_
  rintro ⟨(xs : CL), (r : Int), _⟩ _
  by_cases h : lE xs = 0
  · have hl := lP_len h
    have hl2 := (lE_ok h).2.1
    by_cases hr : 8000 ≤ r ∧ r ≤ 192000
    · have hw : fWithin r 8000 192000 = true := decide_eq_true hr
      have u : erE xs r = if (lP xs).all smpP = true then 0 else 8 := by unfold erE; rw [if_pos h, if_pos hr]
      have v : erR xs r = if (lP xs).all smpP = true then ((r, erS (lP xs) 0, ()), (r, erS (lP xs) 1, ()), ()) else ((0, [], ()), (0, [], ()), ()) := by unfold erR; rw [if_pos h, if_pos hr]
      cases h0 : (prtL (lP xs) 0).all smp with
      | false =>
        have hf : (lP xs).all smpP = false := by rw [prt_all, h0]; rfl
        have u2 : erE xs r = 8 := by rw [u, hf]; rfl
        have v2 : erR xs r = ((0, [], ()), (0, [], ()), ()) := by rw [v, hf]; rfl
        repeat' (intro hzz; (try (rename Two => hq; cases hq)); (try dsimp only at hzz); (try simp only [resTy, argTy, eqD, inR, big, wantOf, Bool.not_true, Bool.not_false, Bool.true_eq, decide_eq_true_eq, decide_eq_false_iff_not, Bool.not_eq_true', Bool.not_eq_false', Bool.and_eq_true, Prod.mk.injEq, and_true, true_and, Int.not_lt, Int.not_le, gt_iff_lt, ge_iff_le] at hzz); (try simp only [resTy, argTy, eqD, inR, big, wantOf, Bool.not_true, Bool.not_false, Bool.true_eq, decide_eq_true_eq, decide_eq_false_iff_not, Bool.not_eq_true', Bool.not_eq_false', Bool.and_eq_true, Prod.mk.injEq, and_true, true_and, Int.not_lt, Int.not_le, gt_iff_lt, ge_iff_le, h, hw, h0, cond_false, u2, v2, prtL_len] at hzz); (try (first | contradiction | (exfalso; omega))); (try (revert hzz; intro _)))
        all_goals try (rename Unit => hq; clear hq)
        all_goals try ((with_reducible refine Held.mk ?_); (with_reducible (first | refine Frz.mk ?_ | refine And.intro (Frz.mk ?_) ?_ | refine And.intro ?_ (Frz.mk ?_))); repeat' first | exact True.intro | (change _ = _; with_reducible rfl) | refine And.intro ?_ ?_ | (with_reducible refine Frz.mk ?_))
        all_goals try (refine Held.mk ?_; (try dsimp only at *); (try simp only [resTy, argTy, eqD, inR, big, wantOf, Bool.not_true, Bool.not_false, Bool.true_eq, decide_eq_true_eq, decide_eq_false_iff_not, Bool.not_eq_true', Bool.not_eq_false', Bool.and_eq_true, Prod.mk.injEq, and_true, true_and, Int.not_lt, Int.not_le, gt_iff_lt, ge_iff_le] at *); (try simp only [resTy, argTy, eqD, inR, big, wantOf, Bool.not_true, Bool.not_false, Bool.true_eq, decide_eq_true_eq, decide_eq_false_iff_not, Bool.not_eq_true', Bool.not_eq_false', Bool.and_eq_true, Prod.mk.injEq, and_true, true_and, Int.not_lt, Int.not_le, gt_iff_lt, ge_iff_le, h, hw, h0, cond_false, u2, v2, prtL_len] at *))
        all_goals try omega
        · exact ⟨by omega, .inl True.intro⟩
      | true =>
        have hne : (prtL (lP xs) 0).all smp = true := h0
        cases h1 : (prtL (lP xs) 1).all smp with
        | false =>
          have hf : (lP xs).all smpP = false := by rw [prt_all, h1, Bool.and_false]
          have u2 : erE xs r = 8 := by rw [u, hf]; rfl
          have v2 : erR xs r = ((0, [], ()), (0, [], ()), ()) := by rw [v, hf]; rfl
          have h1' : (prtL (lP xs) (0 + 1)).all smp = false := h1
          repeat' (intro hzz; (try (rename Two => hq; cases hq)); (try dsimp only at hzz); (try simp only [resTy, argTy, eqD, inR, big, wantOf, Bool.not_true, Bool.not_false, Bool.true_eq, decide_eq_true_eq, decide_eq_false_iff_not, Bool.not_eq_true', Bool.not_eq_false', Bool.and_eq_true, Prod.mk.injEq, and_true, true_and, Int.not_lt, Int.not_le, gt_iff_lt, ge_iff_le] at hzz); (try simp only [resTy, argTy, eqD, inR, big, wantOf, Bool.not_true, Bool.not_false, Bool.true_eq, decide_eq_true_eq, decide_eq_false_iff_not, Bool.not_eq_true', Bool.not_eq_false', Bool.and_eq_true, Prod.mk.injEq, and_true, true_and, Int.not_lt, Int.not_le, gt_iff_lt, ge_iff_le, h, hw, h0, h1', cond_true, cond_false, u2, v2, prtL_len] at hzz); (try (first | contradiction | (exfalso; omega))); (try (revert hzz; intro _)))
          all_goals try (rename Unit => hq; clear hq)
          all_goals try ((with_reducible refine Held.mk ?_); (with_reducible (first | refine Frz.mk ?_ | refine And.intro (Frz.mk ?_) ?_ | refine And.intro ?_ (Frz.mk ?_))); repeat' first | exact True.intro | (change _ = _; with_reducible rfl) | refine And.intro ?_ ?_ | (with_reducible refine Frz.mk ?_))
          all_goals try (refine Held.mk ?_; (try dsimp only at *); (try simp only [resTy, argTy, eqD, inR, big, wantOf, Bool.not_true, Bool.not_false, Bool.true_eq, decide_eq_true_eq, decide_eq_false_iff_not, Bool.not_eq_true', Bool.not_eq_false', Bool.and_eq_true, Prod.mk.injEq, and_true, true_and, Int.not_lt, Int.not_le, gt_iff_lt, ge_iff_le] at *); (try simp only [resTy, argTy, eqD, inR, big, wantOf, Bool.not_true, Bool.not_false, Bool.true_eq, decide_eq_true_eq, decide_eq_false_iff_not, Bool.not_eq_true', Bool.not_eq_false', Bool.and_eq_true, Prod.mk.injEq, and_true, true_and, Int.not_lt, Int.not_le, gt_iff_lt, ge_iff_le, h, hw, h0, h1', cond_true, cond_false, u2, v2, prtL_len] at *))
          all_goals try omega
          · exact ⟨by omega, .inl True.intro⟩
          · 
            refine GHeld.mk ?_
            refine Exists.intro 0 ?_
            refine And.intro (Leaf.mk ?_) ?_
            · repeat' first | exact True.intro | refine And.intro ?_ ?_
              all_goals try ((change _ = _ <;> try dsimp only) <;> try with_reducible rfl)
              all_goals try omega
              all_goals (rfl)
            exact Nat.zero_le _
          · rename_i k hk hlt _
            rw [tab_len]; exact ⟨rfl, by show k + 1 ≤ 2147483648; omega⟩
          · rename_i k hk hlt
            have e : tab (erF (lP xs) 0) k ++ [floatOfInt .f32 ((prtL (lP xs) 0).getD k 0)] = tab (erF (lP xs) 0) (k + 1) := by
              unfold prtL; rw [tab_get _ _ _ _ (by omega)]; rfl
            refine GHeld.mk ?_
            refine Exists.intro (k + 1) ?_
            refine And.intro (Leaf.mk ?_) ?_
            · repeat' first | exact True.intro | refine And.intro ?_ ?_
              all_goals try ((change _ = _ <;> try dsimp only) <;> try with_reducible rfl)
              all_goals try omega
              all_goals (first | exact tab_len _ (k + 1) | exact e | exact (congrArg List.length e).trans (tab_len _ _) | rfl)
            exact ⟨by show k + 1 ≤ (lP xs).length; omega, by show (lP xs).length - (k + 1) < (lP xs).length - k; omega⟩
          · exact ⟨by omega, .inr (by decide)⟩
        | true =>
          have hf : (lP xs).all smpP = true := by rw [prt_all, h0, h1]; rfl
          have u2 : erE xs r = 0 := by rw [u, hf]; rfl
          have v2 : erR xs r = ((r, erS (lP xs) 0, ()), (r, erS (lP xs) 1, ()), ()) := by rw [v, hf]; rfl
          have h1' : (prtL (lP xs) (0 + 1)).all smp = true := h1
          repeat' (intro hzz; (try (rename Two => hq; cases hq)); (try dsimp only at hzz); (try simp only [resTy, argTy, eqD, inR, big, wantOf, Bool.not_true, Bool.not_false, Bool.true_eq, decide_eq_true_eq, decide_eq_false_iff_not, Bool.not_eq_true', Bool.not_eq_false', Bool.and_eq_true, Prod.mk.injEq, and_true, true_and, Int.not_lt, Int.not_le, gt_iff_lt, ge_iff_le] at hzz); (try simp only [resTy, argTy, eqD, inR, big, wantOf, Bool.not_true, Bool.not_false, Bool.true_eq, decide_eq_true_eq, decide_eq_false_iff_not, Bool.not_eq_true', Bool.not_eq_false', Bool.and_eq_true, Prod.mk.injEq, and_true, true_and, Int.not_lt, Int.not_le, gt_iff_lt, ge_iff_le, h, hw, h0, h1', cond_true, prtL_len] at hzz); (try (first | contradiction | (exfalso; omega))); (try (revert hzz; intro _)))
          all_goals try (rename Unit => hq; clear hq)
          all_goals try ((with_reducible refine Held.mk ?_); (with_reducible (first | refine Frz.mk ?_ | refine And.intro (Frz.mk ?_) ?_ | refine And.intro ?_ (Frz.mk ?_))); repeat' first | exact True.intro | (change _ = _; with_reducible rfl) | refine And.intro ?_ ?_ | (with_reducible refine Frz.mk ?_))
          all_goals try (refine Held.mk ?_; (try dsimp only at *); (try simp only [resTy, argTy, eqD, inR, big, wantOf, Bool.not_true, Bool.not_false, Bool.true_eq, decide_eq_true_eq, decide_eq_false_iff_not, Bool.not_eq_true', Bool.not_eq_false', Bool.and_eq_true, Prod.mk.injEq, and_true, true_and, Int.not_lt, Int.not_le, gt_iff_lt, ge_iff_le] at *); (try simp only [resTy, argTy, eqD, inR, big, wantOf, Bool.not_true, Bool.not_false, Bool.true_eq, decide_eq_true_eq, decide_eq_false_iff_not, Bool.not_eq_true', Bool.not_eq_false', Bool.and_eq_true, Prod.mk.injEq, and_true, true_and, Int.not_lt, Int.not_le, gt_iff_lt, ge_iff_le, h, hw, h0, h1', cond_true, prtL_len] at *))
          all_goals try omega
          · exact ⟨by omega, .inl True.intro⟩
          · 
            refine GHeld.mk ?_
            refine Exists.intro 0 ?_
            refine And.intro (Leaf.mk ?_) ?_
            · repeat' first | exact True.intro | refine And.intro ?_ ?_
              all_goals try ((change _ = _ <;> try dsimp only) <;> try with_reducible rfl)
              all_goals try omega
              all_goals (rfl)
            exact Nat.zero_le _
          · rename_i k hk hlt _
            rw [tab_len]; exact ⟨rfl, by show k + 1 ≤ 2147483648; omega⟩
          · rename_i k hk hlt
            have e : tab (erF (lP xs) 0) k ++ [floatOfInt .f32 ((prtL (lP xs) 0).getD k 0)] = tab (erF (lP xs) 0) (k + 1) := by
              unfold prtL; rw [tab_get _ _ _ _ (by omega)]; rfl
            refine GHeld.mk ?_
            refine Exists.intro (k + 1) ?_
            refine And.intro (Leaf.mk ?_) ?_
            · repeat' first | exact True.intro | refine And.intro ?_ ?_
              all_goals try ((change _ = _ <;> try dsimp only) <;> try with_reducible rfl)
              all_goals try omega
              all_goals (first | exact tab_len _ (k + 1) | exact e | exact (congrArg List.length e).trans (tab_len _ _) | rfl)
            exact ⟨by show k + 1 ≤ (lP xs).length; omega, by show (lP xs).length - (k + 1) < (lP xs).length - k; omega⟩
          · exact ⟨by omega, .inr (by decide)⟩
          · 
            refine GHeld.mk ?_
            refine Exists.intro 0 ?_
            refine And.intro (Leaf.mk ?_) ?_
            · repeat' first | exact True.intro | refine And.intro ?_ ?_
              all_goals try ((change _ = _ <;> try dsimp only) <;> try with_reducible rfl)
              all_goals try omega
              all_goals (first | rfl | omega)
            exact Nat.zero_le _
          · rename_i k hk hlt _
            rw [tab_len]; exact ⟨rfl, by show k + 1 ≤ 2147483648; omega⟩
          · rename_i k hk hlt
            have e : tab (erF (lP xs) 1) k ++ [floatOfInt .f32 ((prtL (lP xs) 1).getD k 0)] = tab (erF (lP xs) 1) (k + 1) := by
              unfold prtL; rw [tab_get _ _ _ _ (by omega)]; rfl
            refine GHeld.mk ?_
            refine Exists.intro (k + 1) ?_
            refine And.intro (Leaf.mk ?_) ?_
            · repeat' first | exact True.intro | refine And.intro ?_ ?_
              all_goals try ((change _ = _ <;> try dsimp only) <;> try with_reducible rfl)
              all_goals try omega
              all_goals (first | exact tab_len _ (k + 1) | exact e | exact (congrArg List.length e).trans (tab_len _ _) | rfl)
            exact ⟨by show k + 1 ≤ (lP xs).length; omega, by show (lP xs).length - (k + 1) < (lP xs).length - k; omega⟩
          all_goals try exact (tab_len _ _).symm
          · rename_i c hc hge _ _ k hk hkg _
            exact (show (lP xs).length = c by omega).trans (tab_len _ _).symm
          · rename_i c hc hge _ _ k hk hkg _
            exact (show (lP xs).length = c by omega).trans (tab_len _ _).symm
          · rename_i c hc hge _ _ k hk hkg _
            exact (show (lP xs).length = c by omega).trans (tab_len _ _).symm
          · rename_i c hc hge _ _ k hk hkg _ _
            rw [v2, u2, show c = (lP xs).length by omega, show k = (lP xs).length by omega]; exact ⟨⟨⟨rfl, rfl⟩, rfl, rfl⟩, rfl⟩
    · have hw : fWithin r 8000 192000 = false := decide_eq_false hr
      have u : erE xs r = 2 := by unfold erE; rw [if_pos h, if_neg hr]
      have v : erR xs r = ((0, [], ()), (0, [], ()), ()) := by unfold erR; rw [if_pos h, if_neg hr]
      repeat' (intro hzz; (try (rename Two => hq; cases hq)); (try dsimp only at hzz); (try simp only [resTy, argTy, eqD, inR, big, wantOf, Bool.not_true, Bool.not_false, Bool.true_eq, decide_eq_true_eq, decide_eq_false_iff_not, Bool.not_eq_true', Bool.not_eq_false', Bool.and_eq_true, Prod.mk.injEq, and_true, true_and, Int.not_lt, Int.not_le, gt_iff_lt, ge_iff_le] at hzz); (try simp only [resTy, argTy, eqD, inR, big, wantOf, Bool.not_true, Bool.not_false, Bool.true_eq, decide_eq_true_eq, decide_eq_false_iff_not, Bool.not_eq_true', Bool.not_eq_false', Bool.and_eq_true, Prod.mk.injEq, and_true, true_and, Int.not_lt, Int.not_le, gt_iff_lt, ge_iff_le, h, hw, u, v] at hzz); (try (first | contradiction | (exfalso; omega))); (try (revert hzz; intro _)))
      all_goals try (rename Unit => hq; clear hq)
      all_goals try ((with_reducible refine Held.mk ?_); (with_reducible (first | refine Frz.mk ?_ | refine And.intro (Frz.mk ?_) ?_ | refine And.intro ?_ (Frz.mk ?_))); repeat' first | exact True.intro | (change _ = _; with_reducible rfl) | refine And.intro ?_ ?_ | (with_reducible refine Frz.mk ?_))
      all_goals try (refine Held.mk ?_; (try dsimp only at *); (try simp only [resTy, argTy, eqD, inR, big, wantOf, Bool.not_true, Bool.not_false, Bool.true_eq, decide_eq_true_eq, decide_eq_false_iff_not, Bool.not_eq_true', Bool.not_eq_false', Bool.and_eq_true, Prod.mk.injEq, and_true, true_and, Int.not_lt, Int.not_le, gt_iff_lt, ge_iff_le] at *); (try simp only [resTy, argTy, eqD, inR, big, wantOf, Bool.not_true, Bool.not_false, Bool.true_eq, decide_eq_true_eq, decide_eq_false_iff_not, Bool.not_eq_true', Bool.not_eq_false', Bool.and_eq_true, Prod.mk.injEq, and_true, true_and, Int.not_lt, Int.not_le, gt_iff_lt, ge_iff_le, h, hw, u, v] at *))
      all_goals try omega
  · have u : erE xs r = lE xs := by unfold erE; rw [if_neg h]
    have v : erR xs r = ((0, [], ()), (0, [], ()), ()) := by unfold erR; rw [if_neg h]
    repeat' (intro hzz; (try (rename Two => hq; cases hq)); (try dsimp only at hzz); (try simp only [resTy, argTy, eqD, inR, big, wantOf, Bool.not_true, Bool.not_false, Bool.true_eq, decide_eq_true_eq, decide_eq_false_iff_not, Bool.not_eq_true', Bool.not_eq_false', Bool.and_eq_true, Prod.mk.injEq, and_true, true_and, Int.not_lt, Int.not_le, gt_iff_lt, ge_iff_le] at hzz); (try simp only [resTy, argTy, eqD, inR, big, wantOf, Bool.not_true, Bool.not_false, Bool.true_eq, decide_eq_true_eq, decide_eq_false_iff_not, Bool.not_eq_true', Bool.not_eq_false', Bool.and_eq_true, Prod.mk.injEq, and_true, true_and, Int.not_lt, Int.not_le, gt_iff_lt, ge_iff_le, u, v] at hzz); (try (first | contradiction | (exfalso; omega))); (try (revert hzz; intro _)))
    all_goals try (rename Unit => hq; clear hq)
    all_goals try ((with_reducible refine Held.mk ?_); (with_reducible (first | refine Frz.mk ?_ | refine And.intro (Frz.mk ?_) ?_ | refine And.intro ?_ (Frz.mk ?_))); repeat' first | exact True.intro | (change _ = _; with_reducible rfl) | refine And.intro ?_ ?_ | (with_reducible refine Frz.mk ?_))
    all_goals try (refine Held.mk ?_; (try dsimp only at *); (try simp only [resTy, argTy, eqD, inR, big, wantOf, Bool.not_true, Bool.not_false, Bool.true_eq, decide_eq_true_eq, decide_eq_false_iff_not, Bool.not_eq_true', Bool.not_eq_false', Bool.and_eq_true, Prod.mk.injEq, and_true, true_and, Int.not_lt, Int.not_le, gt_iff_lt, ge_iff_le] at *); (try simp only [resTy, argTy, eqD, inR, big, wantOf, Bool.not_true, Bool.not_false, Bool.true_eq, decide_eq_true_eq, decide_eq_false_iff_not, Bool.not_eq_true', Bool.not_eq_false', Bool.and_eq_true, Prod.mk.injEq, and_true, true_and, Int.not_lt, Int.not_le, gt_iff_lt, ge_iff_le, u, v] at *))
    all_goals try omega

end Go.Eng.Pu
