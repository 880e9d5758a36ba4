/- Contracts: lists as data, parts. Conditions: each contract's own. -/
import Derived.Test.YtcoimlnplaidiaaDoorQ50
namespace Go.Eng.Pu
open Go.Eng Go.Proofs
set_option linter.all false
set_option maxRecDepth 100000
set_option maxHeartbeats 8000000

@[reducible] def sLess : Spec := { pats := [.dat PairT, .dat PairT], res := [{ t := PairT }], pre := fun x => okI x.1.1 ∧ okI x.1.2.1 ∧ okI x.2.1.1 ∧ okI x.2.1.2.1, f := fun x => ((x.1.1 - x.2.1.1, x.1.2.1 - x.2.1.2.1, ()), ()) }

/-- pair.less -/
theorem h123 : Ok 40 sLess := by
  refine mk (ctr := []) trivial (nt := 16) Tryd.func40 rfl rfl rfl rfl (by kernel_rfl) (by kernel_rfl) (fun _ => []) ?_
  rintro ⟨⟨(a : Int), (b : Int), _⟩, ⟨(c : Int), (d : Int), _⟩, _⟩ ⟨(h1 : okI a), (h2 : okI b), (h3 : okI c), (h4 : okI d)⟩
  repeat' (intro hzz; (try (rename Two => hq; cases hq)); (try dsimp only at hzz); (try simp only [resTy, argTy, eqD, inR, big, wantOf, Bool.not_true, Bool.not_false, Bool.true_eq, decide_eq_true_eq, decide_eq_false_iff_not, Bool.not_eq_true', Bool.not_eq_false', Bool.and_eq_true, Prod.mk.injEq, and_true, true_and, Int.not_lt, Int.not_le, gt_iff_lt, ge_iff_le] at hzz); (try simp only [resTy, argTy, eqD, inR, big, wantOf, Bool.not_true, Bool.not_false, Bool.true_eq, decide_eq_true_eq, decide_eq_false_iff_not, Bool.not_eq_true', Bool.not_eq_false', Bool.and_eq_true, Prod.mk.injEq, and_true, true_and, Int.not_lt, Int.not_le, gt_iff_lt, ge_iff_le, okI] at hzz); (try (revert hzz; intro _)))
  all_goals try (rename Unit => hq; clear hq)
  all_goals try ((with_reducible refine Held.mk ?_); (with_reducible (first | refine Frz.mk ?_ | refine And.intro (Frz.mk ?_) ?_ | refine And.intro ?_ (Frz.mk ?_))); repeat' first | exact True.intro | (change _ = _; with_reducible rfl) | refine And.intro ?_ ?_ | (with_reducible refine Frz.mk ?_))
  all_goals try (refine Held.mk ?_; (try dsimp only at *); (try simp only [resTy, argTy, eqD, inR, big, wantOf, Bool.not_true, Bool.not_false, Bool.true_eq, decide_eq_true_eq, decide_eq_false_iff_not, Bool.not_eq_true', Bool.not_eq_false', Bool.and_eq_true, Prod.mk.injEq, and_true, true_and, Int.not_lt, Int.not_le, gt_iff_lt, ge_iff_le] at *); (try simp only [resTy, argTy, eqD, inR, big, wantOf, Bool.not_true, Bool.not_false, Bool.true_eq, decide_eq_true_eq, decide_eq_false_iff_not, Bool.not_eq_true', Bool.not_eq_false', Bool.and_eq_true, Prod.mk.injEq, and_true, true_and, Int.not_lt, Int.not_le, gt_iff_lt, ge_iff_le, okI] at *))
  all_goals try omega

@[reducible] def sRecdD : Spec := { pats := [.dat (.sl C64)], res := [{ t := .sl PairT }, { t := I64 }], pre := fun _ => True, f := fun x => (lP x.1, lE x.1, ()) }

/-- recorded, as data -/
theorem h91d : Ok 43 sRecdD := by
  refine mkN (X := x0) (hX := x0_ok) (ctr := [(64, sPartE)]) ⟨h147n, trivial⟩ (nt := 55) Tryd.func43 rfl rfl rfl rfl (by kernel_rfl) (by kernel_rfl) (fun x => [fun _ => { σ := Nat, pat := fun k => [sI 19 k] ++ rOwn 4 60004 69 PairT (tab (prF x.1) k), inv := fun k => k ≤ List.length (α := Nat × Nat) x.1 ∧ lF (List.drop (α := Nat × Nat) k x.1) = lF x.1, meas := fun k => List.length (α := Nat × Nat) x.1 - k }]) ?_
  rintro ⟨(xs : CL), _⟩ _
  repeat' (intro hzz; (try (rename Two => hq; cases hq)); (try dsimp only at hzz); (try simp only [resTy, argTy, eqD, inR, big, wantOf, Bool.not_true, Bool.not_false, Bool.true_eq, decide_eq_true_eq, decide_eq_false_iff_not, Bool.not_eq_true', Bool.not_eq_false', Bool.and_eq_true, Prod.mk.injEq, and_true, true_and, Int.not_lt, Int.not_le, gt_iff_lt, ge_iff_le] at hzz); (try simp only [resTy, argTy, eqD, inR, big, wantOf, Bool.not_true, Bool.not_false, Bool.true_eq, decide_eq_true_eq, decide_eq_false_iff_not, Bool.not_eq_true', Bool.not_eq_false', Bool.and_eq_true, Prod.mk.injEq, and_true, true_and, Int.not_lt, Int.not_le, gt_iff_lt, ge_iff_le, getD_c] at hzz); (try (first | contradiction | (exfalso; omega))); (try (revert hzz; intro _)))
  all_goals try (rename Unit => hq; clear hq)
  all_goals try ((with_reducible refine Held.mk ?_); (with_reducible (first | refine Frz.mk ?_ | refine And.intro (Frz.mk ?_) ?_ | refine And.intro ?_ (Frz.mk ?_))); repeat' first | exact True.intro | (change _ = _; with_reducible rfl) | refine And.intro ?_ ?_ | (with_reducible refine Frz.mk ?_))
  all_goals try (refine Held.mk ?_; (try dsimp only at *); (try simp only [resTy, argTy, eqD, inR, big, wantOf, Bool.not_true, Bool.not_false, Bool.true_eq, decide_eq_true_eq, decide_eq_false_iff_not, Bool.not_eq_true', Bool.not_eq_false', Bool.and_eq_true, Prod.mk.injEq, and_true, true_and, Int.not_lt, Int.not_le, gt_iff_lt, ge_iff_le] at *); (try simp only [resTy, argTy, eqD, inR, big, wantOf, Bool.not_true, Bool.not_false, Bool.true_eq, decide_eq_true_eq, decide_eq_false_iff_not, Bool.not_eq_true', Bool.not_eq_false', Bool.and_eq_true, Prod.mk.injEq, and_true, true_and, Int.not_lt, Int.not_le, gt_iff_lt, ge_iff_le, getD_c] at *))
  all_goals try omega
  · rename_i h
    exact lP_err (by unfold lE; rw [if_pos (by omega)]) (by decide)
  · rename_i h0 h
    exact lP_err (by unfold lE; rw [if_neg (by omega), if_pos (by omega)]) (by decide)
  · 
    refine GHeld.mk ?_
    refine Exists.intro 0 ?_
    refine And.intro (Leaf.mk ?_) ?_
    · repeat' first | exact True.intro | refine And.intro ?_ ?_
      all_goals try ((change _ = _ <;> try dsimp only) <;> try with_reducible rfl)
      all_goals try omega
      all_goals (rfl)
    exact ⟨Nat.zero_le _, rfl⟩
  · rename_i h0 h1 k hk hlt q1 q2
    exact lP_err (lE_err h0 h1 hk hlt (eE_a (.inr q2)) (by decide)) (by decide)
  · rename_i h0 h1 k hk hlt q1 q2 q3 q4
    exact lP_err (lE_err h0 h1 hk hlt (eE_b q1 q2 (.inr q4)) (by decide)) (by decide)
  · rename_i h0 h1 k hk hlt q1 q2 q3 q4
    rw [(pE_zero q3).2.2.2.2]; rfl
  · rename_i h0 h1 k hk hlt q1 q2 q3 q4
    rw [(pE_zero q4).2.2.2.2]; rfl
  · rename_i h0 h1 k hk hlt q1 q2 q3 q4
    rw [tab_len]; show k + 1 ≤ 2147483648; omega
  · rename_i h0 h1 k hk hlt q1 q2 q3 q4
    have hn := lE_next hk hlt (eE_c q3 q4)
    have e : tab (prF xs) k ++ [((floatToIntVal .f32 (xs.getD k (0, 0)).1 .i64).getD 0, (floatToIntVal .f32 (xs.getD k (0, 0)).2 .i64).getD 0, ())] = tab (prF xs) (k + 1) := by
      rw [(pE_zero q3).2.2.2.2, (pE_zero q4).2.2.2.2]; rfl
    refine GHeld.mk ?_
    refine Exists.intro (k + 1) ?_
    refine And.intro (Leaf.mk ?_) ?_
    · repeat' first | exact True.intro | refine And.intro ?_ ?_
      all_goals try ((change _ = _ <;> try dsimp only) <;> try with_reducible rfl)
      all_goals try omega
      all_goals (first | exact e | exact congrArg List.length e)
    exact ⟨hn, by show xs.length - (k + 1) < xs.length - k; omega⟩
  · rename_i h0 h1 k hk hlt q1 q2 q3
    exact lP_err (lE_err h0 h1 hk hlt (eE_b q1 q2 (.inl q3)) (by decide)) (by decide)
  · rename_i h0 h1 k hk hlt q1
    exact lP_err (lE_err h0 h1 hk hlt (eE_a (.inl q1)) (by decide)) (by decide)
  · rename_i h0 h1 k hk hge
    have h := lE_end h0 h1 hk hge
    refine ⟨?_, h⟩
    unfold lP
    rw [if_pos h.symm, show k = xs.length by omega]; rfl


def lessP (a b : IP) : IP := (a.1 - b.1, a.2.1 - b.2.1, ())

theorem flV1 (ps : List IP) (k : Nat) : flV ps 1 0 (k + 1) = plusP (flV ps 1 0 k) (ps.getD k (0, 0, ())) := by
  show (if 0 = k % 1 then _ else _) = _
  rw [if_pos (Nat.mod_one k).symm]

theorem tab_mem' {α : Type} {f : Nat → α} : ∀ {n : Nat} {x : α}, x ∈ tab f n → ∃ i, i < n ∧ f i = x
  | 0, x, h => by cases h
  | n + 1, x, h => by
    rcases List.mem_append.1 h with h | h
    · obtain ⟨i, hi, e⟩ := tab_mem' h
      exact ⟨i, by omega, e⟩
    · exact ⟨n, by omega, (List.mem_singleton.1 h).symm⟩

theorem mem_tab' {α : Type} {f : Nat → α} : ∀ {n i : Nat}, i < n → f i ∈ tab f n
  | n + 1, i, h => by
    by_cases hi : i = n
    · rw [hi]; exact List.mem_append_right _ (List.mem_singleton.2 rfl)
    · exact List.mem_append_left _ (mem_tab' (by omega))

theorem tmod_zero {a n : Int} (h : 0 < n) : a.tmod n = 0 ↔ a % n = 0 := by
  rw [← Int.dvd_iff_tmod_eq_zero, ← Int.dvd_iff_emod_eq_zero]

theorem tdiv_of {a n : Int} (h : a % n = 0) : a.tdiv n = a / n := Int.tdiv_eq_ediv_of_dvd (Int.dvd_of_emod_eq_zero h)

/-- The real or the imaginary parts. -/
def prtF (l : List IP) (i : Int) (k : Nat) : Int := if i = 0 then (l.getD k (0, 0, ())).1 else (l.getD k (0, 0, ())).2.1
def prtL (l : List IP) (i : Int) : List Int := tab (prtF l i) l.length

@[reducible] def sPrt : Spec := { pats := [.dat (.sl PairT), .dat I64], res := [{ own := some 3, t := .sl I64 }], pre := fun x => List.length (α := IP) x.1 ≤ 2000000000 ∧ (x.2.1 = (0 : Int) ∨ x.2.1 = (1 : Int)), f := fun x => (prtL x.1 x.2.1, ()) }

theorem prtL_len (l : List IP) (i : Int) : (prtL l i).length = l.length := tab_len _ _
theorem pLen2 : pLen 2 := by decide
@[reducible] def xU3 : Xt := { fuel := 3 }
theorem xU3_ok : Its xU3.its := True.intro
end Go.Eng.Pu
