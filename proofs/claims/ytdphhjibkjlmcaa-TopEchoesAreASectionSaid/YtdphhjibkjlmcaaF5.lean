/- Impulse of one section. Conditions: the section gives its input the factor 1, its feedback lies within what a coefficient may be. -/
import Derived.Test.YtdphhjibkjlmcaaF4
namespace Go.Eng.Lp
open Go.Eng Go.Proofs
set_option linter.all false
set_option maxRecDepth 100000
set_option maxHeartbeats 8000000

noncomputable def w49 : InlF := { nt := 112, np := 2, body := bodyOf Try.f49, rs := [.tmp 4], anns := [] }
noncomputable def w34 : InlF := { nt := 18, np := 2, body := bodyOf Try.f34, rs := [.tmp 4], anns := [] }
theorem ok49 : InlOk Try.prog [(49, w49)] := one_ok Try.func49 rfl rfl rfl (by kernel_rfl) (by kernel_rfl) rfl (by kernel_rfl)
theorem ok34 : InlOk Try.prog [(34, w34)] := one_ok Try.func34 rfl rfl rfl (by kernel_rfl) (by kernel_rfl) rfl (by kernel_rfl)

structure US where
  x0 : Int
  x1 : Int
  y0 : Int
  y1 : Int
  cuts : Int

def putY (a1 a2 x : Int) (s : US) : Int := fRound (16384 * x + 0 * s.x0 + 0 * s.x1 - a1 * s.y0 - a2 * s.y1) 16384
def clampS (v : Int) : Int := if (if v < 32767 then v else 32767) > -32767 then (if v < 32767 then v else 32767) else -32767
def stepU (a1 a2 x : Int) (s : US) : US := { x0 := x, x1 := s.x0, y0 := clampS (putY a1 a2 x s), y1 := s.y0, cuts := if clampS (putY a1 a2 x s) = putY a1 a2 x s then s.cuts else s.cuts + 1 }
def inK (h : Int) (k : Nat) : Int := if k = 0 then h else 0
def stU (a1 a2 h : Int) : Nat → US
  | 0 => ⟨0, 0, 0, 0, 0⟩
  | k + 1 => stepU a1 a2 (inK h k) (stU a1 a2 h k)
def impL (a1 a2 h : Int) : Nat → List Int
  | 0 => []
  | k + 1 => impL a1 a2 h k ++ [(stU a1 a2 h (k + 1)).y0]

theorem impL_len (a1 a2 h : Int) : ∀ n, (impL a1 a2 h n).length = n
  | 0 => rfl
  | n + 1 => by simp [impL, impL_len a1 a2 h n]

def unD (a1 a2 : Int) (s : US) : UnD := (((16384, 0, 0, ()), (a1, a2, ()), ()), ((s.x0, s.x1, ()), (s.y0, s.y1, ()), ()), s.cuts, ())
theorem clampS_bd (v : Int) : -32767 ≤ clampS v ∧ clampS v ≤ 32767 := by
  simp only [clampS]; split <;> split <;> omega

structure UB (s : US) (k : Nat) : Prop where
  x0 : -32767 ≤ s.x0 ∧ s.x0 ≤ 32767
  x1 : -32767 ≤ s.x1 ∧ s.x1 ≤ 32767
  y0 : -32767 ≤ s.y0 ∧ s.y0 ≤ 32767
  y1 : -32767 ≤ s.y1 ∧ s.y1 ≤ 32767
  cuts : 0 ≤ s.cuts ∧ s.cuts ≤ k

theorem stU_bd {a1 a2 h : Int} (hh : -32767 ≤ h ∧ h ≤ 32767) : ∀ k, UB (stU a1 a2 h k) k
  | 0 => ⟨by simp [stU], by simp [stU], by simp [stU], by simp [stU], by simp [stU]⟩
  | k + 1 => by
    have ih := stU_bd (a1 := a1) (a2 := a2) hh k
    refine ⟨?_, ih.x0, clampS_bd _, ih.y0, ?_⟩
    · simp only [stU, stepU, inK]; split <;> omega
    · have := ih.cuts
      simp only [stU, stepU]; split <;> omega

theorem putY_def (a1 a2 x : Int) (s : US) : fRound (16384 * x + 0 * s.x0 + 0 * s.x1 - a1 * s.y0 - a2 * s.y1) 16384 = putY a1 a2 x s := rfl
theorem clampS_def (v : Int) : (if -32767 < (if v < 32767 then v else 32767) then (if v < 32767 then v else 32767) else -32767) = clampS v := rfl

theorem imp_ov {a1 a2 h : Int} (h1 : -16384 ≤ a1 ∧ a1 ≤ 16384) (h2 : -16384 ≤ a2 ∧ a2 ≤ 16384) (h3 : -32767 ≤ h ∧ h ≤ 32767) (k : Nat) :
    (-32767 ≤ inK h k ∧ inK h k ≤ 32767) ∧ (-1000000000 ≤ a1 * (stU a1 a2 h k).y0 ∧ a1 * (stU a1 a2 h k).y0 ≤ 1000000000) ∧ (-1000000000 ≤ a2 * (stU a1 a2 h k).y1 ∧ a2 * (stU a1 a2 h k).y1 ≤ 1000000000) := by
  have B := stU_bd (a1 := a1) (a2 := a2) h3 k
  refine ⟨?_, ?_, ?_⟩
  · simp only [inK]; split <;> omega
  · have := mul_bd h1.1 h1.2 B.y0.1 B.y0.2; omega
  · have := mul_bd h2.1 h2.2 B.y1.1 B.y1.2; omega

theorem impE {a1 a2 : Int} {s t : US} (e : s = t) : [unD a1 a2 t] = [unD a1 a2 s] := by rw [e]

def impAnn (a1 a2 h c : Int) : LoopAnn := { σ := Nat, pat := fun k => [sI 31 k, sI 1 (inK h k), .slot 9 (.one (.o 29 1)), .row 29 94 UnT [unD a1 a2 (stU a1 a2 h k)]] ++ sOwn 10 60010 3 (impL a1 a2 h k), inv := fun k => k ≤ c.toNat, meas := fun k => c.toNat - k }

@[reducible] def sImp : Spec := { pats := [.dat (.sl SecT), .dat I64, .dat I64], res := [{ t := .sl I64 }, { t := I64 }], pre := fun x => ∃ a1 a2 : Int, x.1 = [((16384, 0, 0, ()), (a1, a2, ()), ())] ∧ (-16384 ≤ a1 ∧ a1 ≤ 16384) ∧ (-16384 ≤ a2 ∧ a2 ≤ 16384) ∧ (-32767 ≤ x.2.1 ∧ x.2.1 ≤ 32767) ∧ 0 ≤ x.2.2.1 ∧ x.2.2.1 ≤ 60, f := fun x => (impL (List.getD (α := SecD) x.1 0 SecT.dflt).2.1.1 (List.getD (α := SecD) x.1 0 SecT.dflt).2.1.2.1 x.2.1 (Int.toNat x.2.2.1), 0, ()) }

/-- filter.Impulse -/
theorem g9 : Ok 9 sImp := by
  refine mkI (c := ((cfg { fuel := 4 } [(29, sCascErr), (31, sSmall), (32, sWithin), (30, sUnless), (28, sFirst), (33, sNewChain), (63, sRound)] 0).withInl [(49, w49)]).withInl [(34, w34)]) (withInl_ok (withInl_ok (fun nt => cfgOk (X := { fuel := 4 }) ⟨True.intro, True.intro, True.intro⟩ (ctr := [(29, sCascErr), (31, sSmall), (32, sWithin), (30, sUnless), (28, sFirst), (33, sNewChain), (63, sRound)]) (nt := nt) ⟨g29, g31, g32, g30, g28, g33, g63, trivial⟩) mixed ok49) mixed ok34) (nt := 41) Try.func9 rfl rfl rfl rfl (by kernel_rfl) (by kernel_rfl) (fun x => [fun _ => impAnn (List.getD (α := SecD) x.1 0 SecT.dflt).2.1.1 (List.getD (α := SecD) x.1 0 SecT.dflt).2.1.2.1 x.2.1 x.2.2.1]) ?_
  rintro ⟨(l : List SecD), (h : Int), (c : Int), _⟩ ⟨a1, a2, (rfl : l = [((16384, 0, 0, ()), (a1, a2, ()), ())]), h1, h2, (h3 : -32767 ≤ h ∧ h ≤ 32767), (h4 : 0 ≤ c), (h5 : c ≤ 60)⟩
  repeat' (intro hzz; (try (rename Two => hq; cases hq)); (try dsimp only at hzz); (try simp only [resTy, argTy, eqD, inR, big, wantOf, Bool.not_true, Bool.not_false, Bool.true_eq, decide_eq_true_eq, decide_eq_false_iff_not, Bool.not_eq_true', Bool.not_eq_false', Bool.and_eq_true, Prod.mk.injEq, and_true, true_and, Int.not_lt, Int.not_le, gt_iff_lt, ge_iff_le] at hzz); (try simp only [resTy, argTy, eqD, inR, big, wantOf, Bool.not_true, Bool.not_false, Bool.true_eq, decide_eq_true_eq, decide_eq_false_iff_not, Bool.not_eq_true', Bool.not_eq_false', Bool.and_eq_true, Prod.mk.injEq, and_true, true_and, Int.not_lt, Int.not_le, gt_iff_lt, ge_iff_le, List.length_cons, List.length_nil, List.length_set, impL_len, repl_len, pSmall, fWithin, List.getD_cons_zero, List.set_cons_zero, Int.toNat_zero, unD, cond_true, cond_false, clampS_def, putY_def] at hzz); (try (first | contradiction | (exfalso; omega))); (try (revert hzz; intro _)))
  all_goals try (rename Unit => hq; clear hq)
  all_goals try ((with_reducible refine Held.mk ?_); (with_reducible (first | refine Frz.mk ?_ | refine And.intro (Frz.mk ?_) ?_ | refine And.intro ?_ (Frz.mk ?_))); repeat' first | exact True.intro | (change _ = _; with_reducible rfl) | refine And.intro ?_ ?_ | (with_reducible refine Frz.mk ?_))
  all_goals try (refine Held.mk ?_; (try dsimp only at *); (try simp only [resTy, argTy, eqD, inR, big, wantOf, Bool.not_true, Bool.not_false, Bool.true_eq, decide_eq_true_eq, decide_eq_false_iff_not, Bool.not_eq_true', Bool.not_eq_false', Bool.and_eq_true, Prod.mk.injEq, and_true, true_and, Int.not_lt, Int.not_le, gt_iff_lt, ge_iff_le] at *); (try simp only [resTy, argTy, eqD, inR, big, wantOf, Bool.not_true, Bool.not_false, Bool.true_eq, decide_eq_true_eq, decide_eq_false_iff_not, Bool.not_eq_true', Bool.not_eq_false', Bool.and_eq_true, Prod.mk.injEq, and_true, true_and, Int.not_lt, Int.not_le, gt_iff_lt, ge_iff_le, List.length_cons, List.length_nil, List.length_set, impL_len, repl_len, pSmall, fWithin, List.getD_cons_zero, List.set_cons_zero, Int.toNat_zero, unD, cond_true, cond_false, clampS_def, putY_def] at *))
  all_goals try omega
  all_goals try (rename_i k hk hlt hz; obtain ⟨b1, b2, b3⟩ := imp_ov h1 h2 h3 k; omega)
  all_goals try (rename_i k hk hlt hz hcut; have B := (stU_bd (a1 := a1) (a2 := a2) h3 k).cuts; omega)
  · refine ⟨(show 1 ≤ 6 by omega), fun i hi => ?_⟩
    obtain rfl : i = 0 := by simp at hi; exact hi
    have e : isP a1 = true := decide_eq_true (by omega)
    have e2 : isP a2 = true := decide_eq_true (by omega)
    show secErr ((16384, 0, 0, ()), (a1, a2, ()), ()) = 0
    simp only [secErr, coefL, List.all_cons, List.all_nil, e, e2]
    rfl
  · exact pLen2 (by decide)
  · rename_i hn
    rw [decide_eq_true (show 0 ≤ c ∧ c ≤ 1024 by omega)] at hn
    exact absurd rfl hn
  · exact repl_len 1 _
  ·
    refine GHeld.mk ?_
    refine Exists.intro (0 : Nat) ?_
    refine And.intro (Leaf.mk ?_) ?_
    · repeat' first | exact True.intro | refine And.intro ?_ ?_
      all_goals try ((change _ = _ <;> try dsimp only) <;> try with_reducible rfl)
      all_goals try omega
      all_goals (first | rfl | (rw [repl_eq]; rfl))
    exact Nat.zero_le _
  · rename_i k hk hlt hz hcut hz2
    have e : stU a1 a2 h (k + 1) = ⟨inK h k, (stU a1 a2 h k).x0, clampS (putY a1 a2 (inK h k) (stU a1 a2 h k)), (stU a1 a2 h k).y0, (stU a1 a2 h k).cuts + 1⟩ := by
      simp only [stU, stepU]; rw [if_neg hcut]
    refine GHeld.mk ?_
    refine Exists.intro (k + 1) ?_
    refine And.intro (Leaf.mk ?_) ?_
    · repeat' first | exact True.intro | refine And.intro ?_ ?_
      all_goals try ((change _ = _ <;> try dsimp only) <;> try with_reducible rfl)
      all_goals try omega
      all_goals (first | rfl | exact impE e | simp [impL_len])
    exact ⟨(show k + 1 ≤ c.toNat by omega), (show c.toNat - (k + 1) < c.toNat - k by omega)⟩
  · rename_i k hk hlt hz hcut hz2
    have e : stU a1 a2 h (k + 1) = ⟨inK h k, (stU a1 a2 h k).x0, clampS (putY a1 a2 (inK h k) (stU a1 a2 h k)), (stU a1 a2 h k).y0, (stU a1 a2 h k).cuts⟩ := by
      simp only [stU, stepU]; rw [if_pos hcut]
    refine GHeld.mk ?_
    refine Exists.intro (k + 1) ?_
    refine And.intro (Leaf.mk ?_) ?_
    · repeat' first | exact True.intro | refine And.intro ?_ ?_
      all_goals try ((change _ = _ <;> try dsimp only) <;> try with_reducible rfl)
      all_goals try omega
      all_goals (first | rfl | exact impE e | simp [impL_len])
    exact ⟨(show k + 1 ≤ c.toNat by omega), (show c.toNat - (k + 1) < c.toNat - k by omega)⟩
  · rename_i k hk hlt
    obtain rfl : k = c.toNat := by omega
    rfl

end Go.Eng.Lp
