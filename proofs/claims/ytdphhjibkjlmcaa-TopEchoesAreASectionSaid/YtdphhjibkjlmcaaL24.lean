/- Contracts of the echoes' bound and of the reference's echoes; the law LoopEchoes returns true. Conditions: each contract's own. -/
import Derived.Test.YtdphhjibkjlmcaaL23
import Derived.Test.YtdphhjibkjlmcaaP4
namespace Go.Eng.Lp
open Go.Eng Go.Proofs
set_option linter.all false
set_option maxRecDepth 100000
set_option maxHeartbeats 8000000

def ebErr (T : List Int) (g h : Int) : Int := if fCheckLoop T g = 0 then (bif decide (-32767 ≤ h ∧ h ≤ 32767) then 0 else 2) else fCheckLoop T g
def boundI (T : List Int) (g h : Int) : Int := (sizeI T g * (h.natAbs : Int) + 500) / (1000 - sizeI T g)
def fBound (T : List Int) (g h : Int) : Int × Int := if ebErr T g h = 0 then (if 1000 ≤ sizeI T g then (0, 12) else (boundI T g h, 0)) else (0, ebErr T g h)
@[reducible] def sBound : Spec := { pats := [.dat LoopT, .dat I64], res := [{ t := I64 }, { t := I64 }], pre := fun _ => True, f := fun x => ((fBound x.1.1 x.1.2.1 x.2.1).1, (fBound x.1.1 x.1.2.1 x.2.1).2, ()) }

theorem ebErr_ok {T : List Int} {g h : Int} (h0 : ebErr T g h = 0) : GoodLoop T g ∧ -32767 ≤ h ∧ h ≤ 32767 := by
  unfold ebErr at h0
  split at h0
  · rename_i hc
    by_cases hm : -32767 ≤ h ∧ h ≤ 32767
    · exact ⟨loop_of hc, hm⟩
    · simp [hm] at h0
  · rename_i hc; exact absurd h0 hc

theorem sm_mono {f : Nat → Int} : ∀ (n k : Nat), k ≤ n → (∀ i, i < n → 0 ≤ f i) → sm f k ≤ sm f n
  | 0, k, hk, _ => by
    obtain rfl : k = 0 := by omega
    exact Int.le_refl _
  | n + 1, k, hk, h => by
    by_cases e : k = n + 1
    · subst e; exact Int.le_refl _
    · have ih := sm_mono n k (by omega) (fun i hi => h i (by omega))
      have := h n (by omega)
      simp only [sm]; omega

/-- The bound of echoes. -/
theorem bound_step {T : List Int} {g h : Int} (hT : GoodLoop T g) (hs : sizeI T g < 1000) {y M : Int} (hM : M = (h.natAbs : Int) ∧ boundI T g h ≤ M ∨ M = boundI T g h)
    (h1 : -(16384 * (sizeI T g * M)) ≤ y) (h2 : y ≤ 16384 * (sizeI T g * M)) : -(boundI T g h) ≤ (y + 8192000) / 16384000 ∧ (y + 8192000) / 16384000 ≤ boundI T g h := by
  have hS := size_le hT
  have hb : 0 < 1000 - sizeI T g := by omega
  have hh : 0 ≤ (h.natAbs : Int) := by omega
  have hSh : 0 ≤ sizeI T g * (h.natAbs : Int) := Int.mul_nonneg hS.1 hh
  have b0 : 0 ≤ boundI T g h := Int.ediv_nonneg (by omega) (by omega)
  have b1 : sizeI T g * (h.natAbs : Int) + 500 < (boundI T g h + 1) * (1000 - sizeI T g) := Int.lt_ediv_add_one_mul_self _ hb
  have b2 : 0 ≤ (boundI T g h + 1) * sizeI T g := Int.mul_nonneg (by omega) hS.1
  have e1 : (boundI T g h + 1) * (1000 - sizeI T g) = (boundI T g h + 1) * 1000 - (boundI T g h + 1) * sizeI T g := Int.mul_sub _ _ _
  have key : sizeI T g * M + 500 < 1000 * (boundI T g h + 1) := by
    rcases hM with ⟨rfl, _⟩ | rfl
    · omega
    · have : sizeI T g * boundI T g h ≤ 999 * boundI T g h := Int.mul_le_mul_of_nonneg_right (by omega) b0
      omega
  generalize boundI T g h = b at *
  generalize sizeI T g * M = z at *
  omega

theorem eb_bd {T : List Int} {g h : Int} (hT : GoodLoop T g) (hh0 : -32767 ≤ h) (hh1 : h ≤ 32767) : 0 ≤ sizeI T g * (h.natAbs : Int) ∧ sizeI T g * (h.natAbs : Int) ≤ 10485440000 := by
  have h1 := size_le hT
  have h2 := mul_bd (x := sizeI T g) (d := (h.natAbs : Int)) (X := 320000) (B := 32767) (by omega) (by omega) (by omega) (by omega)
  have h3 : 0 ≤ sizeI T g * (h.natAbs : Int) := Int.mul_nonneg h1.1 (by omega)
  omega

theorem boundI_bd {T : List Int} {g h : Int} (hT : GoodLoop T g) (hh0 : -32767 ≤ h) (hh1 : h ≤ 32767) (hs : sizeI T g < 1000) : 0 ≤ boundI T g h ∧ boundI T g h ≤ 10485440500 := by
  have h1 := eb_bd hT hh0 hh1
  refine ⟨Int.ediv_nonneg (by omega) (by omega), ?_⟩
  have := Int.ediv_le_self (a := sizeI T g * (h.natAbs : Int) + 500) (1000 - sizeI T g) (by omega)
  simp only [boundI]; omega

/-- EchoBound -/
theorem h34 : Ok 19 sBound := by
  refine mk (ctr := [(23, sCheckLoop), (25, sSmall), (24, sUnless), (22, sFirst), (43, sSizeO), (44, sSize)]) ⟨h57, h83, h82, h81, h92, h90, trivial⟩ (nt := 30) Try.func19 rfl rfl rfl rfl (by kernel_rfl) (by kernel_rfl) (fun _ => []) ?_
  rintro ⟨⟨(T : List Int), (g : Int), _⟩, (h : Int), _⟩ _
  repeat' (intro hzz; (try (rename Two => hq; cases hq)); (try dsimp only at hzz); (try simp only [resTy, argTy, eqD, inR, big, wantOf, Bool.not_true, Bool.not_false, Bool.true_eq, decide_eq_true_eq, decide_eq_false_iff_not, Bool.not_eq_true', Bool.not_eq_false', Bool.and_eq_true, Prod.mk.injEq, and_true, true_and, Int.not_lt, Int.not_le, gt_iff_lt, ge_iff_le] at hzz); (try simp only [resTy, argTy, eqD, inR, big, wantOf, Bool.not_true, Bool.not_false, Bool.true_eq, decide_eq_true_eq, decide_eq_false_iff_not, Bool.not_eq_true', Bool.not_eq_false', Bool.and_eq_true, Prod.mk.injEq, and_true, true_and, Int.not_lt, Int.not_le, gt_iff_lt, ge_iff_le, first2, fWithin, pSmall, pSize, fSize] at hzz); (try (revert hzz; intro _)))
  all_goals try (rename Unit => hq; clear hq)
  all_goals try ((with_reducible refine Held.mk ?_); (with_reducible (first | refine Frz.mk ?_ | refine And.intro (Frz.mk ?_) ?_ | refine And.intro ?_ (Frz.mk ?_))); repeat' first | exact True.intro | (change _ = _; with_reducible rfl) | refine And.intro ?_ ?_ | (with_reducible refine Frz.mk ?_))
  all_goals try (refine Held.mk ?_; (try dsimp only at *); (try simp only [resTy, argTy, eqD, inR, big, wantOf, Bool.not_true, Bool.not_false, Bool.true_eq, decide_eq_true_eq, decide_eq_false_iff_not, Bool.not_eq_true', Bool.not_eq_false', Bool.and_eq_true, Prod.mk.injEq, and_true, true_and, Int.not_lt, Int.not_le, gt_iff_lt, ge_iff_le] at *); (try simp only [resTy, argTy, eqD, inR, big, wantOf, Bool.not_true, Bool.not_false, Bool.true_eq, decide_eq_true_eq, decide_eq_false_iff_not, Bool.not_eq_true', Bool.not_eq_false', Bool.and_eq_true, Prod.mk.injEq, and_true, true_and, Int.not_lt, Int.not_le, gt_iff_lt, ge_iff_le, first2, fWithin, pSmall, pSize, fSize] at *))
  all_goals try omega
  · exact pLen2 (by simp)
  · rename_i hc
    replace hc : ¬ ebErr T g h = 0 := hc
    change 0 = (fBound T g h).1 ∧ ebErr T g h = (fBound T g h).2
    simp only [fBound]; rw [if_neg hc]; exact ⟨rfl, rfl⟩
  all_goals (rename (if fCheckLoop T g = 0 then _ else _) = 0 => hc; replace hc : ebErr T g h = 0 := hc)
  all_goals have hE := ebErr_ok hc
  · exact hE.1
  all_goals have hb := eb_bd hE.1 hE.2.1 hE.2.2
  all_goals have hz := size_le hE.1
  · rename_i hs
    simp only [fBound]; rw [if_pos hc, if_pos hs]; exact ⟨rfl, rfl⟩
  all_goals try omega
  all_goals rename_i hs
  all_goals have e : (sizeI T g * (h.natAbs : Int) + 500).tdiv (1000 - sizeI T g) = boundI T g h := Int.tdiv_eq_ediv_of_nonneg (by omega)
  all_goals have hq := boundI_bd hE.1 hE.2.1 hE.2.2 hs
  · rw [e]; omega
  · simp only [fBound]; rw [if_pos hc, if_neg (by omega), e]; exact ⟨rfl, rfl⟩

@[reducible] def sHeightErr : Spec := { pats := [.dat I64], res := [{ t := I64 }], pre := fun _ => True, f := fun x => (if -32767 ≤ x.1 ∧ x.1 ≤ 32767 then 0 else 2, ()) }

def fBoundR (T : List Int) (g h : Int) : Int × Int := if 1000 ≤ sizeI T g then (0, 12) else (boundI T g h, 0)
@[reducible] def sBoundR : Spec := { pats := [.dat LoopT, .dat I64], res := [{ t := I64 }, { t := I64 }], pre := fun x => GoodLoop x.1.1 x.1.2.1 ∧ -32767 ≤ x.2.1 ∧ x.2.1 ≤ 32767, f := fun x => ((fBoundR x.1.1 x.1.2.1 x.2.1).1, (fBoundR x.1.1 x.1.2.1 x.2.1).2, ()) }

@[reducible] def sEchoesR : Spec := { pats := [.dat LoopT, .dat I64, .dat I64], res := [{ t := .sl I64 }], pre := fun x => GoodLoop x.1.1 x.1.2.1 ∧ (-32767 ≤ x.2.1 ∧ x.2.1 ≤ 32767) ∧ 0 ≤ x.2.2.1 ∧ x.2.2.1 ≤ 200, f := fun x => (echoL x.1.1 x.1.2.1 x.2.1 (Int.toNat x.2.2.1), ()) }
def erOuter (T : List Int) (g h c : Int) : LoopAnn := { σ := Nat, pat := fun n => sI 8 n :: sOwn 7 60007 3 (echoL T g h n), inv := fun n => n ≤ c.toNat, meas := fun n => c.toNat - n }
def erInner (T : List Int) (g h c : Int) (st : St) : LoopAnn := withI 8 st fun n =>
  { σ := Nat, pat := fun j => [sI 10 j, sI 9 (sm (echoF T (echoL T g h n.toNat) n.toNat) j)], inv := fun j => 1 ≤ j ∧ j ≤ min (n.toNat + 1) T.length, meas := fun j => min (n.toNat + 1) T.length - j }

theorem echoTR {T : List Int} {g h : Int} (n j : Nat) (h0 : 0 < j) :
    T.getD j (Ty.dflt I64) * (echoL T g h n).getD ((n : Int) - (j : Int)).toNat (Ty.dflt I64) = echoF T (echoL T g h n) n j := by
  simp only [echoF]
  rw [if_pos h0]
  rfl

end Go.Eng.Lp
