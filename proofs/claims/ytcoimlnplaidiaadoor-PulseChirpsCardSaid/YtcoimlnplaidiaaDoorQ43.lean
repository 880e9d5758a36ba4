/- Contracts: the error of a part, whole floats, the error of a list, for any raw numbers. Conditions: each contract's own. -/
import Derived.Test.YtcoimlnplaidiaaDoorQ41
import Derived.Test.YtcoimlnplaidiaaDoorQ42
import Derived.Test.YtcoimlnplaidiaaDoorQ2
namespace Go.Eng.Pu
open Go.Eng Go.Proofs
set_option linter.all false
set_option maxRecDepth 100000
set_option maxHeartbeats 8000000

def M32 : Int := 16777216 * fS .f32

/-- The error of a part. -/
def pE (x : Nat) : Int := if fN .f32 x = true then (if M32 < fV .f32 x ∨ fV .f32 x < -M32 then 2 else if fWh .f32 x = true then 0 else 27) else 27

theorem c32 : fN .f32 1266679808 = true ∧ fN .f32 3414163456 = true ∧ fV .f32 1266679808 = M32 ∧ fV .f32 3414163456 = -M32 := by decide +kernel

theorem fT_small {x : Nat} (h1 : ¬ M32 < fV .f32 x) (h2 : ¬ fV .f32 x < -M32) : -16777216 ≤ fT .f32 x ∧ fT .f32 x ≤ 16777216 := by
  have h0 := fS_pos .f32
  unfold M32 at h1 h2
  unfold fT
  generalize fS .f32 = S at *
  generalize fV .f32 x = V at *
  constructor
  · by_cases hv : 0 ≤ V
    · rw [Int.tdiv_eq_ediv_of_nonneg hv]; have := Int.ediv_nonneg hv (by omega : 0 ≤ S); omega
    · have e : V.tdiv S = -((-V).tdiv S) := by rw [Int.neg_tdiv]; omega
      rw [e, Int.tdiv_eq_ediv_of_nonneg (by omega)]
      have : (-V) / S ≤ 16777216 := by
        have := Int.ediv_le_ediv h0 (show -V ≤ 16777216 * S by omega)
        rwa [Int.mul_ediv_cancel _ (by omega)] at this
      omega
  · by_cases hv : 0 ≤ V
    · rw [Int.tdiv_eq_ediv_of_nonneg hv]
      have := Int.ediv_le_ediv h0 (show V ≤ 16777216 * S by omega)
      rwa [Int.mul_ediv_cancel _ (by omega)] at this
    · have e : V.tdiv S = -((-V).tdiv S) := by rw [Int.neg_tdiv]; omega
      rw [e, Int.tdiv_eq_ediv_of_nonneg (by omega)]
      have := Int.ediv_nonneg (show 0 ≤ -V by omega) (by omega : 0 ≤ S)
      omega

theorem not_num {k : FloatKind} {x : Nat} (h : ¬ fN k x = true) : (∃ s, k.format.read x = .infinity s) ∨ ∃ s f, k.format.read x = .nan s f := by
  unfold fN at h
  cases hd : k.format.read x with
  | number s m i => rw [hd] at h; exact absurd rfl h
  | infinity s => exact .inl ⟨s, rfl⟩
  | nan s f => exact .inr ⟨s, f, rfl⟩

theorem fok_none {k : FloatKind} {n : Nat} (h : fok k none n) (y : Nat) : k.format.order n y = none := by
  rcases h with h | ⟨_, h⟩
  · cases h
  · obtain ⟨s, f, e⟩ := read_nan h
    exact (order_nan e y).1

@[reducible] def sPartE : Spec := { pats := [.dat F32], res := [{ t := I64 }], pre := fun _ => True, f := fun x => (pE x.1, ()) }

theorem fok_some {k : FloatKind} {m n : Nat} (h : fok k (some m) n) : n = m := by
  rcases h with h | ⟨h, _⟩
  · exact (Option.some.inj h).symm
  · cases h

theorem zz32 : (FloatKind.f32.format.order 0 0 != some .eq) = false := by decide
theorem zz64 : (FloatKind.f64.format.order 0 0 != some .eq) = false := by decide
theorem bne_of {α : Type} [BEq α] {a b : α} (h : (a == b) = true) : (a != b) = false := by simp [bne, h]
theorem nan_bne {k : FloatKind} {n : Nat} (h : fok k none n) {y : Nat} (h2 : (k.format.order n y != some .eq) = false) : False := by
  rw [fok_none h] at h2; cases h2

/-- partErr -/
theorem h147n : Ok 64 sPartE := by
  refine mkN (X := x0) (hX := x0_ok) (ctr := [(52, sUnless)]) ⟨h85, trivial⟩ (nt := 26) Tryd.func64 rfl rfl rfl rfl (by kernel_rfl) (by kernel_rfl) (fun _ => []) ?_
  rintro ⟨(x : Nat), _⟩ _
  by_cases hN : fN .f32 x = true
  · have o1 := bne_of (show (FloatKind.f32.format.order x x == some .eq) = true by rw [cmp_eq hN hN]; simp)
    have s1 := sub_num hN
    have g1 := cmp_gt hN c32.1
    have g2 := cmp_lt hN c32.2.1
    rw [c32.2.2.1] at g1
    rw [c32.2.2.2] at g2
    have f1 := foi_fT hN
    have f2 := cmp_eq f1.1 hN
    rw [f1.2] at f2
    have z := zz32
    by_cases h1 : M32 < fV .f32 x
    · have u : pE x = 2 := by unfold pE; rw [if_pos hN, if_pos (.inl h1)]
      repeat' (intro hzz; (try (rename Two => hq; cases hq)); (try dsimp only at hzz); (try simp only [resTy, argTy, eqD, inR, big, wantOf, Bool.not_true, Bool.not_false, Bool.true_eq, decide_eq_true_eq, decide_eq_false_iff_not, Bool.not_eq_true', Bool.not_eq_false', Bool.and_eq_true, Prod.mk.injEq, and_true, true_and, Int.not_lt, Int.not_le, gt_iff_lt, ge_iff_le] at hzz); (try simp only [resTy, argTy, eqD, inR, big, wantOf, Bool.not_true, Bool.not_false, Bool.true_eq, decide_eq_true_eq, decide_eq_false_iff_not, Bool.not_eq_true', Bool.not_eq_false', Bool.and_eq_true, Prod.mk.injEq, and_true, true_and, Int.not_lt, Int.not_le, gt_iff_lt, ge_iff_le, o1, s1, g1, z, u] at hzz); (try (first | contradiction | (exfalso; omega))); (try (have hq := fok_some hzz; subst hq)); (try (revert hzz; intro _)))
      all_goals try (rename Unit => hq; clear hq)
      all_goals try ((with_reducible refine Held.mk ?_); (with_reducible (first | refine Frz.mk ?_ | refine And.intro (Frz.mk ?_) ?_ | refine And.intro ?_ (Frz.mk ?_))); repeat' first | exact True.intro | (change _ = _; with_reducible rfl) | refine And.intro ?_ ?_ | (with_reducible refine Frz.mk ?_))
      all_goals try (refine Held.mk ?_; (try dsimp only at *); (try simp only [resTy, argTy, eqD, inR, big, wantOf, Bool.not_true, Bool.not_false, Bool.true_eq, decide_eq_true_eq, decide_eq_false_iff_not, Bool.not_eq_true', Bool.not_eq_false', Bool.and_eq_true, Prod.mk.injEq, and_true, true_and, Int.not_lt, Int.not_le, gt_iff_lt, ge_iff_le] at *); (try simp only [resTy, argTy, eqD, inR, big, wantOf, Bool.not_true, Bool.not_false, Bool.true_eq, decide_eq_true_eq, decide_eq_false_iff_not, Bool.not_eq_true', Bool.not_eq_false', Bool.and_eq_true, Prod.mk.injEq, and_true, true_and, Int.not_lt, Int.not_le, gt_iff_lt, ge_iff_le, o1, s1, g1, z, u] at *))
      all_goals try omega
    · by_cases h2 : fV .f32 x < -M32
      · have u : pE x = 2 := by unfold pE; rw [if_pos hN, if_pos (.inr h2)]
        repeat' (intro hzz; (try (rename Two => hq; cases hq)); (try dsimp only at hzz); (try simp only [resTy, argTy, eqD, inR, big, wantOf, Bool.not_true, Bool.not_false, Bool.true_eq, decide_eq_true_eq, decide_eq_false_iff_not, Bool.not_eq_true', Bool.not_eq_false', Bool.and_eq_true, Prod.mk.injEq, and_true, true_and, Int.not_lt, Int.not_le, gt_iff_lt, ge_iff_le] at hzz); (try simp only [resTy, argTy, eqD, inR, big, wantOf, Bool.not_true, Bool.not_false, Bool.true_eq, decide_eq_true_eq, decide_eq_false_iff_not, Bool.not_eq_true', Bool.not_eq_false', Bool.and_eq_true, Prod.mk.injEq, and_true, true_and, Int.not_lt, Int.not_le, gt_iff_lt, ge_iff_le, o1, s1, g1, g2, z, u] at hzz); (try (first | contradiction | (exfalso; omega))); (try (have hq := fok_some hzz; subst hq)); (try (revert hzz; intro _)))
        all_goals try (rename Unit => hq; clear hq)
        all_goals try ((with_reducible refine Held.mk ?_); (with_reducible (first | refine Frz.mk ?_ | refine And.intro (Frz.mk ?_) ?_ | refine And.intro ?_ (Frz.mk ?_))); repeat' first | exact True.intro | (change _ = _; with_reducible rfl) | refine And.intro ?_ ?_ | (with_reducible refine Frz.mk ?_))
        all_goals try (refine Held.mk ?_; (try dsimp only at *); (try simp only [resTy, argTy, eqD, inR, big, wantOf, Bool.not_true, Bool.not_false, Bool.true_eq, decide_eq_true_eq, decide_eq_false_iff_not, Bool.not_eq_true', Bool.not_eq_false', Bool.and_eq_true, Prod.mk.injEq, and_true, true_and, Int.not_lt, Int.not_le, gt_iff_lt, ge_iff_le] at *); (try simp only [resTy, argTy, eqD, inR, big, wantOf, Bool.not_true, Bool.not_false, Bool.true_eq, decide_eq_true_eq, decide_eq_false_iff_not, Bool.not_eq_true', Bool.not_eq_false', Bool.and_eq_true, Prod.mk.injEq, and_true, true_and, Int.not_lt, Int.not_le, gt_iff_lt, ge_iff_le, o1, s1, g1, g2, z, u] at *))
        all_goals try omega
      · have ht := fT_small h1 h2
        have f3 := f2i_fT hN (by omega) (by omega)
        have u : pE x = if fWh .f32 x = true then 0 else 27 := by unfold pE; rw [if_pos hN, if_neg (fun h => h.elim h1 h2)]
        repeat' (intro hzz; (try (rename Two => hq; cases hq)); (try dsimp only at hzz); (try simp only [resTy, argTy, eqD, inR, big, wantOf, Bool.not_true, Bool.not_false, Bool.true_eq, decide_eq_true_eq, decide_eq_false_iff_not, Bool.not_eq_true', Bool.not_eq_false', Bool.and_eq_true, Prod.mk.injEq, and_true, true_and, Int.not_lt, Int.not_le, gt_iff_lt, ge_iff_le] at hzz); (try simp only [resTy, argTy, eqD, inR, big, wantOf, Bool.not_true, Bool.not_false, Bool.true_eq, decide_eq_true_eq, decide_eq_false_iff_not, Bool.not_eq_true', Bool.not_eq_false', Bool.and_eq_true, Prod.mk.injEq, and_true, true_and, Int.not_lt, Int.not_le, gt_iff_lt, ge_iff_le, o1, s1, g1, g2, f3, f2, z, u, Option.getD_some, Option.isSome_some] at hzz); (try (first | contradiction | (exfalso; omega))); (try (have hq := fok_some hzz; subst hq)); (try (revert hzz; intro _)))
        all_goals try (rename Unit => hq; clear hq)
        all_goals try ((with_reducible refine Held.mk ?_); (with_reducible (first | refine Frz.mk ?_ | refine And.intro (Frz.mk ?_) ?_ | refine And.intro ?_ (Frz.mk ?_))); repeat' first | exact True.intro | (change _ = _; with_reducible rfl) | refine And.intro ?_ ?_ | (with_reducible refine Frz.mk ?_))
        all_goals try (refine Held.mk ?_; (try dsimp only at *); (try simp only [resTy, argTy, eqD, inR, big, wantOf, Bool.not_true, Bool.not_false, Bool.true_eq, decide_eq_true_eq, decide_eq_false_iff_not, Bool.not_eq_true', Bool.not_eq_false', Bool.and_eq_true, Prod.mk.injEq, and_true, true_and, Int.not_lt, Int.not_le, gt_iff_lt, ge_iff_le] at *); (try simp only [resTy, argTy, eqD, inR, big, wantOf, Bool.not_true, Bool.not_false, Bool.true_eq, decide_eq_true_eq, decide_eq_false_iff_not, Bool.not_eq_true', Bool.not_eq_false', Bool.and_eq_true, Prod.mk.injEq, and_true, true_and, Int.not_lt, Int.not_le, gt_iff_lt, ge_iff_le, o1, s1, g1, g2, f3, f2, z, u, Option.getD_some, Option.isSome_some] at *))
        all_goals try omega
        unfold fWh
        cases decide (fT .f32 x * fS .f32 = fV .f32 x) <;> rfl
  · have u : pE x = 27 := if_neg hN
    rcases not_num hN with ⟨s, e⟩ | ⟨s, f, e⟩
    · have o1 := bne_of (show (FloatKind.f32.format.order x x == some .eq) = true by rw [(order_inf e).1]; rfl)
      have s1 := (order_inf e).2
      repeat' (intro hzz; (try (rename Two => hq; cases hq)); (try dsimp only at hzz); (try simp only [resTy, argTy, eqD, inR, big, wantOf, Bool.not_true, Bool.not_false, Bool.true_eq, decide_eq_true_eq, decide_eq_false_iff_not, Bool.not_eq_true', Bool.not_eq_false', Bool.and_eq_true, Prod.mk.injEq, and_true, true_and, Int.not_lt, Int.not_le, gt_iff_lt, ge_iff_le] at hzz); (try simp only [resTy, argTy, eqD, inR, big, wantOf, Bool.not_true, Bool.not_false, Bool.true_eq, decide_eq_true_eq, decide_eq_false_iff_not, Bool.not_eq_true', Bool.not_eq_false', Bool.and_eq_true, Prod.mk.injEq, and_true, true_and, Int.not_lt, Int.not_le, gt_iff_lt, ge_iff_le, o1, s1, u] at hzz); (try (first | contradiction | (exfalso; omega))); (try (exfalso; exact nan_bne (by assumption) hzz)); (try (revert hzz; intro _)))
      all_goals try (rename Unit => hq; clear hq)
      all_goals try ((with_reducible refine Held.mk ?_); (with_reducible (first | refine Frz.mk ?_ | refine And.intro (Frz.mk ?_) ?_ | refine And.intro ?_ (Frz.mk ?_))); repeat' first | exact True.intro | (change _ = _; with_reducible rfl) | refine And.intro ?_ ?_ | (with_reducible refine Frz.mk ?_))
      all_goals try (refine Held.mk ?_; (try dsimp only at *); (try simp only [resTy, argTy, eqD, inR, big, wantOf, Bool.not_true, Bool.not_false, Bool.true_eq, decide_eq_true_eq, decide_eq_false_iff_not, Bool.not_eq_true', Bool.not_eq_false', Bool.and_eq_true, Prod.mk.injEq, and_true, true_and, Int.not_lt, Int.not_le, gt_iff_lt, ge_iff_le] at *); (try simp only [resTy, argTy, eqD, inR, big, wantOf, Bool.not_true, Bool.not_false, Bool.true_eq, decide_eq_true_eq, decide_eq_false_iff_not, Bool.not_eq_true', Bool.not_eq_false', Bool.and_eq_true, Prod.mk.injEq, and_true, true_and, Int.not_lt, Int.not_le, gt_iff_lt, ge_iff_le, o1, s1, u] at *))
      all_goals try omega
    · have o1 : (FloatKind.f32.format.order x x != some .eq) = true := by rw [(order_nan e x).1]; rfl
      repeat' (intro hzz; (try (rename Two => hq; cases hq)); (try dsimp only at hzz); (try simp only [resTy, argTy, eqD, inR, big, wantOf, Bool.not_true, Bool.not_false, Bool.true_eq, decide_eq_true_eq, decide_eq_false_iff_not, Bool.not_eq_true', Bool.not_eq_false', Bool.and_eq_true, Prod.mk.injEq, and_true, true_and, Int.not_lt, Int.not_le, gt_iff_lt, ge_iff_le] at hzz); (try simp only [resTy, argTy, eqD, inR, big, wantOf, Bool.not_true, Bool.not_false, Bool.true_eq, decide_eq_true_eq, decide_eq_false_iff_not, Bool.not_eq_true', Bool.not_eq_false', Bool.and_eq_true, Prod.mk.injEq, and_true, true_and, Int.not_lt, Int.not_le, gt_iff_lt, ge_iff_le, o1, u] at hzz); (try (first | contradiction | (exfalso; omega))); (try (revert hzz; intro _)))
      all_goals try (rename Unit => hq; clear hq)
      all_goals try ((with_reducible refine Held.mk ?_); (with_reducible (first | refine Frz.mk ?_ | refine And.intro (Frz.mk ?_) ?_ | refine And.intro ?_ (Frz.mk ?_))); repeat' first | exact True.intro | (change _ = _; with_reducible rfl) | refine And.intro ?_ ?_ | (with_reducible refine Frz.mk ?_))
      all_goals try (refine Held.mk ?_; (try dsimp only at *); (try simp only [resTy, argTy, eqD, inR, big, wantOf, Bool.not_true, Bool.not_false, Bool.true_eq, decide_eq_true_eq, decide_eq_false_iff_not, Bool.not_eq_true', Bool.not_eq_false', Bool.and_eq_true, Prod.mk.injEq, and_true, true_and, Int.not_lt, Int.not_le, gt_iff_lt, ge_iff_le] at *); (try simp only [resTy, argTy, eqD, inR, big, wantOf, Bool.not_true, Bool.not_false, Bool.true_eq, decide_eq_true_eq, decide_eq_false_iff_not, Bool.not_eq_true', Bool.not_eq_false', Bool.and_eq_true, Prod.mk.injEq, and_true, true_and, Int.not_lt, Int.not_le, gt_iff_lt, ge_iff_le, o1, u] at *))
      all_goals try omega

/-! ### Whole floats -/

theorem fWh_dvd {k : FloatKind} {x : Nat} (h : fS k ∣ fV k x) : fWh k x = true := by
  unfold fWh fT
  exact decide_eq_true (Int.tdiv_mul_cancel h)

/-- All that are so great are whole. -/
theorem big_whole {k : FloatKind} {x : Nat} (hN : fN k x = true) (h : ((2 * k.format.binade : Nat) : Int) * fS k < fV k x ∨ fV k x < -(((2 * k.format.binade : Nat) : Int) * fS k)) : fWh k x = true := by
  obtain ⟨s, m, i, e⟩ := fN_ex hN
  obtain ⟨h1, h2, _⟩ := read_log k.format x (fmt_exp k) e
  have hv : fV k x = sg s (m * 2 ^ (i - k.format.leastPlace).toNat) := by
    unfold fV; rw [e]; exact signed_sg _ _ _
  have hlp := fmt_lp k
  by_cases hi : 0 ≤ i
  · apply fWh_dvd
    rw [hv]
    have hd : (2 ^ scF k.format) ∣ m * 2 ^ (i - k.format.leastPlace).toNat := by
      unfold scF
      rw [show (i - k.format.leastPlace).toNat = i.toNat + (-k.format.leastPlace).toNat by omega, Nat.pow_add, ← Nat.mul_assoc]
      exact Nat.dvd_mul_left _ _
    have hd2 : fS k ∣ ((m * 2 ^ (i - k.format.leastPlace).toNat : Nat) : Int) := Int.ofNat_dvd.2 hd
    unfold sg
    cases s
    · exact hd2
    · exact Int.dvd_neg.2 hd2
  · exfalso
    have hlt : m * 2 ^ (i - k.format.leastPlace).toNat ≤ 2 * k.format.binade * 2 ^ scF k.format := by
      apply Nat.mul_le_mul (by omega)
      apply Nat.pow_le_pow_right (by omega)
      unfold scF; omega
    have hlt2 : ((m * 2 ^ (i - k.format.leastPlace).toNat : Nat) : Int) ≤ ((2 * k.format.binade : Nat) : Int) * fS k := by
      unfold fS
      rw [← Int.natCast_mul]
      exact Int.ofNat_le.2 hlt
    rw [hv] at h
    unfold sg at h
    generalize ((2 * k.format.binade : Nat) : Int) * fS k = C at *
    generalize m * 2 ^ (i - k.format.leastPlace).toNat = D at *
    cases s <;> simp only [Bool.false_eq_true, if_false, if_true] at h <;> omega

def M64 : Int := 10000000000000000 * fS .f64
def iwh (y : Nat) : Bool := fN .f64 y && fWh .f64 y
def pW (x : Nat) : Bool := fN .f32 x && fWh .f32 x

theorem c64 : fN .f64 14069741636278059008 = true ∧ fN .f64 4846369599423283200 = true ∧ fV .f64 14069741636278059008 = -M64 ∧ fV .f64 4846369599423283200 = M64 := by decide +kernel

theorem fT_small64 {x : Nat} (h1 : fV .f64 x ≤ M64) (h2 : -M64 ≤ fV .f64 x) : -10000000000000000 ≤ fT .f64 x ∧ fT .f64 x ≤ 10000000000000000 := by
  have h0 := fS_pos .f64
  unfold M64 at h1 h2
  unfold fT
  generalize fS .f64 = S at *
  generalize fV .f64 x = V at *
  constructor
  · by_cases hv : 0 ≤ V
    · rw [Int.tdiv_eq_ediv_of_nonneg hv]; have := Int.ediv_nonneg hv (by omega : 0 ≤ S); omega
    · have e : V.tdiv S = -((-V).tdiv S) := by rw [Int.neg_tdiv]; omega
      rw [e, Int.tdiv_eq_ediv_of_nonneg (by omega)]
      have : (-V) / S ≤ 10000000000000000 := by
        have := Int.ediv_le_ediv h0 (show -V ≤ 10000000000000000 * S by omega)
        rwa [Int.mul_ediv_cancel _ (by omega)] at this
      omega
  · by_cases hv : 0 ≤ V
    · rw [Int.tdiv_eq_ediv_of_nonneg hv]
      have := Int.ediv_le_ediv h0 (show V ≤ 10000000000000000 * S by omega)
      rwa [Int.mul_ediv_cancel _ (by omega)] at this
    · have e : V.tdiv S = -((-V).tdiv S) := by rw [Int.neg_tdiv]; omega
      rw [e, Int.tdiv_eq_ediv_of_nonneg (by omega)]
      have := Int.ediv_nonneg (show 0 ≤ -V by omega) (by omega : 0 ≤ S)
      omega

theorem big64 {x : Nat} (hN : fN .f64 x = true) (h : M64 < fV .f64 x ∨ fV .f64 x < -M64) : fWh .f64 x = true := by
  apply big_whole hN
  have hb : ((2 * FloatKind.f64.format.binade : Nat) : Int) = 9007199254740992 := by decide
  have h0 := fS_pos .f64
  rw [hb]
  unfold M64 at h
  omega

@[reducible] def sIsWh : Spec := { pats := [.dat (.flt .f64)], res := [{ t := .bool }], pre := fun _ => True, f := fun x => (iwh x.1, ()) }

end Go.Eng.Pu
