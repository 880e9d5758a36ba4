/- Contracts: the field of a period, of the program and of the reference. Conditions: each contract's own. -/
import Derived.Test.YtcoimlnplaidiaaQ37
import Derived.Test.YtcoimlnplaidiaaQ2A
namespace Go.Eng.Pu
open Go.Eng Go.Proofs
set_option linter.all false
set_option maxRecDepth 100000
set_option maxHeartbeats 8000000

/-- The least number of a kind. -/
noncomputable def least (P : Nat → Prop) : Nat := @dite _ (∃ k, P k ∧ ∀ j, j < k → ¬ P j) (Classical.propDecidable _) (fun h => Classical.choose h) (fun _ => 0)

theorem least_eq {P : Nat → Prop} {k : Nat} (h : P k) (hl : ∀ j, j < k → ¬ P j) : least P = k := by
  have hex : ∃ k, P k ∧ ∀ j, j < k → ¬ P j := ⟨k, h, hl⟩
  unfold least
  rw [dif_pos hex]
  obtain ⟨h1, h2⟩ := Classical.choose_spec hex
  by_cases a : Classical.choose hex < k
  · exact absurd h1 (hl _ a)
  · by_cases b : k < Classical.choose hex
    · exact absurd h (h2 _ b)
    · omega

/-- The first number from lo on that is 1 more than a multiple of n, and those behind it. -/
def fp0 (n lo : Int) : Int := lo + (1 - lo) % n
def fpK (n lo : Int) (k : Nat) : Int := fp0 n lo + k * n
def fpOn (n lo : Int) (k : Nat) : Prop := fpK n lo k ≤ 2147483647 ∧ isP (fpK n lo k) = false
noncomputable def fP (n lo : Int) : Int := fpK n lo (least fun k => ¬ fpOn n lo k)
/-- The root of the number g + 1. -/
def gW (p n : Int) (g : Nat) : Int := pw ((g : Int) + 1) ((p - 1) / n) p
noncomputable def fW (p n : Int) : Int := gW p n (least fun g => rootB p (gW p n g) n = true)
def gR (p n : Int) : Nat → Int
  | 0 => 1
  | k + 1 => gW p n k

noncomputable def foE (n lo : Int) : Int := if (1 ≤ n ∧ n ≤ 1024) ∧ (2 ≤ lo ∧ lo ≤ 2147483647) then (if fP n lo ≤ 2147483647 then 0 else 12) else 2
noncomputable def foP (n lo : Int) : Int := if foE n lo = 0 then fP n lo else 0
noncomputable def foW (n lo : Int) : Int := if foE n lo = 0 then fW (fP n lo) n else 0
noncomputable def foN (n lo : Int) : Int := if foE n lo = 0 then n else 0

theorem fpK_in {n lo : Int} (h1 : 1 ≤ n) (h2 : n ≤ 1024) (h3 : 2 ≤ lo) (h4 : lo ≤ 2147483647) : ∀ k : Nat, (∀ j, j < k → fpOn n lo j) → 2 ≤ fpK n lo k ∧ fpK n lo k ≤ 2147484672 ∧ (k : Int) ≤ fpK n lo k
  | 0, _ => by
    have := Int.emod_nonneg (1 - lo) (show n ≠ 0 by omega)
    have := Int.emod_lt_of_pos (1 - lo) (show 0 < n by omega)
    unfold fpK fp0
    omega
  | k + 1, h => by
    have a := fpK_in h1 h2 h3 h4 k fun j hj => h j (by omega)
    have b := (h k (by omega)).1
    have e : fpK n lo (k + 1) = fpK n lo k + n := by unfold fpK; rw [show ((k + 1 : Nat) : Int) = (k : Int) + 1 by omega, Int.add_mul]; omega
    omega

theorem fpK_step (n lo : Int) (k : Nat) : fpK n lo (k + 1) = fpK n lo k + n := by
  unfold fpK; rw [show ((k + 1 : Nat) : Int) = (k : Int) + 1 by omega, Int.add_mul]; omega

theorem fpK_mod {n lo : Int} (h1 : 1 ≤ n) (k : Nat) : (fpK n lo k - 1) % n = 0 := by
  apply Int.emod_eq_zero_of_dvd
  have e := Int.mul_ediv_add_emod (1 - lo) n
  refine ⟨k - (1 - lo) / n, ?_⟩
  unfold fpK fp0
  rw [Int.mul_sub, Int.mul_comm n k]
  omega

theorem ceil_eq {n lo : Int} (h1 : 1 ≤ n) : -(-(lo - 1) / n) * n + 1 = fp0 n lo := by
  unfold fp0
  have e := Int.mul_ediv_add_emod (1 - lo) n
  rw [show -(lo - 1) = 1 - lo by omega, Int.neg_mul, Int.mul_comm]
  omega

theorem fp0_eq (n lo : Int) : fpK n lo 0 = lo + (1 - lo) % n := by
  unfold fpK fp0; simp

theorem fP_eq {n lo : Int} {k : Nat} (h : ¬ fpOn n lo k) (hl : ∀ j, j < k → fpOn n lo j) : fP n lo = fpK n lo k := by
  unfold fP
  rw [least_eq (k := k) h fun j hj hn => hn (hl j hj)]

theorem gen_k {p n : Int} (hp : Pr p) (h1 : 1 ≤ n) (h2 : n ≤ 1024) (hd : (p - 1) % n = 0) : ∃ g : Nat, (g : Int) + 1 < p ∧ rootB p (gW p n g) n = true := by
  obtain ⟨g, g1, g2, g3⟩ := gen_ex hp h1 h2 hd
  refine ⟨(g - 1).toNat, by omega, ?_⟩
  unfold gW
  rw [show (((g - 1).toNat : Nat) : Int) + 1 = g by omega]
  exact g3

theorem gen_le {p n : Int} (hp : Pr p) (h1 : 1 ≤ n) (h2 : n ≤ 1024) (hd : (p - 1) % n = 0) {k : Nat} (hk : ∀ j, j < k → ¬ rootB p (gW p n j) n = true) : (k : Int) + 1 < p := by
  obtain ⟨g, g1, g2⟩ := gen_k hp h1 h2 hd
  by_cases h : g < k
  · exact absurd g2 (hk g h)
  · omega

theorem fW_eq {p n : Int} {k : Nat} (h : rootB p (gW p n k) n = true) (hk : ∀ j, j < k → ¬ rootB p (gW p n j) n = true) : fW p n = gW p n k := by
  unfold fW
  rw [least_eq (k := k) h hk]

/-- Found. -/
theorem fo_yes {n lo : Int} {k g : Nat} (hr : (1 ≤ n ∧ n ≤ 1024) ∧ (2 ≤ lo ∧ lo ≤ 2147483647)) (hl : ∀ j, j < k → fpOn n lo j) (hk : fpK n lo k ≤ 2147483647) (hp : isP (fpK n lo k) = true) (hg : rootB (fpK n lo k) (gW (fpK n lo k) n g) n = true) (hgl : ∀ j, j < g → ¬ rootB (fpK n lo k) (gW (fpK n lo k) n j) n = true) : foE n lo = 0 ∧ foP n lo = fpK n lo k ∧ foW n lo = gW (fpK n lo k) n g ∧ foN n lo = n := by
  have hf : fP n lo = fpK n lo k := fP_eq (fun h => by have h2 := h.2; rw [hp] at h2; cases h2) hl
  have he : foE n lo = 0 := by unfold foE; rw [if_pos hr, hf, if_pos hk]
  refine ⟨he, ?_, ?_, ?_⟩
  · unfold foP; rw [if_pos he, hf]
  · unfold foW; rw [if_pos he, hf, fW_eq hg hgl]
  · unfold foN; rw [if_pos he]

theorem fo_err {n lo e : Int} (h : foE n lo = e) (h0 : e ≠ 0) : foP n lo = 0 ∧ foW n lo = 0 ∧ foN n lo = 0 := by
  have hn : ¬ foE n lo = 0 := by rw [h]; exact h0
  refine ⟨?_, ?_, ?_⟩
  · unfold foP; rw [if_neg hn]
  · unfold foW; rw [if_neg hn]
  · unfold foN; rw [if_neg hn]

theorem fo_no {n lo : Int} {k : Nat} (hr : (1 ≤ n ∧ n ≤ 1024) ∧ (2 ≤ lo ∧ lo ≤ 2147483647)) (hl : ∀ j, j < k → fpOn n lo j) (hk : 2147483647 < fpK n lo k) : foE n lo = 12 := by
  have hf : fP n lo = fpK n lo k := fP_eq (fun h => by have := h.1; omega) hl
  unfold foE; rw [if_pos hr, hf, if_neg (by omega)]

theorem fo_bad {n lo : Int} (hr : ¬ ((1 ≤ n ∧ n ≤ 1024) ∧ (2 ≤ lo ∧ lo ≤ 2147483647))) : foE n lo = 2 := by
  unfold foE; rw [if_neg hr]

theorem gW_in {p n : Int} (hp : 2 ≤ p) (g : Nat) : 0 ≤ gW p n g ∧ gW p n g < p := em_in hp _

theorem div_le {a n : Int} (h0 : 0 ≤ a) (h1 : 1 ≤ n) : 0 ≤ a / n ∧ a / n ≤ a := ⟨Int.ediv_nonneg h0 (by omega), Int.ediv_le_self _ h0⟩

@[reducible] noncomputable def sFieldOf : Spec := { pats := [.dat I64, .dat I64], res := [{ t := Fld0 }, { t := I64 }], pre := fun _ => True, f := fun x => ((foP x.1 x.2.1, foW x.1 x.2.1, foN x.1 x.2.1, ()), foE x.1 x.2.1, ()) }

/-- FieldOf -/
theorem h43 : Ok 43 sFieldOf := by
  refine mk (ctr := [(108, sPeriod), (86, sWithin), (109, sMod), (110, sIsP), (111, sPow), (112, sRoot)]) ⟨h108, h86, h109, h110, h111, h112, trivial⟩ (nt := 56) Try.func43 rfl rfl rfl rfl (by kernel_rfl) (by kernel_rfl) (fun x => [fun _ => { σ := Nat, pat := fun k => [sI 6 (fpK x.1 x.2.1 k)], inv := fun k => ∀ j, j < k → fpOn x.1 x.2.1 j, meas := fun k => 2147483700 - k }, fun st => withI 6 st fun p => { σ := Nat, pat := fun k => [sI 8 (k + 1 : Int), .cell 7 0 (.d I64 p), .cell 7 1 (.d I64 (gR p x.1 k)), .cell 7 2 (.d I64 x.1)], inv := fun k => ∀ j, j < k → ¬ rootB p (gW p x.1 j) x.1 = true, meas := fun k => 2147483700 - k }]) ?_
  rintro ⟨(n : Int), (lo : Int), _⟩ _
  by_cases h1 : 1 ≤ n ∧ n ≤ 1024
  · by_cases h2 : 2 ≤ lo ∧ lo ≤ 2147483647
    · have hfk := fpK_in h1.1 h1.2 h2.1 h2.2
      have htd : ∀ a : Int, 2 ≤ a → (a - 1).tdiv n = (a - 1) / n := fun a h => Int.tdiv_eq_ediv_of_nonneg (by omega)
      repeat' (intro hzz; (try (rename Two => hq; cases hq)); (try dsimp only at hzz); (try simp only [resTy, argTy, eqD, inR, big, wantOf, Bool.not_true, Bool.not_false, Bool.true_eq, decide_eq_true_eq, decide_eq_false_iff_not, Bool.not_eq_true', Bool.not_eq_false', Bool.and_eq_true, Prod.mk.injEq, and_true, true_and, Int.not_lt, Int.not_le, gt_iff_lt, ge_iff_le] at hzz); (try simp only [resTy, argTy, eqD, inR, big, wantOf, Bool.not_true, Bool.not_false, Bool.true_eq, decide_eq_true_eq, decide_eq_false_iff_not, Bool.not_eq_true', Bool.not_eq_false', Bool.and_eq_true, Prod.mk.injEq, and_true, true_and, Int.not_lt, Int.not_le, gt_iff_lt, ge_iff_le, fWithin, fPeriod, fMod] at hzz); (try (first | contradiction | (exfalso; omega))); (try (revert hzz; intro _)))
      all_goals try (rename Unit => hq; clear hq)
      all_goals try ((with_reducible refine Held.mk ?_); (with_reducible (first | refine Frz.mk ?_ | refine And.intro (Frz.mk ?_) ?_ | refine And.intro ?_ (Frz.mk ?_))); repeat' first | exact True.intro | (change _ = _; with_reducible rfl) | refine And.intro ?_ ?_ | (with_reducible refine Frz.mk ?_))
      all_goals try (refine Held.mk ?_; (try dsimp only at *); (try simp only [resTy, argTy, eqD, inR, big, wantOf, Bool.not_true, Bool.not_false, Bool.true_eq, decide_eq_true_eq, decide_eq_false_iff_not, Bool.not_eq_true', Bool.not_eq_false', Bool.and_eq_true, Prod.mk.injEq, and_true, true_and, Int.not_lt, Int.not_le, gt_iff_lt, ge_iff_le] at *); (try simp only [resTy, argTy, eqD, inR, big, wantOf, Bool.not_true, Bool.not_false, Bool.true_eq, decide_eq_true_eq, decide_eq_false_iff_not, Bool.not_eq_true', Bool.not_eq_false', Bool.and_eq_true, Prod.mk.injEq, and_true, true_and, Int.not_lt, Int.not_le, gt_iff_lt, ge_iff_le, fWithin, fPeriod, fMod] at *))
      all_goals try omega
      · exact ⟨(show (0 : Int) < n by omega), (show n ≤ (2000000000000000000 : Int) by omega)⟩
      · have := hfk 0 (fun j hj => by omega)
        have e : lo + (1 - lo) % n = fpK n lo 0 := (fp0_eq n lo).symm
        omega
      · 
        refine GHeld.mk ?_
        refine Exists.intro 0 ?_
        refine And.intro (Leaf.mk ?_) ?_
        · repeat' first | exact True.intro | refine And.intro ?_ ?_
          all_goals try ((change _ = _ <;> try dsimp only) <;> try with_reducible rfl)
          all_goals try omega
          all_goals (exact (fp0_eq n lo).symm)
        exact fun j hj => by omega
      · rename_i k hk hg
        have := hfk k hk
        exact ⟨this.1, hg⟩
      · rename_i k hk hg hi
        have := hfk k hk
        omega
      · rename_i k hk hg hi
        have hb := hfk k hk
        have hs := fpK_step n lo k
        refine GHeld.mk ?_
        refine Exists.intro (k + 1) ?_
        refine And.intro (Leaf.mk ?_) ?_
        · repeat' first | exact True.intro | refine And.intro ?_ ?_
          all_goals try ((change _ = _ <;> try dsimp only) <;> try with_reducible rfl)
          all_goals try omega
          all_goals (exact hs.symm)
        refine ⟨fun j hj => ?_, by show 2147483700 - (k + 1) < 2147483700 - k; omega⟩
        by_cases he : j = k
        · rw [he]; exact ⟨hg, hi⟩
        · exact hk j (by omega)
      · rename_i k hk hg hi _
        refine GHeld.mk ?_
        refine Exists.intro 0 ?_
        refine And.intro (Leaf.mk ?_) ?_
        · repeat' first | exact True.intro | refine And.intro ?_ ?_
          all_goals try ((change _ = _ <;> try dsimp only) <;> try with_reducible rfl)
          all_goals try omega
          all_goals (rfl)
        exact fun j hj => by omega
      · rename_i k hk hg hi _ m hm
        have := hfk k hk
        omega
      · rename_i k hk hg hi _ m hm
        have hb := hfk k hk
        rw [htd _ hb.1]
        have hd := div_le (a := fpK n lo k - 1) (n := n) (by omega) (by omega)
        omega
      · rename_i k hk hg hi _ m hm
        have hb := hfk k hk
        rw [htd _ hb.1]
        have hd := div_le (a := fpK n lo k - 1) (n := n) (by omega) (by omega)
        exact ⟨hb.1, hg, hd.1, (show (fpK n lo k - 1) / n ≤ (4000000000000000000 : Int) by omega)⟩
      · rename_i k hk hg hi _ m hm
        have hb := hfk k hk
        exact ⟨hb.1, hg, h1.1, h1.2⟩
      · rename_i k hk hg hi _ m hm hr
        have hb := hfk k hk
        rw [htd _ hb.1] at hr ⊢
        obtain ⟨a1, a2, a3, a4⟩ := fo_yes (g := m) ⟨h1, h2⟩ hk hg hi hr hm
        exact ⟨⟨a2.symm, a3.symm, a4.symm⟩, a1.symm⟩
      · rename_i k hk hg hi _ m hm hr
        have hb := hfk k hk
        have := gen_le (isP_pr hi) h1.1 h1.2 (fpK_mod h1.1 k) hm
        omega
      · rename_i k hk hg hi _ m hm hr
        have hb := hfk k hk
        rw [htd _ hb.1] at hr
        have hgl := gen_le (isP_pr hi) h1.1 h1.2 (fpK_mod h1.1 k) hm
        have e : pw ((m : Int) + 1) ((fpK n lo k - 1).tdiv n) (fpK n lo k) = gR (fpK n lo k) n (m + 1) := by rw [htd _ hb.1]; rfl
        refine GHeld.mk ?_
        refine Exists.intro (m + 1) ?_
        refine And.intro (Leaf.mk ?_) ?_
        · repeat' first | exact True.intro | refine And.intro ?_ ?_
          all_goals try ((change _ = _ <;> try dsimp only) <;> try with_reducible rfl)
          all_goals try omega
          all_goals (first | exact e | (show (m : Int) + 1 + 1 = ((m + 1 : Nat) : Int) + 1; omega))
        refine ⟨fun j hj => ?_, by show 2147483700 - (m + 1) < 2147483700 - m; omega⟩
        by_cases he : j = m
        · rw [he]; exact fun hh => by rw [show rootB (fpK n lo k) (gW (fpK n lo k) n m) n = false from hr] at hh; cases hh
        · exact hm j (by omega)
      · rename_i k hk hg _
        have u := fo_no ⟨h1, h2⟩ hk hg
        obtain ⟨u1, u2, u3⟩ := fo_err u (by omega)
        exact ⟨⟨u1.symm, u2.symm, u3.symm⟩, u.symm⟩
    · have u := fo_bad (n := n) (lo := lo) (fun h => h2 h.2)
      obtain ⟨u1, u2, u3⟩ := fo_err u (by omega)
      repeat' (intro hzz; (try (rename Two => hq; cases hq)); (try dsimp only at hzz); (try simp only [resTy, argTy, eqD, inR, big, wantOf, Bool.not_true, Bool.not_false, Bool.true_eq, decide_eq_true_eq, decide_eq_false_iff_not, Bool.not_eq_true', Bool.not_eq_false', Bool.and_eq_true, Prod.mk.injEq, and_true, true_and, Int.not_lt, Int.not_le, gt_iff_lt, ge_iff_le] at hzz); (try simp only [resTy, argTy, eqD, inR, big, wantOf, Bool.not_true, Bool.not_false, Bool.true_eq, decide_eq_true_eq, decide_eq_false_iff_not, Bool.not_eq_true', Bool.not_eq_false', Bool.and_eq_true, Prod.mk.injEq, and_true, true_and, Int.not_lt, Int.not_le, gt_iff_lt, ge_iff_le, fWithin, fPeriod, u, u1, u2, u3] at hzz); (try (first | contradiction | (exfalso; omega))); (try (revert hzz; intro _)))
      all_goals try (rename Unit => hq; clear hq)
      all_goals try ((with_reducible refine Held.mk ?_); (with_reducible (first | refine Frz.mk ?_ | refine And.intro (Frz.mk ?_) ?_ | refine And.intro ?_ (Frz.mk ?_))); repeat' first | exact True.intro | (change _ = _; with_reducible rfl) | refine And.intro ?_ ?_ | (with_reducible refine Frz.mk ?_))
      all_goals try (refine Held.mk ?_; (try dsimp only at *); (try simp only [resTy, argTy, eqD, inR, big, wantOf, Bool.not_true, Bool.not_false, Bool.true_eq, decide_eq_true_eq, decide_eq_false_iff_not, Bool.not_eq_true', Bool.not_eq_false', Bool.and_eq_true, Prod.mk.injEq, and_true, true_and, Int.not_lt, Int.not_le, gt_iff_lt, ge_iff_le] at *); (try simp only [resTy, argTy, eqD, inR, big, wantOf, Bool.not_true, Bool.not_false, Bool.true_eq, decide_eq_true_eq, decide_eq_false_iff_not, Bool.not_eq_true', Bool.not_eq_false', Bool.and_eq_true, Prod.mk.injEq, and_true, true_and, Int.not_lt, Int.not_le, gt_iff_lt, ge_iff_le, fWithin, fPeriod, u, u1, u2, u3] at *))
      all_goals try omega
  · have u := fo_bad (n := n) (lo := lo) (fun h => h1 h.1)
    obtain ⟨u1, u2, u3⟩ := fo_err u (by omega)
    repeat' (intro hzz; (try (rename Two => hq; cases hq)); (try dsimp only at hzz); (try simp only [resTy, argTy, eqD, inR, big, wantOf, Bool.not_true, Bool.not_false, Bool.true_eq, decide_eq_true_eq, decide_eq_false_iff_not, Bool.not_eq_true', Bool.not_eq_false', Bool.and_eq_true, Prod.mk.injEq, and_true, true_and, Int.not_lt, Int.not_le, gt_iff_lt, ge_iff_le] at hzz); (try simp only [resTy, argTy, eqD, inR, big, wantOf, Bool.not_true, Bool.not_false, Bool.true_eq, decide_eq_true_eq, decide_eq_false_iff_not, Bool.not_eq_true', Bool.not_eq_false', Bool.and_eq_true, Prod.mk.injEq, and_true, true_and, Int.not_lt, Int.not_le, gt_iff_lt, ge_iff_le, fWithin, fPeriod, u, u1, u2, u3] at hzz); (try (first | contradiction | (exfalso; omega))); (try (revert hzz; intro _)))
    all_goals try (rename Unit => hq; clear hq)
    all_goals try ((with_reducible refine Held.mk ?_); (with_reducible (first | refine Frz.mk ?_ | refine And.intro (Frz.mk ?_) ?_ | refine And.intro ?_ (Frz.mk ?_))); repeat' first | exact True.intro | (change _ = _; with_reducible rfl) | refine And.intro ?_ ?_ | (with_reducible refine Frz.mk ?_))
    all_goals try (refine Held.mk ?_; (try dsimp only at *); (try simp only [resTy, argTy, eqD, inR, big, wantOf, Bool.not_true, Bool.not_false, Bool.true_eq, decide_eq_true_eq, decide_eq_false_iff_not, Bool.not_eq_true', Bool.not_eq_false', Bool.and_eq_true, Prod.mk.injEq, and_true, true_and, Int.not_lt, Int.not_le, gt_iff_lt, ge_iff_le] at *); (try simp only [resTy, argTy, eqD, inR, big, wantOf, Bool.not_true, Bool.not_false, Bool.true_eq, decide_eq_true_eq, decide_eq_false_iff_not, Bool.not_eq_true', Bool.not_eq_false', Bool.and_eq_true, Prod.mk.injEq, and_true, true_and, Int.not_lt, Int.not_le, gt_iff_lt, ge_iff_le, fWithin, fPeriod, u, u1, u2, u3] at *))
    all_goals try omega

@[reducible] def sCeil : Spec := { pats := [.dat I64, .dat I64], res := [{ t := I64 }], pre := fun x => 0 < x.2.1 ∧ -9000000000000000000 ≤ x.1 ∧ x.1 ≤ (9000000000000000000 : Int), f := fun x => (-(-x.1 / x.2.1), ()) }

/-- base.Ceil -/
theorem h113 : Ok 113 sCeil := by
  refine mk (ctr := [(124, sFloor)]) ⟨h124, trivial⟩ (nt := 10) Try.func113 rfl rfl rfl rfl (by kernel_rfl) (by kernel_rfl) (fun _ => []) ?_
  rintro ⟨(n : Int), (b : Int), _⟩ ⟨(h1 : 0 < b), (h2 : -9000000000000000000 ≤ n), (h3 : n ≤ 9000000000000000000)⟩
  repeat' (intro hzz; (try (rename Two => hq; cases hq)); (try dsimp only at hzz); (try simp only [resTy, argTy, eqD, inR, big, wantOf, Bool.not_true, Bool.not_false, Bool.true_eq, decide_eq_true_eq, decide_eq_false_iff_not, Bool.not_eq_true', Bool.not_eq_false', Bool.and_eq_true, Prod.mk.injEq, and_true, true_and, Int.not_lt, Int.not_le, gt_iff_lt, ge_iff_le] at hzz); (try (revert hzz; intro _)))
  all_goals try (rename Unit => hq; clear hq)
  all_goals try ((with_reducible refine Held.mk ?_); (with_reducible (first | refine Frz.mk ?_ | refine And.intro (Frz.mk ?_) ?_ | refine And.intro ?_ (Frz.mk ?_))); repeat' first | exact True.intro | (change _ = _; with_reducible rfl) | refine And.intro ?_ ?_ | (with_reducible refine Frz.mk ?_))
  all_goals try (refine Held.mk ?_; (try dsimp only at *); (try simp only [resTy, argTy, eqD, inR, big, wantOf, Bool.not_true, Bool.not_false, Bool.true_eq, decide_eq_true_eq, decide_eq_false_iff_not, Bool.not_eq_true', Bool.not_eq_false', Bool.and_eq_true, Prod.mk.injEq, and_true, true_and, Int.not_lt, Int.not_le, gt_iff_lt, ge_iff_le] at *))
  · omega
  · exact ⟨h1, (show -9000000000000000000 ≤ -n by omega), (show -n ≤ 9000000000000000000 by omega)⟩
  · have hd := div_in (n := -n) h1 (by omega) (by omega)
    omega

/-- ref.FieldOf -/
theorem h44 : Ok 44 sFieldOf := by
  refine mk (ctr := [(25, sWithin), (113, sCeil), (114, sIsP), (42, sRPow), (115, sRRoot)]) ⟨h25, h113, h114, h42, h115, trivial⟩ (nt := 60) Try.func44 rfl rfl rfl rfl (by kernel_rfl) (by kernel_rfl) (fun x => [fun _ => { σ := Nat, pat := fun k => [sI 6 (fpK x.1 x.2.1 k)], inv := fun k => ∀ j, j < k → fpOn x.1 x.2.1 j, meas := fun k => 2147483700 - k }, fun st => withI 6 st fun p => { σ := Nat, pat := fun k => [sI 7 (k + 1 : Int)], inv := fun k => ∀ j, j < k → ¬ rootB p (gW p x.1 j) x.1 = true, meas := fun k => 2147483700 - k }]) ?_
  rintro ⟨(n : Int), (lo : Int), _⟩ _
  by_cases h1 : 1 ≤ n ∧ n ≤ 1024
  · by_cases h2 : 2 ≤ lo ∧ lo ≤ 2147483647
    · have hfk := fpK_in h1.1 h1.2 h2.1 h2.2
      have htd : ∀ a : Int, 2 ≤ a → (a - 1).tdiv n = (a - 1) / n := fun a h => Int.tdiv_eq_ediv_of_nonneg (by omega)
      repeat' (intro hzz; (try (rename Two => hq; cases hq)); (try dsimp only at hzz); (try simp only [resTy, argTy, eqD, inR, big, wantOf, Bool.not_true, Bool.not_false, Bool.true_eq, decide_eq_true_eq, decide_eq_false_iff_not, Bool.not_eq_true', Bool.not_eq_false', Bool.and_eq_true, Prod.mk.injEq, and_true, true_and, Int.not_lt, Int.not_le, gt_iff_lt, ge_iff_le] at hzz); (try simp only [resTy, argTy, eqD, inR, big, wantOf, Bool.not_true, Bool.not_false, Bool.true_eq, decide_eq_true_eq, decide_eq_false_iff_not, Bool.not_eq_true', Bool.not_eq_false', Bool.and_eq_true, Prod.mk.injEq, and_true, true_and, Int.not_lt, Int.not_le, gt_iff_lt, ge_iff_le, fWithin, fPeriod, fMod] at hzz); (try (first | contradiction | (exfalso; omega))); (try (revert hzz; intro _)))
      all_goals try (rename Unit => hq; clear hq)
      all_goals try ((with_reducible refine Held.mk ?_); (with_reducible (first | refine Frz.mk ?_ | refine And.intro (Frz.mk ?_) ?_ | refine And.intro ?_ (Frz.mk ?_))); repeat' first | exact True.intro | (change _ = _; with_reducible rfl) | refine And.intro ?_ ?_ | (with_reducible refine Frz.mk ?_))
      all_goals try (refine Held.mk ?_; (try dsimp only at *); (try simp only [resTy, argTy, eqD, inR, big, wantOf, Bool.not_true, Bool.not_false, Bool.true_eq, decide_eq_true_eq, decide_eq_false_iff_not, Bool.not_eq_true', Bool.not_eq_false', Bool.and_eq_true, Prod.mk.injEq, and_true, true_and, Int.not_lt, Int.not_le, gt_iff_lt, ge_iff_le] at *); (try simp only [resTy, argTy, eqD, inR, big, wantOf, Bool.not_true, Bool.not_false, Bool.true_eq, decide_eq_true_eq, decide_eq_false_iff_not, Bool.not_eq_true', Bool.not_eq_false', Bool.and_eq_true, Prod.mk.injEq, and_true, true_and, Int.not_lt, Int.not_le, gt_iff_lt, ge_iff_le, fWithin, fPeriod, fMod] at *))
      all_goals try omega
      · exact ⟨(show (0 : Int) < n by omega), (show (-9000000000000000000 : Int) ≤ lo - 1 by omega), (show lo - 1 ≤ (9000000000000000000 : Int) by omega)⟩
      · have := hfk 0 (fun j hj => by omega)
        have e : fpK n lo 0 = fp0 n lo := by unfold fpK; simp
        have e2 := ceil_eq (n := n) (lo := lo) h1.1
        omega
      · have := hfk 0 (fun j hj => by omega)
        have e : fpK n lo 0 = fp0 n lo := by unfold fpK; simp
        have e2 := ceil_eq (n := n) (lo := lo) h1.1
        omega
      · have e : fpK n lo 0 = fp0 n lo := by unfold fpK; simp
        have e2 := (ceil_eq (n := n) (lo := lo) h1.1).trans e.symm
        refine GHeld.mk ?_
        refine Exists.intro 0 ?_
        refine And.intro (Leaf.mk ?_) ?_
        · repeat' first | exact True.intro | refine And.intro ?_ ?_
          all_goals try ((change _ = _ <;> try dsimp only) <;> try with_reducible rfl)
          all_goals try omega
          all_goals (exact e2)
        exact fun j hj => by omega
      · rename_i k hk hg
        have := hfk k hk
        exact ⟨this.1, hg⟩
      · rename_i k hk hg hi
        have := hfk k hk
        omega
      · rename_i k hk hg hi
        have hb := hfk k hk
        have hs := fpK_step n lo k
        refine GHeld.mk ?_
        refine Exists.intro (k + 1) ?_
        refine And.intro (Leaf.mk ?_) ?_
        · repeat' first | exact True.intro | refine And.intro ?_ ?_
          all_goals try ((change _ = _ <;> try dsimp only) <;> try with_reducible rfl)
          all_goals try omega
          all_goals (exact hs.symm)
        refine ⟨fun j hj => ?_, by show 2147483700 - (k + 1) < 2147483700 - k; omega⟩
        by_cases he : j = k
        · rw [he]; exact ⟨hg, hi⟩
        · exact hk j (by omega)
      · rename_i k hk hg hi _
        refine GHeld.mk ?_
        refine Exists.intro 0 ?_
        refine And.intro (Leaf.mk ?_) ?_
        · repeat' first | exact True.intro | refine And.intro ?_ ?_
          all_goals try ((change _ = _ <;> try dsimp only) <;> try with_reducible rfl)
          all_goals try omega
          all_goals (rfl)
        exact fun j hj => by omega
      · rename_i k hk hg hi _ m hm
        have := hfk k hk
        omega
      · rename_i k hk hg hi _ m hm
        have hb := hfk k hk
        rw [htd _ hb.1]
        have hd := div_le (a := fpK n lo k - 1) (n := n) (by omega) (by omega)
        omega
      · rename_i k hk hg hi _ m hm
        have hb := hfk k hk
        have hgl := gen_le (isP_pr hi) h1.1 h1.2 (fpK_mod h1.1 k) hm
        rw [htd _ hb.1]
        have hd := div_le (a := fpK n lo k - 1) (n := n) (by omega) (by omega)
        exact ⟨hb.1, hg, hd.1, (show (fpK n lo k - 1) / n ≤ (4000000000000000000 : Int) by omega), (show (0 : Int) ≤ (m : Int) + 1 by omega), hgl⟩
      · rename_i k hk hg hi _ m hm
        have hb := hfk k hk
        rw [htd _ hb.1]
        have hw := gW_in (n := n) hb.1 m
        exact ⟨hb.1, hg, h1.1, h1.2, hw.1, hw.2⟩
      · rename_i k hk hg hi _ m hm hr
        have hb := hfk k hk
        have := gen_le (isP_pr hi) h1.1 h1.2 (fpK_mod h1.1 k) hm
        omega
      · rename_i k hk hg hi _ m hm hr
        have hb := hfk k hk
        rw [htd _ hb.1] at hr
        have hgl := gen_le (isP_pr hi) h1.1 h1.2 (fpK_mod h1.1 k) hm
        refine GHeld.mk ?_
        refine Exists.intro (m + 1) ?_
        refine And.intro (Leaf.mk ?_) ?_
        · repeat' first | exact True.intro | refine And.intro ?_ ?_
          all_goals try ((change _ = _ <;> try dsimp only) <;> try with_reducible rfl)
          all_goals try omega
          all_goals ((show (m : Int) + 1 + 1 = ((m + 1 : Nat) : Int) + 1; omega))
        refine ⟨fun j hj => ?_, by show 2147483700 - (m + 1) < 2147483700 - m; omega⟩
        by_cases he : j = m
        · rw [he]; exact fun hh => by rw [show rootB (fpK n lo k) (gW (fpK n lo k) n m) n = false from hr] at hh; cases hh
        · exact hm j (by omega)
      · rename_i k hk hg hi _ m hm hr
        have := hfk k hk
        omega
      · rename_i k hk hg hi _ m hm hr
        have hb := hfk k hk
        rw [htd _ hb.1]
        have hd := div_le (a := fpK n lo k - 1) (n := n) (by omega) (by omega)
        omega
      · rename_i k hk hg hi _ m hm hr
        have hb := hfk k hk
        have hgl := gen_le (isP_pr hi) h1.1 h1.2 (fpK_mod h1.1 k) hm
        rw [htd _ hb.1]
        have hd := div_le (a := fpK n lo k - 1) (n := n) (by omega) (by omega)
        exact ⟨hb.1, hg, hd.1, (show (fpK n lo k - 1) / n ≤ (4000000000000000000 : Int) by omega), (show (0 : Int) ≤ (m : Int) + 1 by omega), hgl⟩
      · rename_i k hk hg hi _ m hm hr
        have hb := hfk k hk
        rw [htd _ hb.1] at hr ⊢
        obtain ⟨a1, a2, a3, a4⟩ := fo_yes (g := m) ⟨h1, h2⟩ hk hg hi hr hm
        exact ⟨⟨a2.symm, a3.symm, a4.symm⟩, a1.symm⟩
      · rename_i k hk hg _
        have u := fo_no ⟨h1, h2⟩ hk hg
        obtain ⟨u1, u2, u3⟩ := fo_err u (by omega)
        exact ⟨⟨u1.symm, u2.symm, u3.symm⟩, u.symm⟩
    · have u := fo_bad (n := n) (lo := lo) (fun h => h2 h.2)
      obtain ⟨u1, u2, u3⟩ := fo_err u (by omega)
      repeat' (intro hzz; (try (rename Two => hq; cases hq)); (try dsimp only at hzz); (try simp only [resTy, argTy, eqD, inR, big, wantOf, Bool.not_true, Bool.not_false, Bool.true_eq, decide_eq_true_eq, decide_eq_false_iff_not, Bool.not_eq_true', Bool.not_eq_false', Bool.and_eq_true, Prod.mk.injEq, and_true, true_and, Int.not_lt, Int.not_le, gt_iff_lt, ge_iff_le] at hzz); (try simp only [resTy, argTy, eqD, inR, big, wantOf, Bool.not_true, Bool.not_false, Bool.true_eq, decide_eq_true_eq, decide_eq_false_iff_not, Bool.not_eq_true', Bool.not_eq_false', Bool.and_eq_true, Prod.mk.injEq, and_true, true_and, Int.not_lt, Int.not_le, gt_iff_lt, ge_iff_le, fWithin, fPeriod, u, u1, u2, u3] at hzz); (try (first | contradiction | (exfalso; omega))); (try (revert hzz; intro _)))
      all_goals try (rename Unit => hq; clear hq)
      all_goals try ((with_reducible refine Held.mk ?_); (with_reducible (first | refine Frz.mk ?_ | refine And.intro (Frz.mk ?_) ?_ | refine And.intro ?_ (Frz.mk ?_))); repeat' first | exact True.intro | (change _ = _; with_reducible rfl) | refine And.intro ?_ ?_ | (with_reducible refine Frz.mk ?_))
      all_goals try (refine Held.mk ?_; (try dsimp only at *); (try simp only [resTy, argTy, eqD, inR, big, wantOf, Bool.not_true, Bool.not_false, Bool.true_eq, decide_eq_true_eq, decide_eq_false_iff_not, Bool.not_eq_true', Bool.not_eq_false', Bool.and_eq_true, Prod.mk.injEq, and_true, true_and, Int.not_lt, Int.not_le, gt_iff_lt, ge_iff_le] at *); (try simp only [resTy, argTy, eqD, inR, big, wantOf, Bool.not_true, Bool.not_false, Bool.true_eq, decide_eq_true_eq, decide_eq_false_iff_not, Bool.not_eq_true', Bool.not_eq_false', Bool.and_eq_true, Prod.mk.injEq, and_true, true_and, Int.not_lt, Int.not_le, gt_iff_lt, ge_iff_le, fWithin, fPeriod, u, u1, u2, u3] at *))
      all_goals try omega
  · have u := fo_bad (n := n) (lo := lo) (fun h => h1 h.1)
    obtain ⟨u1, u2, u3⟩ := fo_err u (by omega)
    repeat' (intro hzz; (try (rename Two => hq; cases hq)); (try dsimp only at hzz); (try simp only [resTy, argTy, eqD, inR, big, wantOf, Bool.not_true, Bool.not_false, Bool.true_eq, decide_eq_true_eq, decide_eq_false_iff_not, Bool.not_eq_true', Bool.not_eq_false', Bool.and_eq_true, Prod.mk.injEq, and_true, true_and, Int.not_lt, Int.not_le, gt_iff_lt, ge_iff_le] at hzz); (try simp only [resTy, argTy, eqD, inR, big, wantOf, Bool.not_true, Bool.not_false, Bool.true_eq, decide_eq_true_eq, decide_eq_false_iff_not, Bool.not_eq_true', Bool.not_eq_false', Bool.and_eq_true, Prod.mk.injEq, and_true, true_and, Int.not_lt, Int.not_le, gt_iff_lt, ge_iff_le, fWithin, fPeriod, u, u1, u2, u3] at hzz); (try (first | contradiction | (exfalso; omega))); (try (revert hzz; intro _)))
    all_goals try (rename Unit => hq; clear hq)
    all_goals try ((with_reducible refine Held.mk ?_); (with_reducible (first | refine Frz.mk ?_ | refine And.intro (Frz.mk ?_) ?_ | refine And.intro ?_ (Frz.mk ?_))); repeat' first | exact True.intro | (change _ = _; with_reducible rfl) | refine And.intro ?_ ?_ | (with_reducible refine Frz.mk ?_))
    all_goals try (refine Held.mk ?_; (try dsimp only at *); (try simp only [resTy, argTy, eqD, inR, big, wantOf, Bool.not_true, Bool.not_false, Bool.true_eq, decide_eq_true_eq, decide_eq_false_iff_not, Bool.not_eq_true', Bool.not_eq_false', Bool.and_eq_true, Prod.mk.injEq, and_true, true_and, Int.not_lt, Int.not_le, gt_iff_lt, ge_iff_le] at *); (try simp only [resTy, argTy, eqD, inR, big, wantOf, Bool.not_true, Bool.not_false, Bool.true_eq, decide_eq_true_eq, decide_eq_false_iff_not, Bool.not_eq_true', Bool.not_eq_false', Bool.and_eq_true, Prod.mk.injEq, and_true, true_and, Int.not_lt, Int.not_le, gt_iff_lt, ge_iff_le, fWithin, fPeriod, u, u1, u2, u3] at *))
    all_goals try omega

end Go.Eng.Pu
