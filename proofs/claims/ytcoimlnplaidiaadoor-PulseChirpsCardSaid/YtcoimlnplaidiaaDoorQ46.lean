/- Contracts: equal samples; lists folded to a period. Conditions: each contract's own. -/
import Derived.Test.YtcoimlnplaidiaaDoorQ45
import Derived.Test.YtcoimlnplaidiaaDoorQ15
namespace Go.Eng.Pu
open Go.Eng Go.Proofs
set_option linter.all false
set_option maxRecDepth 100000
set_option maxHeartbeats 8000000

/-! ### Equal samples -/

theorem foi_num {n : Int} (h1 : -16777216 ≤ n) (h2 : n ≤ 16777216) : fN .f32 (floatOfInt .f32 n) = true ∧ fV .f32 (floatOfInt .f32 n) = n * fS .f32 := by
  by_cases h0 : n = 0
  · subst h0; decide +kernel
  · by_cases he : n = 16777216
    · subst he; decide +kernel
    · by_cases he2 : n = -16777216
      · subst he2; decide +kernel
      · have hm : n.natAbs ≠ 0 := by omega
        have hl : n.natAbs.log2 ≤ 23 := by
          have : n.natAbs.log2 < 24 := (Nat.log2_lt hm).2 (by omega)
          omega
        have l32 : FloatKind.f32.format.leastPlace = -149 := by decide
        have b32 : FloatKind.f32.format.fractionBits = 23 := by decide
        have e32 : FloatKind.f32.format.exponentBits = 8 := by decide
        obtain ⟨q, l, g1, g2, g3, g4⟩ := nearest_read FloatKind.f32.format (decide (n < 0)) n.natAbs 0 0 (fmt_exp .f32) hm (by rw [b32]; exact hl) (by rw [l32]; omega) (by rw [l32, b32, e32]; omega)
        rw [Nat.pow_zero, Nat.mul_one] at g1
        have hw : floatOfInt .f32 n = FloatKind.f32.format.nearest (decide (n < 0)) n.natAbs 0 := rfl
        rw [hw]
        unfold fN fV
        rw [g1]
        refine ⟨rfl, ?_⟩
        show Ieee.signed _ q (l - FloatKind.f32.format.leastPlace).toNat = _
        rw [l32] at g2 ⊢
        rw [signed_sg, g4, Nat.mul_assoc, ← Nat.pow_add]
        have e : ((0 : Int) + (0 : Nat) - l).toNat + (l - -149).toNat = 149 := by omega
        rw [e]
        have hs : fS .f32 = ((2 ^ 149 : Nat) : Int) := by decide +kernel
        rw [hs]
        generalize (2 : Nat) ^ 149 = C
        unfold sg
        by_cases hn : n < 0
        · rw [if_pos (by simp; exact hn), Int.natCast_mul, show ((n.natAbs : Nat) : Int) = -n by omega, Int.neg_mul, Int.neg_neg]
        · rw [if_neg (by simp; omega), Int.natCast_mul, show ((n.natAbs : Nat) : Int) = n by omega]

/-- All parts are numbers. -/
def okC (xs : CL) : Prop := ∀ i : Nat, fN .f32 (xs.getD i (0, 0)).1 = true ∧ fN .f32 (xs.getD i (0, 0)).2 = true

theorem wid_some {x : Nat} (h : fN .f32 x = true) : (f2f .f32 x .f64).isSome = true := by
  obtain ⟨y, e, _⟩ := wid_num h
  rw [e]; rfl

theorem fN_zero : fN .f32 0 = true := by decide +kernel

theorem okC_nil : okC [] := fun i => ⟨fN_zero, fN_zero⟩

theorem okC_tab {f : Nat → Nat × Nat} {n : Nat} (h : ∀ i, i < n → fN .f32 (f i).1 = true ∧ fN .f32 (f i).2 = true) : okC (tab f n) := fun i => by
  by_cases hi : i < n
  · rw [tab_get f (0, 0) n i hi]; exact h i hi
  · have : (tab f n).getD i (0, 0) = (0, 0) := by
      simp only [List.getD]
      rw [List.getElem?_eq_none (by rw [tab_len]; omega)]; rfl
    rw [this]; exact ⟨fN_zero, fN_zero⟩

theorem allFit_at {ps : List IP} (h : allFit ps = true) (i : Nat) : (-16777216 ≤ (ps.getD i (0, 0, ())).1 ∧ (ps.getD i (0, 0, ())).1 ≤ 16777216) ∧ (-16777216 ≤ (ps.getD i (0, 0, ())).2.1 ∧ (ps.getD i (0, 0, ())).2.1 ≤ 16777216) := by
  by_cases hi : i < ps.length
  · unfold allFit at h
    rw [List.all_eq_true] at h
    have := h (ps.getD i (0, 0, ())) (by simp only [List.getD, List.getElem?_eq_getElem hi, Option.getD_some]; exact List.getElem_mem hi)
    generalize ps.getD i (0, 0, ()) = p at this
    unfold fits at this
    have hh : (decide (-16777216 ≤ p.1 ∧ p.1 ≤ 16777216) && decide (-16777216 ≤ p.2.1 ∧ p.2.1 ≤ 16777216)) = true := this
    simpa only [Bool.and_eq_true, decide_eq_true_eq] using hh
  · have : ps.getD i (0, 0, ()) = (0, 0, ()) := by
      simp only [List.getD]
      rw [List.getElem?_eq_none (by omega)]; rfl
    rw [this]
    exact ⟨⟨by show (-16777216 : Int) ≤ 0; omega, by show (0 : Int) ≤ 16777216; omega⟩, ⟨by show (-16777216 : Int) ≤ 0; omega, by show (0 : Int) ≤ 16777216; omega⟩⟩

theorem tL_ok (ps : List IP) : okC (tL ps) := by
  unfold tL
  split
  · rename_i h
    exact okC_tab fun i _ => ⟨(foi_num (allFit_at h i).1.1 (allFit_at h i).1.2).1, (foi_num (allFit_at h i).2.1 (allFit_at h i).2.2).1⟩
  · exact okC_nil

theorem tL_len (ps : List IP) : (tL ps).length ≤ ps.length := by
  unfold tL
  split
  · rw [tab_len]; exact Nat.le_refl _
  · exact Nat.zero_le _

@[reducible] def sSameN : Spec := { pats := [.dat (.sl C64), .dat (.sl C64)], res := [{ t := .bool }], pre := fun x => List.length (α := Nat × Nat) x.1 ≤ 2000000000 ∧ x.1 = x.2.1 ∧ okC x.1, f := fun _ => (true, ()) }

/-- base.SameSamples -/
theorem h34n : Ok 9 sSameN := by
  refine mk (ctr := [(33, sSame)]) ⟨h101, trivial⟩ (nt := 29) Tryd.func9 rfl rfl rfl rfl (by kernel_rfl) (by kernel_rfl) (fun x => [fun _ => { σ := Nat, pat := fun k => [sI 5 k], inv := fun k => k ≤ List.length (α := Nat × Nat) x.1, meas := fun k => List.length (α := Nat × Nat) x.1 - k }]) ?_
  rintro ⟨(xs : CL), (ys : CL), _⟩ ⟨(hl : xs.length ≤ 2000000000), (he : xs = ys), (hc : okC xs)⟩
  subst he
  have hs : ∀ i : Nat, (f2f .f32 (xs.getD i (0, 0)).1 .f64).isSome = true ∧ (f2f .f32 (xs.getD i (0, 0)).2 .f64).isSome = true := fun i => ⟨wid_some (hc i).1, wid_some (hc i).2⟩
  have hf : ∀ z : Nat × Nat, fSame z z = true := fun z => by simp [fSame]
  repeat' (intro hzz; (try (rename Two => hq; cases hq)); (try dsimp only at hzz); (try simp only [resTy, argTy, eqD, inR, big, wantOf, Bool.not_true, Bool.not_false, Bool.true_eq, decide_eq_true_eq, decide_eq_false_iff_not, Bool.not_eq_true', Bool.not_eq_false', Bool.and_eq_true, Prod.mk.injEq, and_true, true_and, Int.not_lt, Int.not_le, gt_iff_lt, ge_iff_le] at hzz); (try simp only [resTy, argTy, eqD, inR, big, wantOf, Bool.not_true, Bool.not_false, Bool.true_eq, decide_eq_true_eq, decide_eq_false_iff_not, Bool.not_eq_true', Bool.not_eq_false', Bool.and_eq_true, Prod.mk.injEq, and_true, true_and, Int.not_lt, Int.not_le, gt_iff_lt, ge_iff_le, getD_c, hf] at hzz); (try (first | contradiction | (exfalso; omega))); (try (revert hzz; intro _)))
  all_goals try (rename Unit => hq; clear hq)
  all_goals try ((with_reducible refine Held.mk ?_); (with_reducible (first | refine Frz.mk ?_ | refine And.intro (Frz.mk ?_) ?_ | refine And.intro ?_ (Frz.mk ?_))); repeat' first | exact True.intro | (change _ = _; with_reducible rfl) | refine And.intro ?_ ?_ | (with_reducible refine Frz.mk ?_))
  all_goals try (refine Held.mk ?_; (try dsimp only at *); (try simp only [resTy, argTy, eqD, inR, big, wantOf, Bool.not_true, Bool.not_false, Bool.true_eq, decide_eq_true_eq, decide_eq_false_iff_not, Bool.not_eq_true', Bool.not_eq_false', Bool.and_eq_true, Prod.mk.injEq, and_true, true_and, Int.not_lt, Int.not_le, gt_iff_lt, ge_iff_le] at *); (try simp only [resTy, argTy, eqD, inR, big, wantOf, Bool.not_true, Bool.not_false, Bool.true_eq, decide_eq_true_eq, decide_eq_false_iff_not, Bool.not_eq_true', Bool.not_eq_false', Bool.and_eq_true, Prod.mk.injEq, and_true, true_and, Int.not_lt, Int.not_le, gt_iff_lt, ge_iff_le, getD_c, hf] at *))
  all_goals try omega
  · 
    refine GHeld.mk ?_
    refine Exists.intro 0 ?_
    refine And.intro (Leaf.mk ?_) ?_
    · repeat' first | exact True.intro | refine And.intro ?_ ?_
      all_goals try ((change _ = _ <;> try dsimp only) <;> try with_reducible rfl)
      all_goals try omega
    exact Nat.zero_le _
  · exact hs _
  · exact hs _
  · rename_i k hk hlt _
    refine GHeld.mk ?_
    refine Exists.intro (k + 1) ?_
    refine And.intro (Leaf.mk ?_) ?_
    · repeat' first | exact True.intro | refine And.intro ?_ ?_
      all_goals try ((change _ = _ <;> try dsimp only) <;> try with_reducible rfl)
      all_goals try omega
    exact ⟨by show k + 1 ≤ xs.length; omega, by show xs.length - (k + 1) < xs.length - k; omega⟩

/-! ### Folded lists -/

theorem tab_set {α : Type} (f : Nat → α) (n j : Nat) (v : α) : (tab f n).set j v = tab (fun i => if i = j then v else f i) n := by
  apply List.ext_getElem?
  intro i
  by_cases hi : i < n
  · have e : ∀ g : Nat → α, (tab g n)[i]? = some (g i) := fun g => by
      have := tab_get g v n i hi
      rw [List.getD_eq_getElem?_getD] at this
      rw [List.getElem?_eq_getElem (by rw [tab_len]; exact hi)] at this ⊢
      simpa using this
    rw [e]
    by_cases hj : j = i
    · subst hj
      rw [List.getElem?_set_self (by rw [tab_len]; exact hi), if_pos rfl]
    · rw [List.getElem?_set_ne hj, e, if_neg (by omega)]
  · rw [List.getElem?_eq_none (by rw [List.length_set, tab_len]; omega), List.getElem?_eq_none (by rw [tab_len]; omega)]

theorem repl_tab {α : Type} (x : α) : ∀ n : Nat, repl (n : Int) x = tab (fun _ => x) n := fun n => by
  rw [repl_eq, Int.toNat_natCast]
  induction n with
  | zero => rfl
  | succ n ih => rw [List.replicate_succ', ih]; rfl

def plusP (a b : IP) : IP := (a.1 + b.1, a.2.1 + b.2.1, ())
/-- The sum of those of the first numbers of a list that stand at one place. -/
def flV (ps : List IP) (p i : Nat) : Nat → IP
  | 0 => (0, 0, ())
  | k + 1 => if i = k % p then plusP (flV ps p i k) (ps.getD k (0, 0, ())) else flV ps p i k
def flL (ps : List IP) (p k : Nat) : List IP := tab (fun i => flV ps p i k) p

theorem flL_step {ps : List IP} {p k : Nat} (hp : 0 < p) : (flL ps p k).set (k % p) (plusP ((flL ps p k).getD (k % p) (0, 0, ())) (ps.getD k (0, 0, ()))) = flL ps p (k + 1) := by
  unfold flL
  rw [tab_set, tab_get _ _ _ _ (Nat.mod_lt k hp)]
  refine tab_congr p fun i hi => ?_
  show _ = if i = k % p then plusP (flV ps p i k) (ps.getD k (0, 0, ())) else flV ps p i k
  by_cases h : i = k % p
  · rw [if_pos h, if_pos h, h]
  · rw [if_neg h, if_neg h]

theorem flV_in {ps : List IP} {p : Nat} (h : okL 16777216 ps) (i : Nat) : ∀ k : Nat, (-(k * 16777216) ≤ (flV ps p i k).1 ∧ (flV ps p i k).1 ≤ k * 16777216) ∧ (-(k * 16777216) ≤ (flV ps p i k).2.1 ∧ (flV ps p i k).2.1 ≤ k * 16777216)
  | 0 => by simp [flV]
  | k + 1 => by
    have ih := flV_in (p := p) h i k
    have hk := h k
    have e : flV ps p i (k + 1) = if i = k % p then plusP (flV ps p i k) (ps.getD k (0, 0, ())) else flV ps p i k := rfl
    rw [e]
    split
    · show (_ ≤ (flV ps p i k).1 + (ps.getD k (0, 0, ())).1 ∧ (flV ps p i k).1 + (ps.getD k (0, 0, ())).1 ≤ _) ∧ (_ ≤ (flV ps p i k).2.1 + (ps.getD k (0, 0, ())).2.1 ∧ (flV ps p i k).2.1 + (ps.getD k (0, 0, ())).2.1 ≤ _)
      omega
    · omega

theorem nat_tmod (q k : Nat) : ((k : Int)).tmod (q : Int) = ((k % q : Nat) : Int) := by
  rw [Int.tmod_eq_emod_of_nonneg (by omega)]; rfl

theorem flL_ok {ps : List IP} {p : Nat} (h : okL 16777216 ps) (k : Nat) : okL (k * 16777216) (flL ps p k) := fun i => by
  unfold flL
  by_cases hi : i < p
  · rw [tab_get _ _ _ _ hi]; exact flV_in h i k
  · have : (tab (fun i => flV ps p i k) p).getD i (0, 0, ()) = (0, 0, ()) := by
      simp only [List.getD]
      rw [List.getElem?_eq_none (by rw [tab_len]; omega)]; rfl
    rw [this]
    exact ⟨⟨(show -((k : Int) * 16777216) ≤ 0 by omega), (show (0 : Int) ≤ (k : Int) * 16777216 by omega)⟩, ⟨(show -((k : Int) * 16777216) ≤ 0 by omega), (show (0 : Int) ≤ (k : Int) * 16777216 by omega)⟩⟩

theorem getD_set_self {xs : List IP} {j : Nat} {v d : IP} (h : j < xs.length) : (xs.set j v).getD j d = v := by
  simp only [List.getD, List.getElem?_set_self h, Option.getD_some]

/-- Both parts of an element, one after the other. -/
theorem two_set {xs : List IP} {j : Nat} {a b : Int} (h : j < xs.length) :
    (xs.set j ((xs.getD j (0, 0, ())).1 + a, (xs.getD j (0, 0, ())).2)).set j (((xs.set j ((xs.getD j (0, 0, ())).1 + a, (xs.getD j (0, 0, ())).2)).getD j (0, 0, ())).1, ((xs.set j ((xs.getD j (0, 0, ())).1 + a, (xs.getD j (0, 0, ())).2)).getD j (0, 0, ())).2.1 + b, ((xs.set j ((xs.getD j (0, 0, ())).1 + a, (xs.getD j (0, 0, ())).2)).getD j (0, 0, ())).2.2) = xs.set j ((xs.getD j (0, 0, ())).1 + a, (xs.getD j (0, 0, ())).2.1 + b, ()) := by
  rw [getD_set_self h, List.set_set]

@[reducible] def sFold : Spec := { pats := [.dat (.sl PairT), .dat I64], res := [{ own := some 69, t := .sl PairT }], pre := fun x => List.length (α := IP) x.1 ≤ 1024 ∧ okL 16777216 x.1 ∧ 1 ≤ x.2.1 ∧ x.2.1 ≤ (2000000 : Int), f := fun x => (flL x.1 (Int.toNat x.2.1) (List.length (α := IP) x.1), ()) }

/-- folded -/
theorem h92n : Ok 45 sFold := by
  refine mk (ctr := [(37, sPlus)]) ⟨h122, trivial⟩ (nt := 32) Tryd.func45 rfl rfl rfl rfl (by kernel_rfl) (by kernel_rfl) (fun x => [fun _ => { σ := Nat, pat := fun k => [sI 12 k] ++ rOwn 5 9 69 PairT (flL x.1 (Int.toNat x.2.1) k), inv := fun k => k ≤ List.length (α := IP) x.1, meas := fun k => List.length (α := IP) x.1 - k }]) ?_
  rintro ⟨(ps : List IP), (p : Int), _⟩ ⟨(hl : ps.length ≤ 1024), (hp : okL 16777216 ps), (h1 : 1 ≤ p), (h2 : p ≤ 2000000)⟩
  obtain ⟨q, rfl⟩ : ∃ q : Nat, p = q := ⟨p.toNat, by omega⟩
  have hm := nat_tmod q
  have hml : ∀ k : Nat, k % q < q := fun k => Nat.mod_lt k (by omega)
  have hln : ∀ k, (flL ps q k).length = q := fun k => tab_len _ _
  have hbd := flL_ok (p := q) hp
  repeat' (intro hzz; (try (rename Two => hq; cases hq)); (try dsimp only at hzz); (try simp only [resTy, argTy, eqD, inR, big, wantOf, Bool.not_true, Bool.not_false, Bool.true_eq, decide_eq_true_eq, decide_eq_false_iff_not, Bool.not_eq_true', Bool.not_eq_false', Bool.and_eq_true, Prod.mk.injEq, and_true, true_and, Int.not_lt, Int.not_le, gt_iff_lt, ge_iff_le] at hzz); (try simp only [resTy, argTy, eqD, inR, big, wantOf, Bool.not_true, Bool.not_false, Bool.true_eq, decide_eq_true_eq, decide_eq_false_iff_not, Bool.not_eq_true', Bool.not_eq_false', Bool.and_eq_true, Prod.mk.injEq, and_true, true_and, Int.not_lt, Int.not_le, gt_iff_lt, ge_iff_le, getD_p, hm, hln, Int.toNat_natCast] at hzz); (try (first | contradiction | (exfalso; omega))); (try (revert hzz; intro _)))
  all_goals try (rename Unit => hq; clear hq)
  all_goals try ((with_reducible refine Held.mk ?_); (with_reducible (first | refine Frz.mk ?_ | refine And.intro (Frz.mk ?_) ?_ | refine And.intro ?_ (Frz.mk ?_))); repeat' first | exact True.intro | (change _ = _; with_reducible rfl) | refine And.intro ?_ ?_ | (with_reducible refine Frz.mk ?_))
  all_goals try (refine Held.mk ?_; (try dsimp only at *); (try simp only [resTy, argTy, eqD, inR, big, wantOf, Bool.not_true, Bool.not_false, Bool.true_eq, decide_eq_true_eq, decide_eq_false_iff_not, Bool.not_eq_true', Bool.not_eq_false', Bool.and_eq_true, Prod.mk.injEq, and_true, true_and, Int.not_lt, Int.not_le, gt_iff_lt, ge_iff_le] at *); (try simp only [resTy, argTy, eqD, inR, big, wantOf, Bool.not_true, Bool.not_false, Bool.true_eq, decide_eq_true_eq, decide_eq_false_iff_not, Bool.not_eq_true', Bool.not_eq_false', Bool.and_eq_true, Prod.mk.injEq, and_true, true_and, Int.not_lt, Int.not_le, gt_iff_lt, ge_iff_le, getD_p, hm, hln, Int.toNat_natCast] at *))
  all_goals try omega
  · 
    refine GHeld.mk ?_
    refine Exists.intro 0 ?_
    refine And.intro (Leaf.mk ?_) ?_
    · repeat' first | exact True.intro | refine And.intro ?_ ?_
      all_goals try ((change _ = _ <;> try dsimp only) <;> try with_reducible rfl)
      all_goals try omega
      all_goals (first | exact repl_tab _ _ | exact congrArg List.length (repl_tab _ _))
    exact Nat.zero_le _
  · rename_i k hk hlt
    have := hml k
    omega
  · rename_i k hk hlt
    have := hml k
    omega
  · rename_i k hk hlt
    have b := hbd k (k % q)
    have c := hp k
    exact ⟨(show okI ((flL ps q k).getD (k % q) (0, 0, ())).1 by unfold okI; omega), (show okI ((flL ps q k).getD (k % q) (0, 0, ())).2.1 by unfold okI; omega), (show okI (ps.getD k (0, 0, ())).1 by unfold okI; omega), (show okI (ps.getD k (0, 0, ())).2.1 by unfold okI; omega)⟩
  · rename_i k hk hlt
    have := hml k
    omega
  · rename_i k hk hlt
    have := hml k
    omega
  · rename_i k hk hlt
    have e : (flL ps q k).set ((k : Int).tmod (q : Int)).toNat (plusP ((flL ps q k).getD ((k : Int).tmod (q : Int)).toNat (0, 0, ())) (ps.getD k (0, 0, ()))) = flL ps q (k + 1) := by
      rw [nat_tmod]; exact flL_step (show 0 < q by omega)
    refine GHeld.mk ?_
    refine Exists.intro (k + 1) ?_
    refine And.intro (Leaf.mk ?_) ?_
    · repeat' first | exact True.intro | refine And.intro ?_ ?_
      all_goals try ((change _ = _ <;> try dsimp only) <;> try with_reducible rfl)
      all_goals try omega
      all_goals (first | exact e | exact (tab_len _ _).trans (tab_len _ _).symm)
    exact ⟨by show k + 1 ≤ ps.length; omega, by show ps.length - (k + 1) < ps.length - k; omega⟩
  · rename_i k hk hge
    rw [show k = ps.length by omega]

@[reducible] def sRFold : Spec := { pats := [.dat (.sl PairT), .dat I64], res := [{ own := some 37, t := .sl PairT }], pre := fun x => List.length (α := IP) x.1 ≤ 1024 ∧ okL 16777216 x.1 ∧ 1 ≤ x.2.1 ∧ x.2.1 ≤ (2000000 : Int), f := fun x => (flL x.1 (Int.toNat x.2.1) (List.length (α := IP) x.1), ()) }

end Go.Eng.Pu
