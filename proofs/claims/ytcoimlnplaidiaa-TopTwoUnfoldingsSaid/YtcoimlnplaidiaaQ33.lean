/- Contracts: transforms, there and back. Conditions: each contract's own. -/
import Derived.Test.YtcoimlnplaidiaaQ32
import Derived.Test.YtcoimlnplaidiaaQ18
namespace Go.Eng.Pu
open Go.Eng Go.Proofs
set_option linter.all false
set_option maxRecDepth 100000
set_option maxHeartbeats 8000000

def pwn (w p : Int) (i : Nat) : Int := w ^ i % p

/-- A list as a function. -/
def at0 (xs : List Int) (j : Nat) : Int := xs.getD j 0

/-- What the sum is behind j numbers. -/
def dfs (p w : Int) (xs : List Int) (k j : Nat) : Int := sm (fun j => at0 xs j * w ^ (j * k)) j % p

/-- The transform of a list. -/
def dftL (p w : Int) (xs : List Int) : List Int := tab (dft p w (at0 xs) xs.length) xs.length

theorem em_in {p : Int} (hp : 2 ≤ p) (x : Int) : 0 ≤ x % p ∧ x % p < p := ⟨Int.emod_nonneg _ (by omega), Int.emod_lt_of_pos _ (by omega)⟩

theorem pwn_in {p : Int} (hp : 2 ≤ p) (w : Int) (i : Nat) : 0 ≤ pwn w p i ∧ pwn w p i < p := em_in hp _
theorem dfs_in {p : Int} (hp : 2 ≤ p) (w : Int) (xs : List Int) (k j : Nat) : 0 ≤ dfs p w xs k j ∧ dfs p w xs k j < p := em_in hp _

theorem tmodN (j k n : Nat) : ((j : Int) * (k : Int)).tmod (n : Int) = ((j * k % n : Nat) : Int) := by
  rw [← Int.natCast_mul, Int.tmod_eq_emod_of_nonneg (Int.natCast_nonneg _), ← Int.natCast_emod]

theorem pwn_last (r p : Int) (k : Nat) : (tab (pwn r p) (k + 1)).getD (((k + 1 : Nat) : Int) - 1).toNat (Ty.dflt I64) = pwn r p k := by
  rw [show (((k + 1 : Nat) : Int) - 1).toNat = k by omega]
  exact tab_get _ _ _ _ (by omega)

theorem pwn_at (r p : Int) {m : Nat} {i : Int} {j k n : Nat} (hi : i = ((j * k % n : Nat) : Int)) (hn : 0 < n) (hm : n ≤ m + 1) : (tab (pwn r p) (m + 1)).getD i.toNat (Ty.dflt I64) = pwn r p (j * k % n) := by
  have := Nat.mod_lt (j * k) hn
  rw [hi, Int.toNat_natCast]
  exact tab_get _ _ _ _ (by omega)

theorem pwn_step {p : Int} (hp : 2 ≤ p) {r : Int} (hr : 0 ≤ r) (k : Nat) : (pwn r p k * r).tmod p = pwn r p (k + 1) := by
  have := pwn_in hp r k
  rw [Int.tmod_eq_emod_of_nonneg (Int.mul_nonneg this.1 hr)]
  show _ = r ^ (k + 1) % p
  rw [Int.pow_succ]
  exact (Cg.mod p _).mul (Cg.refl p r)

theorem dfs_next {p : Int} (hp : 2 ≤ p) {r : Int} {xs : List Int} {k j m : Nat} (h : Cg p (pwn r p m) (r ^ (j * k))) : (dfs p r xs k j + xs.getD j 0 % p * pwn r p m).tmod p = dfs p r xs k (j + 1) := by
  have h1 := dfs_in hp r xs k j
  have h2 := pwn_in hp r m
  have h3 := em_in hp (xs.getD j 0)
  rw [Int.tmod_eq_emod_of_nonneg (Int.add_nonneg h1.1 (Int.mul_nonneg h3.1 h2.1))]
  exact (Cg.mod p _).add ((Cg.mod p _).mul h)

theorem dfs_end (p r : Int) (xs : List Int) (k : Nat) : dfs p r xs k xs.length = dft p r (at0 xs) xs.length k := rfl

@[reducible] def sSums : Spec := { pats := [.dat Fld, .dat (.sl I64), .dat I64], res := [{ own := some 3, t := .sl I64 }], pre := fun x => (2 ≤ x.1.1.1 ∧ x.1.1.1 ≤ (2147483647 : Int)) ∧ (1 ≤ List.length (α := Int) x.2.1 ∧ List.length (α := Int) x.2.1 ≤ 1024) ∧ ((0 : Int) ≤ x.2.2.1 ∧ x.2.2.1 < (show Int from x.1.1.1)) ∧ Cg x.1.1.1 ((show Int from x.2.2.1) ^ List.length (α := Int) x.2.1) 1, f := fun x => (dftL x.1.1.1 x.2.2.1 x.2.1, ()) }

/-- field.sums -/
theorem h153 : Ok 153 sSums := by
  refine mk (ctr := [(109, sMod)]) ⟨h109, trivial⟩ (nt := 79) Try.func153 rfl rfl rfl rfl (by kernel_rfl) (by kernel_rfl) (fun x => [fun _ => { σ := Nat, pat := fun k => [sI 21 k, .slot 17 (.one .u)] ++ sOwn 7 17 3 (tab (pwn x.2.2.1 x.1.1.1) (k + 1)), inv := fun k => k + 1 ≤ List.length (α := Int) x.2.1, meas := fun k => List.length (α := Int) x.2.1 - k }, fun _ => { σ := Nat, pat := fun k => [sI 41 k] ++ sOwn 8 60008 3 (tab (dft x.1.1.1 x.2.2.1 (at0 x.2.1) (List.length (α := Int) x.2.1)) k), inv := fun k => k ≤ List.length (α := Int) x.2.1, meas := fun k => List.length (α := Int) x.2.1 - k }, fun st => withI 9 st fun c => { σ := Nat, pat := fun j => [sI 46 j, sI 10 (dfs x.1.1.1 x.2.2.1 x.2.1 c.toNat j)], inv := fun j => j ≤ List.length (α := Int) x.2.1, meas := fun j => List.length (α := Int) x.2.1 - j }]) ?_
  rintro ⟨⟨⟨(p : Int), (w : Int), (n : Int), _⟩, _⟩, (xs : List Int), (r : Int), _⟩ ⟨⟨(h1 : 2 ≤ p), (h2 : p ≤ 2147483647)⟩, ⟨(h3 : 1 ≤ xs.length), (h4 : xs.length ≤ 1024)⟩, ⟨(h5 : 0 ≤ r), (h6 : r < p)⟩, (h7 : Cg p (r ^ xs.length) 1)⟩
  have hpw := pwn_in h1 r
  have hdf := dfs_in h1 r xs
  have hem := em_in h1
  repeat' (intro hzz; (try (rename Two => hq; cases hq)); (try dsimp only at hzz); (try simp only [resTy, argTy, eqD, inR, big, wantOf, Bool.not_true, Bool.not_false, Bool.true_eq, decide_eq_true_eq, decide_eq_false_iff_not, Bool.not_eq_true', Bool.not_eq_false', Bool.and_eq_true, Prod.mk.injEq, and_true, true_and, Int.not_lt, Int.not_le, gt_iff_lt, ge_iff_le] at hzz); (try simp only [resTy, argTy, eqD, inR, big, wantOf, Bool.not_true, Bool.not_false, Bool.true_eq, decide_eq_true_eq, decide_eq_false_iff_not, Bool.not_eq_true', Bool.not_eq_false', Bool.and_eq_true, Prod.mk.injEq, and_true, true_and, Int.not_lt, Int.not_le, gt_iff_lt, ge_iff_le, fMod, getD_i, tab_len, pwn_last] at hzz); (try (first | contradiction | (exfalso; omega))); (try (revert hzz; intro _)))
  all_goals try (rename Unit => hq; clear hq)
  all_goals try ((with_reducible refine Held.mk ?_); (with_reducible (first | refine Frz.mk ?_ | refine And.intro (Frz.mk ?_) ?_ | refine And.intro ?_ (Frz.mk ?_))); repeat' first | exact True.intro | (change _ = _; with_reducible rfl) | refine And.intro ?_ ?_ | (with_reducible refine Frz.mk ?_))
  all_goals try (refine Held.mk ?_; (try dsimp only at *); (try simp only [resTy, argTy, eqD, inR, big, wantOf, Bool.not_true, Bool.not_false, Bool.true_eq, decide_eq_true_eq, decide_eq_false_iff_not, Bool.not_eq_true', Bool.not_eq_false', Bool.and_eq_true, Prod.mk.injEq, and_true, true_and, Int.not_lt, Int.not_le, gt_iff_lt, ge_iff_le] at *); (try simp only [resTy, argTy, eqD, inR, big, wantOf, Bool.not_true, Bool.not_false, Bool.true_eq, decide_eq_true_eq, decide_eq_false_iff_not, Bool.not_eq_true', Bool.not_eq_false', Bool.and_eq_true, Prod.mk.injEq, and_true, true_and, Int.not_lt, Int.not_le, gt_iff_lt, ge_iff_le, fMod, getD_i, tab_len, pwn_last] at *))
  all_goals try omega
  · have e0 : [(1 : Int).tmod p] = tab (pwn r p) 1 := by
      show [(1 : Int).tmod p] = [r ^ 0 % p]
      rw [Int.pow_zero, Int.tmod_eq_emod_of_nonneg (by omega)]
    refine GHeld.mk ?_
    refine Exists.intro 0 ?_
    refine And.intro (Leaf.mk ?_) ?_
    · repeat' first | exact True.intro | refine And.intro ?_ ?_
      all_goals try ((change _ = _ <;> try dsimp only) <;> try with_reducible rfl)
      all_goals try omega
      all_goals ((first | exact e0 | exact congrArg List.length e0 | rfl))
    exact h3
  · rename_i k hk hg
    have := pwI_mul h2 (hpw k).1 (hpw k).2 h5 h6
    omega
  · rename_i k hk hg
    show k + 1 + 1 ≤ 2147483648
    omega
  · rename_i k hk hg
    have e := pwn_step h1 h5 k
    have e' : tab (pwn r p) (k + 1) ++ [((tab (pwn r p) (k + 1)).getD (((tab (pwn r p) (k + 1)).length : Int) - 1).toNat (Ty.dflt I64) * r).tmod p] = tab (pwn r p) (k + 1 + 1) := by
      rw [tab_len, pwn_last, e]; rfl
    refine GHeld.mk ?_
    refine Exists.intro (k + 1) ?_
    refine And.intro (Leaf.mk ?_) ?_
    · repeat' first | exact True.intro | refine And.intro ?_ ?_
      all_goals try ((change _ = _ <;> try dsimp only) <;> try with_reducible rfl)
      all_goals try omega
      all_goals ((first | exact e' | exact congrArg List.length e' | rfl))
    exact ⟨by show k + 1 + 1 ≤ xs.length; omega, by show xs.length - (k + 1) < xs.length - k; omega⟩
  · rename_i k hk hg
    refine GHeld.mk ?_
    refine Exists.intro 0 ?_
    refine And.intro (Leaf.mk ?_) ?_
    · repeat' first | exact True.intro | refine And.intro ?_ ?_
      all_goals try ((change _ = _ <;> try dsimp only) <;> try with_reducible rfl)
      all_goals try omega
      all_goals (rfl)
    exact Nat.zero_le _
  · rename_i m hm hg c hc hg2
    refine GHeld.mk ?_
    refine Exists.intro 0 ?_
    refine And.intro (Leaf.mk ?_) ?_
    · repeat' first | exact True.intro | refine And.intro ?_ ?_
      all_goals try ((change _ = _ <;> try dsimp only) <;> try with_reducible rfl)
      all_goals try omega
      all_goals ((first | rfl | skip))
    exact Nat.zero_le _
  · exact ⟨(show (0 : Int) < p by omega), (show p ≤ (2000000000000000000 : Int) by omega)⟩
  · rename_i m hm hg c hc hg2 j hj hg3
    have := Int.mul_le_mul (show (j : Int) ≤ 1024 by omega) (show (c : Int) ≤ 1024 by omega) (by omega) (by omega)
    have := Int.mul_nonneg (show 0 ≤ (j : Int) by omega) (show 0 ≤ (c : Int) by omega)
    omega
  · rename_i m hm hg c hc hg2 j hj hg3
    have := Nat.mod_lt (j * c) (show 0 < xs.length by omega)
    rw [tmodN]; omega
  · rename_i m hm hg c hc hg2 j hj hg3
    have := Nat.mod_lt (j * c) (show 0 < xs.length by omega)
    rw [tmodN]; omega
  · rename_i m hm hg c hc hg2 j hj hg3
    rw [pwn_at r p (tmodN j c xs.length) (by omega) (by omega)]
    have h8 := hpw (j * c % xs.length)
    have h9 := hem (xs.getD j 0)
    have := pwI_mul h2 h9.1 h9.2 h8.1 h8.2
    omega
  · rename_i m hm hg c hc hg2 j hj hg3
    rw [pwn_at r p (tmodN j c xs.length) (by omega) (by omega)]
    have h8 := hpw (j * c % xs.length)
    have h9 := hem (xs.getD j 0)
    have := pwI_mul h2 h9.1 h9.2 h8.1 h8.2
    have := hdf c j
    show _ ≤ dfs p r xs c j + _ ∧ dfs p r xs c j + _ ≤ _
    omega
  · rename_i m hm hg c hc hg2 j hj hg3
    have e : (dfs p r xs c j + xs.getD j 0 % p * (tab (pwn r p) (m + 1)).getD (((j : Int) * (c : Int)).tmod (xs.length : Int)).toNat (Ty.dflt I64)).tmod p = dfs p r xs c (j + 1) := by
      rw [pwn_at r p (tmodN j c xs.length) (by omega) (by omega)]
      exact dfs_next h1 ((Cg.mod p _).trans (pow_modN h7 (j * c)))
    refine GHeld.mk ?_
    refine Exists.intro (j + 1) ?_
    refine And.intro (Leaf.mk ?_) ?_
    · repeat' first | exact True.intro | refine And.intro ?_ ?_
      all_goals try ((change _ = _ <;> try dsimp only) <;> try with_reducible rfl)
      all_goals try omega
      all_goals ((first | exact e | rfl))
    exact ⟨by show j + 1 ≤ xs.length; omega, by show xs.length - (j + 1) < xs.length - j; omega⟩
  · rename_i m hm hg c hc hg2 j hj hg3
    show c + 1 ≤ 2147483648
    omega
  · rename_i m hm hg c hc hg2 j hj hg3
    have hj' : j = xs.length := by omega
    subst hj'
    refine GHeld.mk ?_
    refine Exists.intro (c + 1) ?_
    refine And.intro (Leaf.mk ?_) ?_
    · repeat' first | exact True.intro | refine And.intro ?_ ?_
      all_goals try ((change _ = _ <;> try dsimp only) <;> try with_reducible rfl)
      all_goals try omega
      all_goals ((first | rfl | skip))
    exact ⟨by show c + 1 ≤ xs.length; omega, by show xs.length - (c + 1) < xs.length - c; omega⟩
  · rename_i m hm hg c hc hg2
    have hc' : c = xs.length := by omega
    subst hc'; rfl

@[reducible] def sRSums : Spec := { pats := [.dat (.sl I64), .dat I64, .dat I64], res := [{ own := some 3, t := .sl I64 }], pre := fun x => (2 ≤ x.2.2.1 ∧ x.2.2.1 ≤ (2147483647 : Int)) ∧ (1 ≤ List.length (α := Int) x.1 ∧ List.length (α := Int) x.1 ≤ 1024) ∧ ((0 : Int) ≤ x.2.1 ∧ x.2.1 < (show Int from x.2.2.1)), f := fun x => (dftL x.2.2.1 x.2.1 x.1, ()) }

/-- ref.sums -/
theorem h106 : Ok 106 sRSums := by
  refine mk (ctr := [(42, sRPow), (41, sMod)]) ⟨h42, h41, trivial⟩ (nt := 53) Try.func106 rfl rfl rfl rfl (by kernel_rfl) (by kernel_rfl) (fun x => [fun _ => { σ := Nat, pat := fun k => [sI 8 k] ++ sOwn 7 60007 3 (tab (dft x.2.2.1 x.2.1 (at0 x.1) (List.length (α := Int) x.1)) k), inv := fun k => k ≤ List.length (α := Int) x.1, meas := fun k => List.length (α := Int) x.1 - k }, fun st => withI 8 st fun c => { σ := Nat, pat := fun j => [sI 12 j, sI 9 (dfs x.2.2.1 x.2.1 x.1 c.toNat j), sI 10 (pwn x.2.1 x.2.2.1 (j * c.toNat))], inv := fun j => j ≤ List.length (α := Int) x.1, meas := fun j => List.length (α := Int) x.1 - j }]) ?_
  rintro ⟨(xs : List Int), (r : Int), (p : Int), _⟩ ⟨⟨(h1 : 2 ≤ p), (h2 : p ≤ 2147483647)⟩, ⟨(h3 : 1 ≤ xs.length), (h4 : xs.length ≤ 1024)⟩, ⟨(h5 : 0 ≤ r), (h6 : r < p)⟩⟩
  have hpw := pwn_in h1 r
  have hdf := dfs_in h1 r xs
  have hem := em_in h1
  repeat' (intro hzz; (try (rename Two => hq; cases hq)); (try dsimp only at hzz); (try simp only [resTy, argTy, eqD, inR, big, wantOf, Bool.not_true, Bool.not_false, Bool.true_eq, decide_eq_true_eq, decide_eq_false_iff_not, Bool.not_eq_true', Bool.not_eq_false', Bool.and_eq_true, Prod.mk.injEq, and_true, true_and, Int.not_lt, Int.not_le, gt_iff_lt, ge_iff_le] at hzz); (try simp only [resTy, argTy, eqD, inR, big, wantOf, Bool.not_true, Bool.not_false, Bool.true_eq, decide_eq_true_eq, decide_eq_false_iff_not, Bool.not_eq_true', Bool.not_eq_false', Bool.and_eq_true, Prod.mk.injEq, and_true, true_and, Int.not_lt, Int.not_le, gt_iff_lt, ge_iff_le, fMod, getD_i, tab_len] at hzz); (try (first | contradiction | (exfalso; omega))); (try (revert hzz; intro _)))
  all_goals try (rename Unit => hq; clear hq)
  all_goals try ((with_reducible refine Held.mk ?_); (with_reducible (first | refine Frz.mk ?_ | refine And.intro (Frz.mk ?_) ?_ | refine And.intro ?_ (Frz.mk ?_))); repeat' first | exact True.intro | (change _ = _; with_reducible rfl) | refine And.intro ?_ ?_ | (with_reducible refine Frz.mk ?_))
  all_goals try (refine Held.mk ?_; (try dsimp only at *); (try simp only [resTy, argTy, eqD, inR, big, wantOf, Bool.not_true, Bool.not_false, Bool.true_eq, decide_eq_true_eq, decide_eq_false_iff_not, Bool.not_eq_true', Bool.not_eq_false', Bool.and_eq_true, Prod.mk.injEq, and_true, true_and, Int.not_lt, Int.not_le, gt_iff_lt, ge_iff_le] at *); (try simp only [resTy, argTy, eqD, inR, big, wantOf, Bool.not_true, Bool.not_false, Bool.true_eq, decide_eq_true_eq, decide_eq_false_iff_not, Bool.not_eq_true', Bool.not_eq_false', Bool.and_eq_true, Prod.mk.injEq, and_true, true_and, Int.not_lt, Int.not_le, gt_iff_lt, ge_iff_le, fMod, getD_i, tab_len] at *))
  all_goals try omega
  · 
    refine GHeld.mk ?_
    refine Exists.intro 0 ?_
    refine And.intro (Leaf.mk ?_) ?_
    · repeat' first | exact True.intro | refine And.intro ?_ ?_
      all_goals try ((change _ = _ <;> try dsimp only) <;> try with_reducible rfl)
      all_goals try omega
      all_goals (rfl)
    exact Nat.zero_le _
  · rename_i c hc hg
    exact ⟨h1, h2, by omega, (show (c : Int) ≤ (4000000000000000000 : Int) by omega), h5, h6⟩
  · rename_i c hc hg
    have e : (1 : Int).tmod p = pwn r p (0 * c) := by
      rw [Nat.zero_mul]
      show _ = r ^ 0 % p
      rw [Int.pow_zero, Int.tmod_eq_emod_of_nonneg (by omega)]
    refine GHeld.mk ?_
    refine Exists.intro 0 ?_
    refine And.intro (Leaf.mk ?_) ?_
    · repeat' first | exact True.intro | refine And.intro ?_ ?_
      all_goals try ((change _ = _ <;> try dsimp only) <;> try with_reducible rfl)
      all_goals try omega
      all_goals ((first | exact e | rfl))
    exact Nat.zero_le _
  · exact ⟨(show (0 : Int) < p by omega), (show p ≤ (2000000000000000000 : Int) by omega)⟩
  · rename_i c hc hg j hj hg2
    have h8 := hpw (j * c)
    have h9 := hem (xs.getD j 0)
    have := pwI_mul h2 h9.1 h9.2 h8.1 h8.2
    show _ ≤ xs.getD j 0 % p * pwn r p (j * c) ∧ xs.getD j 0 % p * pwn r p (j * c) ≤ _
    omega
  · rename_i c hc hg j hj hg2
    have h8 := hpw (j * c)
    have h9 := hem (xs.getD j 0)
    have := pwI_mul h2 h9.1 h9.2 h8.1 h8.2
    have := hdf c j
    show _ ≤ dfs p r xs c j + _ * pwn r p (j * c) ∧ dfs p r xs c j + _ * pwn r p (j * c) ≤ _
    omega
  · rename_i c hc hg j hj hg2
    have h8 := hpw (j * c)
    have h9 : 0 ≤ pw r c p ∧ pw r c p < p := hem _
    have := pwI_mul h2 h8.1 h8.2 h9.1 h9.2
    show _ ≤ pwn r p (j * c) * _ ∧ pwn r p (j * c) * _ ≤ _
    omega
  · rename_i c hc hg j hj hg2
    have e : (dfs p r xs c j + xs.getD j 0 % p * pwn r p (j * c)).tmod p = dfs p r xs c (j + 1) := dfs_next h1 (Cg.mod p _)
    have e2 : (pwn r p (j * c) * pw r c p).tmod p = pwn r p ((j + 1) * c) := by
      have h8 := hpw (j * c)
      have h9 : 0 ≤ pw r c p ∧ pw r c p < p := hem _
      rw [Int.tmod_eq_emod_of_nonneg (Int.mul_nonneg h8.1 h9.1)]
      show _ = r ^ ((j + 1) * c) % p
      rw [Nat.add_mul, Nat.one_mul, Int.pow_add]
      exact (Cg.mod p _).mul (Cg.mod p _)
    refine GHeld.mk ?_
    refine Exists.intro (j + 1) ?_
    refine And.intro (Leaf.mk ?_) ?_
    · repeat' first | exact True.intro | refine And.intro ?_ ?_
      all_goals try ((change _ = _ <;> try dsimp only) <;> try with_reducible rfl)
      all_goals try omega
      all_goals ((first | exact e | exact e2 | rfl))
    exact ⟨by show j + 1 ≤ xs.length; omega, by show xs.length - (j + 1) < xs.length - j; omega⟩
  · rename_i c hc hg j hj hg2
    show c + 1 ≤ 2147483648
    omega
  · rename_i c hc hg j hj hg2
    have hj' : j = xs.length := by omega
    subst hj'
    refine GHeld.mk ?_
    refine Exists.intro (c + 1) ?_
    refine And.intro (Leaf.mk ?_) ?_
    · repeat' first | exact True.intro | refine And.intro ?_ ?_
      all_goals try ((change _ = _ <;> try dsimp only) <;> try with_reducible rfl)
      all_goals try omega
      all_goals ((first | rfl | skip))
    exact ⟨by show c + 1 ≤ xs.length; omega, by show xs.length - (c + 1) < xs.length - c; omega⟩
  · rename_i c hc hg
    have hc' : c = xs.length := by omega
    subst hc'; rfl

end Go.Eng.Pu
