/- Contracts: primes, powers, roots, fields. Conditions: each contract's own. -/
import Derived.Test.YtcoimlnplaidiaaDoorQ31
import Derived.Test.YtcoimlnplaidiaaDoorQ15
namespace Go.Eng.Pu
open Go.Eng Go.Proofs
set_option linter.all false
set_option maxRecDepth 100000
set_option maxHeartbeats 8000000

noncomputable def isP (n : Int) : Bool := @decide (Pr n) (Classical.propDecidable _)

theorem isP_yes {n : Int} (h : Pr n) : isP n = true := @decide_eq_true _ (Classical.propDecidable _) h
theorem isP_no {n : Int} (h : ¬ Pr n) : isP n = false := @decide_eq_false _ (Classical.propDecidable _) h
theorem isP_pr {n : Int} (h : isP n = true) : Pr n := @of_decide_eq_true _ (Classical.propDecidable _) h

theorem sq_le {a b : Int} (h0 : 0 ≤ a) (h : a ≤ b) : a * a ≤ b * b := Int.mul_le_mul h h h0 (by omega)

theorem sq_46 {a : Int} (h : a * a ≤ 2147483647) : a ≤ 46340 := by
  by_cases h1 : a ≤ 46340
  · exact h1
  · have := sq_le (a := 46341) (b := a) (by omega) (by omega)
    omega

/-- No divisor among 2 to k + 1. -/
def nod (n : Int) (k : Nat) : Prop := ∀ d : Int, 2 ≤ d → d < (k : Int) + 2 → n % d ≠ 0

theorem nod_next {n : Int} {k : Nat} (h : nod n k) (hz : ¬ n % ((k : Int) + 2) = 0) : nod n (k + 1) := fun d h1 h2 => by
  by_cases he : d = (k : Int) + 2
  · rw [he]; exact hz
  · exact h d h1 (by omega)

theorem nod_done {n : Int} {k : Nat} (h2 : 2 ≤ n) (h : nod n k) (hs : n < ((k : Int) + 2) * ((k : Int) + 2)) : Pr n := tr_pr h2 fun d h1 hd => by
  by_cases hk : d < (k : Int) + 2
  · exact h d h1 hk
  · have := sq_le (a := (k : Int) + 2) (b := d) (by omega) (by omega)
    omega

theorem nod_not {n : Int} {k : Nat} (hd : ((k : Int) + 2) * ((k : Int) + 2) ≤ n) (hz : n % ((k : Int) + 2) = 0) : ¬ Pr n := fun h => pr_tr h _ (by omega) hd hz

@[reducible] noncomputable def sIsP : Spec := { pats := [.dat I64], res := [{ t := .bool }], pre := fun x => 2 ≤ x.1 ∧ x.1 ≤ (2147483647 : Int), f := fun x => (isP x.1, ()) }

/-- pulse.isPrime -/
theorem h110 : Ok 84 sIsP := by
  refine mk (ctr := []) trivial (nt := 17) Tryd.func84 rfl rfl rfl rfl (by kernel_rfl) (by kernel_rfl) (fun x => [fun _ => { σ := Nat, pat := fun k => [sI 3 (k + 2 : Int)], inv := fun k => k ≤ 46340 ∧ nod x.1 k, meas := fun k => 46350 - k }]) ?_
  rintro ⟨(n : Int), _⟩ ⟨(h1 : 2 ≤ n), (h2 : n ≤ 2147483647)⟩
  repeat' (intro hzz; (try (rename Two => hq; cases hq)); (try dsimp only at hzz); (try simp only [resTy, argTy, eqD, inR, big, wantOf, Bool.not_true, Bool.not_false, Bool.true_eq, decide_eq_true_eq, decide_eq_false_iff_not, Bool.not_eq_true', Bool.not_eq_false', Bool.and_eq_true, Prod.mk.injEq, and_true, true_and, Int.not_lt, Int.not_le, gt_iff_lt, ge_iff_le] at hzz); (try (first | contradiction | (exfalso; omega))); (try (revert hzz; intro _)))
  all_goals try (rename Unit => hq; clear hq)
  all_goals try ((with_reducible refine Held.mk ?_); (with_reducible (first | refine Frz.mk ?_ | refine And.intro (Frz.mk ?_) ?_ | refine And.intro ?_ (Frz.mk ?_))); repeat' first | exact True.intro | (change _ = _; with_reducible rfl) | refine And.intro ?_ ?_ | (with_reducible refine Frz.mk ?_))
  all_goals try (refine Held.mk ?_; (try dsimp only at *); (try simp only [resTy, argTy, eqD, inR, big, wantOf, Bool.not_true, Bool.not_false, Bool.true_eq, decide_eq_true_eq, decide_eq_false_iff_not, Bool.not_eq_true', Bool.not_eq_false', Bool.and_eq_true, Prod.mk.injEq, and_true, true_and, Int.not_lt, Int.not_le, gt_iff_lt, ge_iff_le] at *))
  all_goals try omega
  · 
    refine GHeld.mk ?_
    refine Exists.intro 0 ?_
    refine And.intro (Leaf.mk ?_) ?_
    · repeat' first | exact True.intro | refine And.intro ?_ ?_
      all_goals try ((change _ = _ <;> try dsimp only) <;> try with_reducible rfl)
      all_goals try omega
      all_goals (rfl)
    exact ⟨Nat.zero_le _, fun d hd hlt => by omega⟩
  · rename_i k hk
    have := sq_le (a := (k : Int) + 2) (b := 46342) (by omega) (by have := hk.1; omega)
    have := Int.mul_nonneg (a := (k : Int) + 2) (b := (k : Int) + 2) (by omega) (by omega)
    omega
  · rename_i k hk hg hz
    rw [Int.tmod_eq_emod_of_nonneg (by omega)] at hz
    exact (isP_no (nod_not hg hz)).symm
  · rename_i k hk hg hz
    rw [Int.tmod_eq_emod_of_nonneg (by omega)] at hz
    have := sq_46 (a := (k : Int) + 2) (by omega)
    refine GHeld.mk ?_
    refine Exists.intro (k + 1) ?_
    refine And.intro (Leaf.mk ?_) ?_
    · repeat' first | exact True.intro | refine And.intro ?_ ?_
      all_goals try ((change _ = _ <;> try dsimp only) <;> try with_reducible rfl)
      all_goals try omega
      all_goals ((show (k : Int) + 2 + 1 = ((k + 1 : Nat) : Int) + 2; omega))
    exact ⟨⟨by omega, nod_next hk.2 hz⟩, by show 46350 - (k + 1) < 46350 - k; omega⟩
  · rename_i k hk hg
    rw [isP_yes (nod_done (by omega) hk.2 hg)]
    exact decide_eq_true (by omega)

@[reducible] def sRPrimesG : Spec := { pats := [.dat I64], res := [{ t := .sl I64 }], pre := fun x => 1 ≤ x.1 ∧ x.1 ≤ (1024 : Int), f := fun x => (prO x.1, ()) }

/-- A power, modulo p. -/
def pw (b e p : Int) : Int := b ^ e.toNat % p

/-- What the loop of a power keeps: the product, the base, the exponent. -/
def pwI (b e p : Int) (s : Int × Int × Int) : Prop := 0 ≤ s.1 ∧ s.1 < p ∧ 0 ≤ s.2.1 ∧ s.2.1 < p ∧ 0 ≤ s.2.2 ∧ s.2.2 ≤ e ∧ Cg p (s.1 * s.2.1 ^ s.2.2.toNat) (b ^ e.toNat)

theorem pwI_mul {p a b : Int} (hp : p ≤ 2147483647) (h1 : 0 ≤ a) (h2 : a < p) (h3 : 0 ≤ b) (h4 : b < p) : 0 ≤ a * b ∧ a * b ≤ 4611686014132420609 := by
  refine ⟨Int.mul_nonneg h1 h3, ?_⟩
  have := Int.mul_le_mul (show a ≤ 2147483647 by omega) (show b ≤ 2147483647 by omega) h3 (by omega)
  omega

theorem pwI_odd {b e p : Int} {s : Int × Int × Int} (hp : 2 ≤ p) (h : pwI b e p s) (h0 : 0 < s.2.2) (h1 : s.2.2.tmod 2 = 1) : pwI b e p ((s.1 * s.2.1).tmod p, (s.2.1 * s.2.1).tmod p, s.2.2.tdiv 2) ∧ (s.2.2.tdiv 2).toNat < s.2.2.toNat := by
  obtain ⟨a, c, m⟩ := s
  obtain ⟨g1, g2, g3, g4, g5, g6, g7⟩ := h
  simp only at *
  rw [Int.tmod_eq_emod_of_nonneg (by omega)] at h1
  rw [Int.tmod_eq_emod_of_nonneg (Int.mul_nonneg g1 g3), Int.tmod_eq_emod_of_nonneg (Int.mul_nonneg g3 g3), Int.tdiv_eq_ediv_of_nonneg (by omega)]
  refine ⟨⟨Int.emod_nonneg _ (by omega), Int.emod_lt_of_pos _ (by omega), Int.emod_nonneg _ (by omega), Int.emod_lt_of_pos _ (by omega), by show 0 ≤ m / 2; omega, by show m / 2 ≤ e; omega, ?_⟩, by omega⟩
  refine Cg.trans ?_ g7
  show Cg p (a * c % p * (c * c % p) ^ (m / 2).toNat) (a * c ^ m.toNat)
  have e : m.toNat = 2 * (m / 2).toNat + 1 := by omega
  have e2 : a * c ^ m.toNat = a * c * (c * c) ^ (m / 2).toNat := by
    rw [e, Int.pow_succ, Int.pow_mul, show c ^ 2 = c * c by rw [Int.pow_succ, Int.pow_succ, Int.pow_zero, Int.one_mul]]
    generalize (c * c) ^ (m / 2).toNat = Z
    grind
  rw [e2]
  exact (Cg.mod p _).mul ((Cg.mod p _).pow _)

theorem pwI_even {b e p : Int} {s : Int × Int × Int} (hp : 2 ≤ p) (h : pwI b e p s) (h0 : 0 < s.2.2) (h1 : ¬ s.2.2.tmod 2 = 1) : pwI b e p (s.1, (s.2.1 * s.2.1).tmod p, s.2.2.tdiv 2) ∧ (s.2.2.tdiv 2).toNat < s.2.2.toNat := by
  obtain ⟨a, c, m⟩ := s
  obtain ⟨g1, g2, g3, g4, g5, g6, g7⟩ := h
  simp only at *
  rw [Int.tmod_eq_emod_of_nonneg (by omega)] at h1
  rw [Int.tmod_eq_emod_of_nonneg (Int.mul_nonneg g3 g3), Int.tdiv_eq_ediv_of_nonneg (by omega)]
  refine ⟨⟨g1, g2, Int.emod_nonneg _ (by omega), Int.emod_lt_of_pos _ (by omega), by show 0 ≤ m / 2; omega, by show m / 2 ≤ e; omega, ?_⟩, by omega⟩
  refine Cg.trans ?_ g7
  show Cg p (a * (c * c % p) ^ (m / 2).toNat) (a * c ^ m.toNat)
  have e : m.toNat = 2 * (m / 2).toNat := by omega
  rw [e, Int.pow_mul, show c ^ 2 = c * c by rw [Int.pow_succ, Int.pow_succ, Int.pow_zero, Int.one_mul]]
  exact (Cg.refl p _).mul ((Cg.mod p _).pow _)

theorem pwI_end {b e p : Int} {s : Int × Int × Int} (h : pwI b e p s) (h0 : s.2.2 ≤ 0) : s.1 = pw b e p := by
  obtain ⟨g1, g2, g3, g4, g5, g6, g7⟩ := h
  rw [show s.2.2.toNat = 0 by omega, Int.pow_zero, Int.mul_one] at g7
  unfold pw
  rw [← g7, Int.emod_eq_of_lt g1 g2]

theorem pwI_start {b c e p : Int} (hp : 2 ≤ p) (h0 : 0 ≤ e) (hc : 0 ≤ c) (hc' : c < p) (h : Cg p c b) : pwI b e p (1, c, e) :=
  ⟨by omega, by show (1 : Int) < p; omega, hc, hc', h0, Int.le_refl _, by show Cg p (1 * c ^ e.toNat) _; rw [Int.one_mul]; exact h.pow _⟩

theorem one_tmod {p : Int} (hp : 2 ≤ p) : (1 : Int).tmod p = 1 := by
  rw [Int.tmod_eq_emod_of_nonneg (by omega), Int.emod_eq_of_lt (by omega) (by omega)]

@[reducible] def sPow : Spec := { pats := [.dat Fld, .dat I64, .dat I64], res := [{ t := I64 }], pre := fun x => 2 ≤ x.1.1.1 ∧ x.1.1.1 ≤ (2147483647 : Int) ∧ (0 : Int) ≤ x.2.2.1 ∧ x.2.2.1 ≤ (4000000000000000000 : Int), f := fun x => (pw x.2.1 x.2.2.1 x.1.1.1, ()) }

/-- field.power -/
theorem h111 : Ok 88 sPow := by
  refine mk (ctr := [(68, sMod)]) ⟨h109, trivial⟩ (nt := 39) Tryd.func88 rfl rfl rfl rfl (by kernel_rfl) (by kernel_rfl) (fun x => [fun _ => { σ := Int × Int × Int, pat := fun s => [sI 7 s.1, sI 1 s.2.1, sI 2 s.2.2], inv := fun s => pwI x.2.1 x.2.2.1 x.1.1.1 s, meas := fun s => s.2.2.toNat }]) ?_
  rintro ⟨⟨⟨(p : Int), (w : Int), (n : Int), _⟩, _⟩, (b : Int), (e : Int), _⟩ ⟨(h1 : 2 ≤ p), (h2 : p ≤ 2147483647), (h3 : 0 ≤ e), (h3b : e ≤ 4000000000000000000)⟩
  repeat' (intro hzz; (try (rename Two => hq; cases hq)); (try dsimp only at hzz); (try simp only [resTy, argTy, eqD, inR, big, wantOf, Bool.not_true, Bool.not_false, Bool.true_eq, decide_eq_true_eq, decide_eq_false_iff_not, Bool.not_eq_true', Bool.not_eq_false', Bool.and_eq_true, Prod.mk.injEq, and_true, true_and, Int.not_lt, Int.not_le, gt_iff_lt, ge_iff_le] at hzz); (try simp only [resTy, argTy, eqD, inR, big, wantOf, Bool.not_true, Bool.not_false, Bool.true_eq, decide_eq_true_eq, decide_eq_false_iff_not, Bool.not_eq_true', Bool.not_eq_false', Bool.and_eq_true, Prod.mk.injEq, and_true, true_and, Int.not_lt, Int.not_le, gt_iff_lt, ge_iff_le, fMod] at hzz); (try (first | contradiction | (exfalso; omega))); (try (revert hzz; intro _)))
  all_goals try (rename Unit => hq; clear hq)
  all_goals try ((with_reducible refine Held.mk ?_); (with_reducible (first | refine Frz.mk ?_ | refine And.intro (Frz.mk ?_) ?_ | refine And.intro ?_ (Frz.mk ?_))); repeat' first | exact True.intro | (change _ = _; with_reducible rfl) | refine And.intro ?_ ?_ | (with_reducible refine Frz.mk ?_))
  all_goals try (refine Held.mk ?_; (try dsimp only at *); (try simp only [resTy, argTy, eqD, inR, big, wantOf, Bool.not_true, Bool.not_false, Bool.true_eq, decide_eq_true_eq, decide_eq_false_iff_not, Bool.not_eq_true', Bool.not_eq_false', Bool.and_eq_true, Prod.mk.injEq, and_true, true_and, Int.not_lt, Int.not_le, gt_iff_lt, ge_iff_le] at *); (try simp only [resTy, argTy, eqD, inR, big, wantOf, Bool.not_true, Bool.not_false, Bool.true_eq, decide_eq_true_eq, decide_eq_false_iff_not, Bool.not_eq_true', Bool.not_eq_false', Bool.and_eq_true, Prod.mk.injEq, and_true, true_and, Int.not_lt, Int.not_le, gt_iff_lt, ge_iff_le, fMod] at *))
  all_goals try omega
  · exact ⟨(show (0 : Int) < p by omega), (show p ≤ (2000000000000000000 : Int) by omega)⟩
  · 
    refine GHeld.mk ?_
    refine Exists.intro (1, b % p, e) ?_
    refine And.intro (Leaf.mk ?_) ?_
    · repeat' first | exact True.intro | refine And.intro ?_ ?_
      all_goals try ((change _ = _ <;> try dsimp only) <;> try with_reducible rfl)
      all_goals try omega
      all_goals ((first | exact one_tmod h1 | rfl))
    exact pwI_start h1 h3 (Int.emod_nonneg _ (by omega)) (Int.emod_lt_of_pos _ (by omega)) (Cg.mod p b)
  · rename_i s hs hg ho
    have := pwI_mul (p := p) (by omega) hs.1 hs.2.1 hs.2.2.1 hs.2.2.2.1
    omega
  · rename_i s hs hg ho
    have := pwI_mul (p := p) (by omega) hs.2.2.1 hs.2.2.2.1 hs.2.2.1 hs.2.2.2.1
    omega
  · rename_i s hs hg ho
    have := hs.2.2.2.2.2.1
    rw [Int.tdiv_eq_ediv_of_nonneg (by omega)]
    omega
  · rename_i s hs hg ho
    have hn := pwI_odd h1 hs hg ho
    refine GHeld.mk ?_
    refine Exists.intro ((s.1 * s.2.1).tmod p, (s.2.1 * s.2.1).tmod p, s.2.2.tdiv 2) ?_
    refine And.intro (Leaf.mk ?_) ?_
    · repeat' first | exact True.intro | refine And.intro ?_ ?_
      all_goals try ((change _ = _ <;> try dsimp only) <;> try with_reducible rfl)
      all_goals try omega
      all_goals (rfl)
    exact hn
  · rename_i s hs hg ho
    have := pwI_mul (p := p) (by omega) hs.2.2.1 hs.2.2.2.1 hs.2.2.1 hs.2.2.2.1
    omega
  · rename_i s hs hg ho
    have := hs.2.2.2.2.2.1
    rw [Int.tdiv_eq_ediv_of_nonneg (by omega)]
    omega
  · rename_i s hs hg ho
    have hn := pwI_even h1 hs hg ho
    refine GHeld.mk ?_
    refine Exists.intro (s.1, (s.2.1 * s.2.1).tmod p, s.2.2.tdiv 2) ?_
    refine And.intro (Leaf.mk ?_) ?_
    · repeat' first | exact True.intro | refine And.intro ?_ ?_
      all_goals try ((change _ = _ <;> try dsimp only) <;> try with_reducible rfl)
      all_goals try omega
      all_goals (rfl)
    exact hn
  · rename_i s hs hg
    exact pwI_end hs hg

@[reducible] def sRPow : Spec := { pats := [.dat I64, .dat I64, .dat I64], res := [{ t := I64 }], pre := fun x => 2 ≤ x.2.2.1 ∧ x.2.2.1 ≤ (2147483647 : Int) ∧ (0 : Int) ≤ x.2.1 ∧ x.2.1 ≤ (4000000000000000000 : Int) ∧ (0 : Int) ≤ x.1 ∧ x.1 < x.2.2.1, f := fun x => (pw x.1 x.2.1 x.2.2.1, ()) }

/-! ### Roots -/

theorem prO_ge {n : Int} (h1 : 1 ≤ n) : ∀ q ∈ prO n, 2 ≤ q := by
  have key : ∀ k : Nat, ∀ q ∈ (rs n k).2, 2 ≤ q := by
    intro k
    induction k with
    | zero => intro q hq; cases hq
    | succ k ih =>
      intro q hq
      have e2 : (rs n (k + 1)).2 = if (rs n k).1 % (k + 2 : Int) = 0 then (rs n k).2 ++ [(k + 2 : Int)] else (rs n k).2 := rfl
      rw [e2] at hq
      split at hq
      · rcases List.mem_append.1 hq with h | h
        · exact ih q h
        · have := List.mem_singleton.1 h; omega
      · exact ih q hq
  intro q hq
  unfold prO at hq
  split at hq
  · rcases List.mem_append.1 hq with h | h
    · exact key _ q h
    · have := List.mem_singleton.1 h; omega
  · exact key _ q hq

theorem prO_short {n : Int} (h1 : 1 ≤ n) (h2 : n ≤ 2000) : (prO n).length ≤ 50 := by
  have := (prK_stop h1 h2).2
  have := rs_len (n := n) (prK n)
  unfold prO
  split
  · rw [List.length_append]; simp; omega
  · omega

theorem getD_mem {xs : List Int} {d : Int} {k : Nat} (h : k < xs.length) : xs.getD k d ∈ xs := by
  simp only [List.getD, List.getElem?_eq_getElem h, Option.getD_some]
  exact List.getElem_mem h

/-- How far none of the primes' powers is 1. -/
def rtE (p w n : Int) : Nat → Nat → Bool
  | 0, _ => true
  | k + 1, i => if pw w (n / (prO n).getD i 0) p = 1 then false else rtE p w n k (i + 1)

theorem rtE_step {p w n : Int} {m i : Nat} (h : 0 < m) : rtE p w n m i = if pw w (n / (prO n).getD i 0) p = 1 then false else rtE p w n (m - 1) (i + 1) := by
  cases m with
  | zero => omega
  | succ m => rfl

def rootB (p w n : Int) : Bool := decide (pw w n p = 1) && rtE p w n (prO n).length 0

@[reducible] def sRoot : Spec := { pats := [.dat Fld], res := [{ t := .bool }], pre := fun x => 2 ≤ x.1.1.1 ∧ x.1.1.1 ≤ (2147483647 : Int) ∧ (1 : Int) ≤ x.1.1.2.2.1 ∧ x.1.1.2.2.1 ≤ (1024 : Int), f := fun x => (rootB x.1.1.1 x.1.1.2.1 x.1.1.2.2.1, ()) }

/-- field.isRoot -/
theorem h112 : Ok 85 sRoot := by
  refine mk (ctr := [(55, sPrimes), (88, sPow)]) ⟨h129, h111, trivial⟩ (nt := 35) Tryd.func85 rfl rfl rfl rfl (by kernel_rfl) (by kernel_rfl) (fun x => [fun _ => { σ := Nat, pat := fun k => [sI 10 k], inv := fun k => k ≤ (prO x.1.1.2.2.1).length ∧ rtE x.1.1.1 x.1.1.2.1 x.1.1.2.2.1 ((prO x.1.1.2.2.1).length - k) k = rtE x.1.1.1 x.1.1.2.1 x.1.1.2.2.1 (prO x.1.1.2.2.1).length 0, meas := fun k => (prO x.1.1.2.2.1).length - k }]) ?_
  rintro ⟨⟨⟨(p : Int), (w : Int), (n : Int), _⟩, _⟩, _⟩ ⟨(h1 : 2 ≤ p), (h2 : p ≤ 2147483647), (h3 : 1 ≤ n), (h4 : n ≤ 1024)⟩
  have hs := prO_short h3 (by omega)
  have hge := prO_ge h3
  have htd : ∀ q : Int, n.tdiv q = n / q := fun q => Int.tdiv_eq_ediv_of_nonneg (by omega)
  repeat' (intro hzz; (try (rename Two => hq; cases hq)); (try dsimp only at hzz); (try simp only [resTy, argTy, eqD, inR, big, wantOf, Bool.not_true, Bool.not_false, Bool.true_eq, decide_eq_true_eq, decide_eq_false_iff_not, Bool.not_eq_true', Bool.not_eq_false', Bool.and_eq_true, Prod.mk.injEq, and_true, true_and, Int.not_lt, Int.not_le, gt_iff_lt, ge_iff_le] at hzz); (try simp only [resTy, argTy, eqD, inR, big, wantOf, Bool.not_true, Bool.not_false, Bool.true_eq, decide_eq_true_eq, decide_eq_false_iff_not, Bool.not_eq_true', Bool.not_eq_false', Bool.and_eq_true, Prod.mk.injEq, and_true, true_and, Int.not_lt, Int.not_le, gt_iff_lt, ge_iff_le, getD_i, htd] at hzz); (try (first | contradiction | (exfalso; omega))); (try (revert hzz; intro _)))
  all_goals try (rename Unit => hq; clear hq)
  all_goals try ((with_reducible refine Held.mk ?_); (with_reducible (first | refine Frz.mk ?_ | refine And.intro (Frz.mk ?_) ?_ | refine And.intro ?_ (Frz.mk ?_))); repeat' first | exact True.intro | (change _ = _; with_reducible rfl) | refine And.intro ?_ ?_ | (with_reducible refine Frz.mk ?_))
  all_goals try (refine Held.mk ?_; (try dsimp only at *); (try simp only [resTy, argTy, eqD, inR, big, wantOf, Bool.not_true, Bool.not_false, Bool.true_eq, decide_eq_true_eq, decide_eq_false_iff_not, Bool.not_eq_true', Bool.not_eq_false', Bool.and_eq_true, Prod.mk.injEq, and_true, true_and, Int.not_lt, Int.not_le, gt_iff_lt, ge_iff_le] at *); (try simp only [resTy, argTy, eqD, inR, big, wantOf, Bool.not_true, Bool.not_false, Bool.true_eq, decide_eq_true_eq, decide_eq_false_iff_not, Bool.not_eq_true', Bool.not_eq_false', Bool.and_eq_true, Prod.mk.injEq, and_true, true_and, Int.not_lt, Int.not_le, gt_iff_lt, ge_iff_le, getD_i, htd] at *))
  all_goals try omega
  · exact ⟨h3, (show n ≤ (2000 : Int) by omega)⟩
  · 
    refine GHeld.mk ?_
    refine Exists.intro 0 ?_
    refine And.intro (Leaf.mk ?_) ?_
    · repeat' first | exact True.intro | refine And.intro ?_ ?_
      all_goals try ((change _ = _ <;> try dsimp only) <;> try with_reducible rfl)
      all_goals try omega
    exact ⟨Nat.zero_le _, rfl⟩
  · rename_i k hk hg
    have hq := hge _ (getD_mem (d := 0) (show k < (prO n).length by omega))
    have := Int.ediv_le_self ((prO n).getD k 0) (show 0 ≤ n by omega)
    have : 0 ≤ n / (prO n).getD k 0 := Int.ediv_nonneg (by omega) (by omega)
    exact ⟨by omega, by omega, by omega⟩
  · rename_i k hk hg
    have hq := hge _ (getD_mem (d := 0) (show k < (prO n).length by omega))
    have := Int.ediv_le_self ((prO n).getD k 0) (show 0 ≤ n by omega)
    have : 0 ≤ n / (prO n).getD k 0 := Int.ediv_nonneg (by omega) (by omega)
    exact ⟨h1, h2, by omega, (show n / (prO n).getD k 0 ≤ (4000000000000000000 : Int) by omega)⟩
  · rename_i k hk hg h
    have e := hk.2
    rw [rtE_step (by omega), if_pos h] at e
    unfold rootB; rw [← e, Bool.and_false]
  · rename_i k hk hg h
    have e := hk.2
    rw [rtE_step (by omega), if_neg h] at e
    refine GHeld.mk ?_
    refine Exists.intro (k + 1) ?_
    refine And.intro (Leaf.mk ?_) ?_
    · repeat' first | exact True.intro | refine And.intro ?_ ?_
      all_goals try ((change _ = _ <;> try dsimp only) <;> try with_reducible rfl)
      all_goals try omega
    exact ⟨⟨by show k + 1 ≤ (prO n).length; omega, e⟩, by show (prO n).length - (k + 1) < (prO n).length - k; omega⟩
  · exact ⟨h1, h2, by omega, (show n ≤ (4000000000000000000 : Int) by omega)⟩
  · rename_i k hk hg
    have e := hk.2
    rw [show (prO n).length - k = 0 by omega] at e
    unfold rootB; rw [← e]; exact (Bool.and_true _).symm

@[reducible] def sRRoot : Spec := { pats := [.dat I64, .dat I64, .dat I64], res := [{ t := .bool }], pre := fun x => 2 ≤ x.2.2.1 ∧ x.2.2.1 ≤ (2147483647 : Int) ∧ (1 : Int) ≤ x.2.1 ∧ x.2.1 ≤ (1024 : Int) ∧ (0 : Int) ≤ x.1 ∧ x.1 < x.2.2.1, f := fun x => (rootB x.2.2.1 x.1 x.2.1, ()) }

/-! ### Fields -/

/-- The error of a field. -/
noncomputable def cfE (p w n : Int) : Int :=
  if (2 ≤ p ∧ p ≤ 2147483647) ∧ (1 ≤ n ∧ n ≤ 1024) ∧ (1 ≤ w ∧ w ≤ p - 1) then (if isP p = true then (if (p - 1) % n = 0 then (if rootB p w n = true then 0 else 20) else 13) else 15) else 2

@[reducible] noncomputable def sCField : Spec := { pats := [.dat Fld0], res := [{ t := I64 }], pre := fun _ => True, f := fun x => (cfE x.1.1 x.1.2.1 x.1.2.2.1, ()) }

/-- CheckField -/
theorem h45 : Ok 76 sCField := by
  refine mk (ctr := [(29, sWithin), (28, sPeriod), (84, sIsP), (52, sUnless), (85, sRoot)]) ⟨h86, h108, h110, h85, h112, trivial⟩ (nt := 40) Tryd.func76 rfl rfl rfl rfl (by kernel_rfl) (by kernel_rfl) (fun _ => []) ?_
  rintro ⟨⟨(p : Int), (w : Int), (n : Int), _⟩, _⟩ _
  by_cases h1 : 2 ≤ p ∧ p ≤ 2147483647
  · by_cases h2 : 1 ≤ n ∧ n ≤ 1024
    · by_cases h3 : 1 ≤ w ∧ w ≤ p - 1
      · have u : cfE p w n = (if isP p = true then (if (p - 1) % n = 0 then (if rootB p w n = true then 0 else 20) else 13) else 15) := by unfold cfE; rw [if_pos ⟨h1, h2, h3⟩]
        have hm : (p - 1).tmod n = (p - 1) % n := Int.tmod_eq_emod_of_nonneg (by omega)
        by_cases h4 : isP p = true
        · rw [if_pos h4] at u
          by_cases h5 : (p - 1) % n = 0
          · rw [if_pos h5] at u
            repeat' (intro hzz; (try (rename Two => hq; cases hq)); (try dsimp only at hzz); (try simp only [resTy, argTy, eqD, inR, big, wantOf, Bool.not_true, Bool.not_false, Bool.true_eq, decide_eq_true_eq, decide_eq_false_iff_not, Bool.not_eq_true', Bool.not_eq_false', Bool.and_eq_true, Prod.mk.injEq, and_true, true_and, Int.not_lt, Int.not_le, gt_iff_lt, ge_iff_le] at hzz); (try simp only [resTy, argTy, eqD, inR, big, wantOf, Bool.not_true, Bool.not_false, Bool.true_eq, decide_eq_true_eq, decide_eq_false_iff_not, Bool.not_eq_true', Bool.not_eq_false', Bool.and_eq_true, Prod.mk.injEq, and_true, true_and, Int.not_lt, Int.not_le, gt_iff_lt, ge_iff_le, fWithin, fPeriod, h4, hm, h5, u] at hzz); (try (first | contradiction | (exfalso; omega))); (try (revert hzz; intro _)))
            all_goals try (rename Unit => hq; clear hq)
            all_goals try ((with_reducible refine Held.mk ?_); (with_reducible (first | refine Frz.mk ?_ | refine And.intro (Frz.mk ?_) ?_ | refine And.intro ?_ (Frz.mk ?_))); repeat' first | exact True.intro | (change _ = _; with_reducible rfl) | refine And.intro ?_ ?_ | (with_reducible refine Frz.mk ?_))
            all_goals try (refine Held.mk ?_; (try dsimp only at *); (try simp only [resTy, argTy, eqD, inR, big, wantOf, Bool.not_true, Bool.not_false, Bool.true_eq, decide_eq_true_eq, decide_eq_false_iff_not, Bool.not_eq_true', Bool.not_eq_false', Bool.and_eq_true, Prod.mk.injEq, and_true, true_and, Int.not_lt, Int.not_le, gt_iff_lt, ge_iff_le] at *); (try simp only [resTy, argTy, eqD, inR, big, wantOf, Bool.not_true, Bool.not_false, Bool.true_eq, decide_eq_true_eq, decide_eq_false_iff_not, Bool.not_eq_true', Bool.not_eq_false', Bool.and_eq_true, Prod.mk.injEq, and_true, true_and, Int.not_lt, Int.not_le, gt_iff_lt, ge_iff_le, fWithin, fPeriod, h4, hm, h5, u] at *))
            all_goals try omega
            · exact ⟨h1.1, h1.2, h2.1, h2.2⟩
            · cases rootB p w n <;> rfl
          · rw [if_neg h5] at u
            repeat' (intro hzz; (try (rename Two => hq; cases hq)); (try dsimp only at hzz); (try simp only [resTy, argTy, eqD, inR, big, wantOf, Bool.not_true, Bool.not_false, Bool.true_eq, decide_eq_true_eq, decide_eq_false_iff_not, Bool.not_eq_true', Bool.not_eq_false', Bool.and_eq_true, Prod.mk.injEq, and_true, true_and, Int.not_lt, Int.not_le, gt_iff_lt, ge_iff_le] at hzz); (try simp only [resTy, argTy, eqD, inR, big, wantOf, Bool.not_true, Bool.not_false, Bool.true_eq, decide_eq_true_eq, decide_eq_false_iff_not, Bool.not_eq_true', Bool.not_eq_false', Bool.and_eq_true, Prod.mk.injEq, and_true, true_and, Int.not_lt, Int.not_le, gt_iff_lt, ge_iff_le, fWithin, fPeriod, h4, hm, h5, u] at hzz); (try (first | contradiction | (exfalso; omega))); (try (revert hzz; intro _)))
            all_goals try (rename Unit => hq; clear hq)
            all_goals try ((with_reducible refine Held.mk ?_); (with_reducible (first | refine Frz.mk ?_ | refine And.intro (Frz.mk ?_) ?_ | refine And.intro ?_ (Frz.mk ?_))); repeat' first | exact True.intro | (change _ = _; with_reducible rfl) | refine And.intro ?_ ?_ | (with_reducible refine Frz.mk ?_))
            all_goals try (refine Held.mk ?_; (try dsimp only at *); (try simp only [resTy, argTy, eqD, inR, big, wantOf, Bool.not_true, Bool.not_false, Bool.true_eq, decide_eq_true_eq, decide_eq_false_iff_not, Bool.not_eq_true', Bool.not_eq_false', Bool.and_eq_true, Prod.mk.injEq, and_true, true_and, Int.not_lt, Int.not_le, gt_iff_lt, ge_iff_le] at *); (try simp only [resTy, argTy, eqD, inR, big, wantOf, Bool.not_true, Bool.not_false, Bool.true_eq, decide_eq_true_eq, decide_eq_false_iff_not, Bool.not_eq_true', Bool.not_eq_false', Bool.and_eq_true, Prod.mk.injEq, and_true, true_and, Int.not_lt, Int.not_le, gt_iff_lt, ge_iff_le, fWithin, fPeriod, h4, hm, h5, u] at *))
            all_goals try omega
        · rw [if_neg h4] at u
          repeat' (intro hzz; (try (rename Two => hq; cases hq)); (try dsimp only at hzz); (try simp only [resTy, argTy, eqD, inR, big, wantOf, Bool.not_true, Bool.not_false, Bool.true_eq, decide_eq_true_eq, decide_eq_false_iff_not, Bool.not_eq_true', Bool.not_eq_false', Bool.and_eq_true, Prod.mk.injEq, and_true, true_and, Int.not_lt, Int.not_le, gt_iff_lt, ge_iff_le] at hzz); (try simp only [resTy, argTy, eqD, inR, big, wantOf, Bool.not_true, Bool.not_false, Bool.true_eq, decide_eq_true_eq, decide_eq_false_iff_not, Bool.not_eq_true', Bool.not_eq_false', Bool.and_eq_true, Prod.mk.injEq, and_true, true_and, Int.not_lt, Int.not_le, gt_iff_lt, ge_iff_le, fWithin, fPeriod, h4, u] at hzz); (try (first | contradiction | (exfalso; omega))); (try (revert hzz; intro _)))
          all_goals try (rename Unit => hq; clear hq)
          all_goals try ((with_reducible refine Held.mk ?_); (with_reducible (first | refine Frz.mk ?_ | refine And.intro (Frz.mk ?_) ?_ | refine And.intro ?_ (Frz.mk ?_))); repeat' first | exact True.intro | (change _ = _; with_reducible rfl) | refine And.intro ?_ ?_ | (with_reducible refine Frz.mk ?_))
          all_goals try (refine Held.mk ?_; (try dsimp only at *); (try simp only [resTy, argTy, eqD, inR, big, wantOf, Bool.not_true, Bool.not_false, Bool.true_eq, decide_eq_true_eq, decide_eq_false_iff_not, Bool.not_eq_true', Bool.not_eq_false', Bool.and_eq_true, Prod.mk.injEq, and_true, true_and, Int.not_lt, Int.not_le, gt_iff_lt, ge_iff_le] at *); (try simp only [resTy, argTy, eqD, inR, big, wantOf, Bool.not_true, Bool.not_false, Bool.true_eq, decide_eq_true_eq, decide_eq_false_iff_not, Bool.not_eq_true', Bool.not_eq_false', Bool.and_eq_true, Prod.mk.injEq, and_true, true_and, Int.not_lt, Int.not_le, gt_iff_lt, ge_iff_le, fWithin, fPeriod, h4, u] at *))
          all_goals try omega
      · have u : cfE p w n = 2 := by unfold cfE; rw [if_neg (fun h => h3 h.2.2)]
        repeat' (intro hzz; (try (rename Two => hq; cases hq)); (try dsimp only at hzz); (try simp only [resTy, argTy, eqD, inR, big, wantOf, Bool.not_true, Bool.not_false, Bool.true_eq, decide_eq_true_eq, decide_eq_false_iff_not, Bool.not_eq_true', Bool.not_eq_false', Bool.and_eq_true, Prod.mk.injEq, and_true, true_and, Int.not_lt, Int.not_le, gt_iff_lt, ge_iff_le] at hzz); (try simp only [resTy, argTy, eqD, inR, big, wantOf, Bool.not_true, Bool.not_false, Bool.true_eq, decide_eq_true_eq, decide_eq_false_iff_not, Bool.not_eq_true', Bool.not_eq_false', Bool.and_eq_true, Prod.mk.injEq, and_true, true_and, Int.not_lt, Int.not_le, gt_iff_lt, ge_iff_le, fWithin, fPeriod, u] at hzz); (try (first | contradiction | (exfalso; omega))); (try (revert hzz; intro _)))
        all_goals try (rename Unit => hq; clear hq)
        all_goals try ((with_reducible refine Held.mk ?_); (with_reducible (first | refine Frz.mk ?_ | refine And.intro (Frz.mk ?_) ?_ | refine And.intro ?_ (Frz.mk ?_))); repeat' first | exact True.intro | (change _ = _; with_reducible rfl) | refine And.intro ?_ ?_ | (with_reducible refine Frz.mk ?_))
        all_goals try (refine Held.mk ?_; (try dsimp only at *); (try simp only [resTy, argTy, eqD, inR, big, wantOf, Bool.not_true, Bool.not_false, Bool.true_eq, decide_eq_true_eq, decide_eq_false_iff_not, Bool.not_eq_true', Bool.not_eq_false', Bool.and_eq_true, Prod.mk.injEq, and_true, true_and, Int.not_lt, Int.not_le, gt_iff_lt, ge_iff_le] at *); (try simp only [resTy, argTy, eqD, inR, big, wantOf, Bool.not_true, Bool.not_false, Bool.true_eq, decide_eq_true_eq, decide_eq_false_iff_not, Bool.not_eq_true', Bool.not_eq_false', Bool.and_eq_true, Prod.mk.injEq, and_true, true_and, Int.not_lt, Int.not_le, gt_iff_lt, ge_iff_le, fWithin, fPeriod, u] at *))
        all_goals try omega
    · have u : cfE p w n = 2 := by unfold cfE; rw [if_neg (fun h => h2 h.2.1)]
      repeat' (intro hzz; (try (rename Two => hq; cases hq)); (try dsimp only at hzz); (try simp only [resTy, argTy, eqD, inR, big, wantOf, Bool.not_true, Bool.not_false, Bool.true_eq, decide_eq_true_eq, decide_eq_false_iff_not, Bool.not_eq_true', Bool.not_eq_false', Bool.and_eq_true, Prod.mk.injEq, and_true, true_and, Int.not_lt, Int.not_le, gt_iff_lt, ge_iff_le] at hzz); (try simp only [resTy, argTy, eqD, inR, big, wantOf, Bool.not_true, Bool.not_false, Bool.true_eq, decide_eq_true_eq, decide_eq_false_iff_not, Bool.not_eq_true', Bool.not_eq_false', Bool.and_eq_true, Prod.mk.injEq, and_true, true_and, Int.not_lt, Int.not_le, gt_iff_lt, ge_iff_le, fWithin, fPeriod, u] at hzz); (try (first | contradiction | (exfalso; omega))); (try (revert hzz; intro _)))
      all_goals try (rename Unit => hq; clear hq)
      all_goals try ((with_reducible refine Held.mk ?_); (with_reducible (first | refine Frz.mk ?_ | refine And.intro (Frz.mk ?_) ?_ | refine And.intro ?_ (Frz.mk ?_))); repeat' first | exact True.intro | (change _ = _; with_reducible rfl) | refine And.intro ?_ ?_ | (with_reducible refine Frz.mk ?_))
      all_goals try (refine Held.mk ?_; (try dsimp only at *); (try simp only [resTy, argTy, eqD, inR, big, wantOf, Bool.not_true, Bool.not_false, Bool.true_eq, decide_eq_true_eq, decide_eq_false_iff_not, Bool.not_eq_true', Bool.not_eq_false', Bool.and_eq_true, Prod.mk.injEq, and_true, true_and, Int.not_lt, Int.not_le, gt_iff_lt, ge_iff_le] at *); (try simp only [resTy, argTy, eqD, inR, big, wantOf, Bool.not_true, Bool.not_false, Bool.true_eq, decide_eq_true_eq, decide_eq_false_iff_not, Bool.not_eq_true', Bool.not_eq_false', Bool.and_eq_true, Prod.mk.injEq, and_true, true_and, Int.not_lt, Int.not_le, gt_iff_lt, ge_iff_le, fWithin, fPeriod, u] at *))
      all_goals try omega
  · have u : cfE p w n = 2 := by unfold cfE; rw [if_neg (fun h => h1 h.1)]
    repeat' (intro hzz; (try (rename Two => hq; cases hq)); (try dsimp only at hzz); (try simp only [resTy, argTy, eqD, inR, big, wantOf, Bool.not_true, Bool.not_false, Bool.true_eq, decide_eq_true_eq, decide_eq_false_iff_not, Bool.not_eq_true', Bool.not_eq_false', Bool.and_eq_true, Prod.mk.injEq, and_true, true_and, Int.not_lt, Int.not_le, gt_iff_lt, ge_iff_le] at hzz); (try simp only [resTy, argTy, eqD, inR, big, wantOf, Bool.not_true, Bool.not_false, Bool.true_eq, decide_eq_true_eq, decide_eq_false_iff_not, Bool.not_eq_true', Bool.not_eq_false', Bool.and_eq_true, Prod.mk.injEq, and_true, true_and, Int.not_lt, Int.not_le, gt_iff_lt, ge_iff_le, fWithin, fPeriod, u] at hzz); (try (first | contradiction | (exfalso; omega))); (try (revert hzz; intro _)))
    all_goals try (rename Unit => hq; clear hq)
    all_goals try ((with_reducible refine Held.mk ?_); (with_reducible (first | refine Frz.mk ?_ | refine And.intro (Frz.mk ?_) ?_ | refine And.intro ?_ (Frz.mk ?_))); repeat' first | exact True.intro | (change _ = _; with_reducible rfl) | refine And.intro ?_ ?_ | (with_reducible refine Frz.mk ?_))
    all_goals try (refine Held.mk ?_; (try dsimp only at *); (try simp only [resTy, argTy, eqD, inR, big, wantOf, Bool.not_true, Bool.not_false, Bool.true_eq, decide_eq_true_eq, decide_eq_false_iff_not, Bool.not_eq_true', Bool.not_eq_false', Bool.and_eq_true, Prod.mk.injEq, and_true, true_and, Int.not_lt, Int.not_le, gt_iff_lt, ge_iff_le] at *); (try simp only [resTy, argTy, eqD, inR, big, wantOf, Bool.not_true, Bool.not_false, Bool.true_eq, decide_eq_true_eq, decide_eq_false_iff_not, Bool.not_eq_true', Bool.not_eq_false', Bool.and_eq_true, Prod.mk.injEq, and_true, true_and, Int.not_lt, Int.not_le, gt_iff_lt, ge_iff_le, fWithin, fPeriod, u] at *))
    all_goals try omega

end Go.Eng.Pu
