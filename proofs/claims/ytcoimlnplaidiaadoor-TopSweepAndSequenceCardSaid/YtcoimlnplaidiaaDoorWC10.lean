/- Contracts: sweeps divided: Divided, of the program and of the reference. Conditions: each contract's own. Contracts: the primes of a number; equal lists. Conditions: each contract's own. Contracts: CheckMaximal, IsMaximal, the reference's primes; what CheckMaximal says of the right primes. Conditions: each contract's own. Maximal registers: each start has the whole period; signs add up to -1, and correlate with themselves with -1. Plain laws. Conditions: the register is right and maximal. Arithmetic modulo a prime: Euclid, Fermat, roots, there and back. Plain laws. -/
import Derived.Test.YtcoimlnplaidiaaDoorWC9
import Derived.Test.YtcoimlnplaidiaaDoorWC8
namespace Go.Eng.Pu
open Go.Eng Go.Proofs
set_option linter.all false
set_option maxRecDepth 100000
set_option maxHeartbeats 8000000

@[reducible] def x8 : Xt := { fuel := 8 }
theorem x8_ok : Its x8.its := True.intro

def qL : List IP := [(1, 0, ()), (0, 1, ()), (-1, 0, ()), (0, -1, ())]
/-- i to a power. -/
def qrt (n : Int) : IP := qL.getD (n.tmod 4).toNat (0, 0, ())

@[reducible] def sQuart : Spec := { pats := [.dat I64], res := [{ t := PairT }], pre := fun x => (0 : Int) ≤ x.1, f := fun x => (qrt x.1, ()) }

/-- ref.quarter -/
theorem h140 : Ok 31 sQuart := by
  refine mk (ctr := []) trivial (nt := 11) Tryd.func31 rfl rfl rfl rfl (by kernel_rfl) (by kernel_rfl) (fun _ => []) ?_
  rintro ⟨(n : Int), _⟩ (h : 0 ≤ n)
  have h1 : 0 ≤ n.tmod 4 ∧ n.tmod 4 < 4 := by rw [Int.tmod_eq_emod_of_nonneg h]; omega
  repeat' (intro hzz; (try (rename Two => hq; cases hq)); (try dsimp only at hzz); (try simp only [resTy, argTy, eqD, inR, big, wantOf, Bool.not_true, Bool.not_false, Bool.true_eq, decide_eq_true_eq, decide_eq_false_iff_not, Bool.not_eq_true', Bool.not_eq_false', Bool.and_eq_true, Prod.mk.injEq, and_true, true_and, Int.not_lt, Int.not_le, gt_iff_lt, ge_iff_le] at hzz); (try (first | contradiction | (exfalso; omega))); (try (revert hzz; intro _)))
  all_goals try (rename Unit => hq; clear hq)
  all_goals try ((with_reducible refine Held.mk ?_); (with_reducible (first | refine Frz.mk ?_ | refine And.intro (Frz.mk ?_) ?_ | refine And.intro ?_ (Frz.mk ?_))); repeat' first | exact True.intro | (change _ = _; with_reducible rfl) | refine And.intro ?_ ?_ | (with_reducible refine Frz.mk ?_))
  all_goals try (refine Held.mk ?_; (try dsimp only at *); (try simp only [resTy, argTy, eqD, inR, big, wantOf, Bool.not_true, Bool.not_false, Bool.true_eq, decide_eq_true_eq, decide_eq_false_iff_not, Bool.not_eq_true', Bool.not_eq_false', Bool.and_eq_true, Prod.mk.injEq, and_true, true_and, Int.not_lt, Int.not_le, gt_iff_lt, ge_iff_le] at *))
  all_goals try omega
  exact ⟨rfl, rfl⟩

def unB (p : IP) : Bool := decide (p.1 * p.1 + p.2.1 * p.2.1 = 1)
def conjP (p : IP) : IP := (p.1, -p.2.1, ())

@[reducible] def sUnit : Spec := { pats := [.dat PairT], res := [{ t := .bool }], pre := fun x => inBP 16777216 x.1, f := fun x => (unB x.1, ()) }

/-- pair.isUnit -/
theorem h135 : Ok 39 sUnit := by
  refine mk (ctr := []) trivial (nt := 15) Tryd.func39 rfl rfl rfl rfl (by kernel_rfl) (by kernel_rfl) (fun _ => []) ?_
  rintro ⟨⟨(a : Int), (b : Int), _⟩, _⟩ ⟨(h1 : -16777216 ≤ a ∧ a ≤ 16777216), (h2 : -16777216 ≤ b ∧ b ≤ 16777216)⟩
  have h3 := mul_in24 h1 h1
  have h4 := mul_in24 h2 h2
  repeat' (intro hzz; (try (rename Two => hq; cases hq)); (try dsimp only at hzz); (try simp only [resTy, argTy, eqD, inR, big, wantOf, Bool.not_true, Bool.not_false, Bool.true_eq, decide_eq_true_eq, decide_eq_false_iff_not, Bool.not_eq_true', Bool.not_eq_false', Bool.and_eq_true, Prod.mk.injEq, and_true, true_and, Int.not_lt, Int.not_le, gt_iff_lt, ge_iff_le] at hzz); (try (revert hzz; intro _)))
  all_goals try (rename Unit => hq; clear hq)
  all_goals try ((with_reducible refine Held.mk ?_); (with_reducible (first | refine Frz.mk ?_ | refine And.intro (Frz.mk ?_) ?_ | refine And.intro ?_ (Frz.mk ?_))); repeat' first | exact True.intro | (change _ = _; with_reducible rfl) | refine And.intro ?_ ?_ | (with_reducible refine Frz.mk ?_))
  all_goals try (refine Held.mk ?_; (try dsimp only at *); (try simp only [resTy, argTy, eqD, inR, big, wantOf, Bool.not_true, Bool.not_false, Bool.true_eq, decide_eq_true_eq, decide_eq_false_iff_not, Bool.not_eq_true', Bool.not_eq_false', Bool.and_eq_true, Prod.mk.injEq, and_true, true_and, Int.not_lt, Int.not_le, gt_iff_lt, ge_iff_le] at *))
  all_goals try omega
  rfl

@[reducible] def sOver : Spec := { pats := [.dat PairT, .dat PairT], res := [{ t := PairT }], pre := fun x => okT x.1 (conjP x.2.1) ∧ okI x.2.1.2.1, f := fun x => (timesP x.1 (conjP x.2.1), ()) }

/-- pair.over -/
theorem h136 : Ok 41 sOver := by
  refine mk (ctr := [(38, sTimes)]) ⟨h134, trivial⟩ (nt := 13) Tryd.func41 rfl rfl rfl rfl (by kernel_rfl) (by kernel_rfl) (fun _ => []) ?_
  rintro ⟨⟨(a : Int), (b : Int), _⟩, ⟨(c : Int), (d : Int), _⟩, _⟩ ⟨(h1 : okT (a, b, ()) (c, -d, ())), (h2 : okI d)⟩
  repeat' (intro hzz; (try (rename Two => hq; cases hq)); (try dsimp only at hzz); (try simp only [resTy, argTy, eqD, inR, big, wantOf, Bool.not_true, Bool.not_false, Bool.true_eq, decide_eq_true_eq, decide_eq_false_iff_not, Bool.not_eq_true', Bool.not_eq_false', Bool.and_eq_true, Prod.mk.injEq, and_true, true_and, Int.not_lt, Int.not_le, gt_iff_lt, ge_iff_le] at hzz); (try simp only [resTy, argTy, eqD, inR, big, wantOf, Bool.not_true, Bool.not_false, Bool.true_eq, decide_eq_true_eq, decide_eq_false_iff_not, Bool.not_eq_true', Bool.not_eq_false', Bool.and_eq_true, Prod.mk.injEq, and_true, true_and, Int.not_lt, Int.not_le, gt_iff_lt, ge_iff_le, okI] at hzz); (try (revert hzz; intro _)))
  all_goals try (rename Unit => hq; clear hq)
  all_goals try ((with_reducible refine Held.mk ?_); (with_reducible (first | refine Frz.mk ?_ | refine And.intro (Frz.mk ?_) ?_ | refine And.intro ?_ (Frz.mk ?_))); repeat' first | exact True.intro | (change _ = _; with_reducible rfl) | refine And.intro ?_ ?_ | (with_reducible refine Frz.mk ?_))
  all_goals try (refine Held.mk ?_; (try dsimp only at *); (try simp only [resTy, argTy, eqD, inR, big, wantOf, Bool.not_true, Bool.not_false, Bool.true_eq, decide_eq_true_eq, decide_eq_false_iff_not, Bool.not_eq_true', Bool.not_eq_false', Bool.and_eq_true, Prod.mk.injEq, and_true, true_and, Int.not_lt, Int.not_le, gt_iff_lt, ge_iff_le] at *); (try simp only [resTy, argTy, eqD, inR, big, wantOf, Bool.not_true, Bool.not_false, Bool.true_eq, decide_eq_true_eq, decide_eq_false_iff_not, Bool.not_eq_true', Bool.not_eq_false', Bool.and_eq_true, Prod.mk.injEq, and_true, true_and, Int.not_lt, Int.not_le, gt_iff_lt, ge_iff_le, okI] at *))
  all_goals try omega
  exact ⟨rfl, rfl⟩

theorem sq_nn (a : Int) : 0 ≤ a * a := by
  rcases Int.le_total 0 a with h | h
  · exact Int.mul_nonneg h h
  · exact Int.mul_nonneg_of_nonpos_of_nonpos h h

theorem sq_one {a b : Int} (h : a * a + b * b = 1) : (a = 1 ∧ b = 0) ∨ (a = 0 ∧ b = 1) ∨ (a = -1 ∧ b = 0) ∨ (a = 0 ∧ b = -1) := by
  have ha : ((a.natAbs * a.natAbs : Nat) : Int) = a * a := by rw [← Int.natAbs_mul]; exact Int.natAbs_of_nonneg (sq_nn a)
  have hb : ((b.natAbs * b.natAbs : Nat) : Int) = b * b := by rw [← Int.natAbs_mul]; exact Int.natAbs_of_nonneg (sq_nn b)
  have h1 : a.natAbs * a.natAbs + b.natAbs * b.natAbs = 1 := by omega
  have key : ∀ x : Nat, x * x ≤ 1 → x ≤ 1 := fun x hx => by
    rcases Nat.lt_or_ge x 2 with h | h
    · omega
    · have := Nat.mul_le_mul h h; omega
  have h2 := key a.natAbs (by omega)
  have h3 := key b.natAbs (by omega)
  have h4 : a = 0 ∨ a = 1 ∨ a = -1 := by omega
  have h5 : b = 0 ∨ b = 1 ∨ b = -1 := by omega
  rcases h4 with rfl | rfl | rfl <;> rcases h5 with rfl | rfl | rfl <;> first | omega | (exfalso; revert h; decide)

theorem unB_iff (p : IP) : unB p = true ↔ p = qrt 0 ∨ p = qrt 1 ∨ p = qrt 2 ∨ p = qrt 3 := by
  constructor
  · intro h
    have h := sq_one (of_decide_eq_true h)
    obtain ⟨a, b, u⟩ := p
    rcases h with ⟨h1, h2⟩ | ⟨h1, h2⟩ | ⟨h1, h2⟩ | ⟨h1, h2⟩ <;> (simp only at h1 h2; subst h1 h2)
    · exact .inl rfl
    · exact .inr (.inl rfl)
    · exact .inr (.inr (.inl rfl))
    · exact .inr (.inr (.inr rfl))
  · rintro (rfl | rfl | rfl | rfl) <;> rfl

/-! ### Sums of pairs -/

def suP (f : Nat → IP) : Nat → IP
  | 0 => (0, 0, ())
  | n + 1 => plusP (suP f n) (f n)

theorem suP_congr {f g : Nat → IP} : ∀ {n : Nat}, (∀ i, i < n → f i = g i) → suP f n = suP g n
  | 0, _ => rfl
  | n + 1, h => by
    show plusP (suP f n) (f n) = plusP (suP g n) (g n)
    rw [suP_congr fun i hi => h i (by omega), h n (by omega)]

theorem plusP_assoc (a b c : IP) : plusP (plusP a b) c = plusP a (plusP b c) := by
  show (a.1 + b.1 + c.1, a.2.1 + b.2.1 + c.2.1, ()) = (a.1 + (b.1 + c.1), a.2.1 + (b.2.1 + c.2.1), ())
  rw [Int.add_assoc, Int.add_assoc]
theorem plusP_comm (a b : IP) : plusP a b = plusP b a := by
  show (a.1 + b.1, a.2.1 + b.2.1, ()) = (b.1 + a.1, b.2.1 + a.2.1, ())
  rw [Int.add_comm, Int.add_comm a.2.1]

theorem suP_front (f : Nat → IP) : ∀ n : Nat, suP f (n + 1) = plusP (f 0) (suP (fun i => f (i + 1)) n)
  | 0 => by
    show plusP (0, 0, ()) (f 0) = plusP (f 0) (0, 0, ())
    rw [plusP_zero, plusP_zero']
  | n + 1 => by
    show plusP (suP f (n + 1)) (f (n + 1)) = plusP (f 0) (plusP (suP (fun i => f (i + 1)) n) (f (n + 1)))
    rw [suP_front f n, plusP_assoc]

theorem suP_rev (F : Nat → IP) : ∀ n : Nat, suP (fun j => F (n - j)) n = suP (fun i => F (i + 1)) n
  | 0 => rfl
  | n + 1 => by
    rw [suP_front]
    have e : suP (fun i => F (n + 1 - (i + 1))) n = suP (fun j => F (n - j)) n := suP_congr fun i _ => by rw [Nat.add_sub_add_right]
    rw [e, suP_rev F n]
    exact plusP_comm _ _

theorem suP_cut {f : Nat → IP} {m : Nat} : ∀ {n : Nat}, m ≤ n → (∀ i, m ≤ i → i < n → f i = (0, 0, ())) → suP f n = suP f m
  | 0, h, _ => by rw [show m = 0 by omega]
  | n + 1, h, hz => by
    by_cases he : m = n + 1
    · rw [he]
    · show plusP (suP f n) (f n) = _
      rw [hz n (by omega) (by omega), plusP_zero]
      exact suP_cut (by omega) fun i h1 h2 => hz i h1 (by omega)

theorem suP_in {f : Nat → IP} (h : ∀ i, inBP 562949953421312 (f i)) : ∀ n : Nat, inBP (n * 562949953421312) (suP f n)
  | 0 => by show (_ ≤ (0 : Int) ∧ (0 : Int) ≤ _) ∧ (_ ≤ (0 : Int) ∧ (0 : Int) ≤ _); omega
  | n + 1 => by
    have := plusP_in (suP_in h n) (h n)
    rw [show ((n + 1 : Nat) : Int) * 562949953421312 = (n : Int) * 562949953421312 + 562949953421312 by omega]
    exact this

theorem less_plus (a b c : IP) : lessP (lessP a b) c = lessP a (plusP b c) := by
  show (a.1 - b.1 - c.1, a.2.1 - b.2.1 - c.2.1, ()) = (a.1 - (b.1 + c.1), a.2.1 - (b.2.1 + c.2.1), ())
  rw [Int.sub_sub, Int.sub_sub]

@[irreducible] def Hid (p : Prop) : Prop := p
theorem Hid.mk {p : Prop} (h : p) : Hid p := by unfold Hid; exact h
theorem Hid.out {p : Prop} (h : Hid p) : p := by unfold Hid at h; exact h

theorem fits_no {p : IP} (h : ¬ inBP 16777216 p) : fits p = false := by
  cases hf : fits p with
  | false => rfl
  | true =>
    have hf : (fRec p.1 && fRec p.2.1) = true := hf
    rw [Bool.and_eq_true] at hf
    exact absurd ⟨of_decide_eq_true hf.1, of_decide_eq_true hf.2⟩ h

theorem beqP_iff (p q : IP) : Ty.beq PairT p q = true ↔ p = q := by
  obtain ⟨a, b, u⟩ := p
  obtain ⟨c, d, u'⟩ := q
  simp [Ty.beq]

/-! ### Divided -/

/-- What the number j has left at the place t; the same, told by the distance. -/
def dvG (qs out : List IP) (t j : Nat) : IP := if t - j < qs.length then timesP (out.getD j (0, 0, ())) (qs.getD (t - j) (0, 0, ())) else (0, 0, ())
def dvH (qs out : List IP) (t i : Nat) : IP := timesP (out.getD (t - (i + 1)) (0, 0, ())) (qs.getD (i + 1) (0, 0, ()))
def dvS (ps qs out : List IP) (t : Nat) : IP := lessP (ps.getD t (0, 0, ())) (suP (dvG qs out t) t)
def dvN (ps qs out : List IP) (t : Nat) : IP := timesP (dvS ps qs out t) (conjP (qs.getD 0 (0, 0, ())))
def dvR (ps qs : List IP) : Nat → List IP
  | 0 => []
  | t + 1 => dvR ps qs t ++ [dvN ps qs (dvR ps qs t) t]

theorem dvR_len (ps qs : List IP) : ∀ t : Nat, (dvR ps qs t).length = t
  | 0 => rfl
  | t + 1 => by
    show (dvR ps qs t ++ [_]).length = t + 1
    rw [List.length_append, dvR_len ps qs t]; rfl

theorem dvH_end {qs out : List IP} {t m : Nat} (h1 : m ≤ t) (h2 : m = t ∨ qs.length ≤ m + 1) (h3 : m = 0 ∨ m < qs.length) : suP (dvH qs out t) m = suP (dvG qs out t) t := by
  let F : Nat → IP := fun k => if k < qs.length then timesP (out.getD (t - k) (0, 0, ())) (qs.getD k (0, 0, ())) else (0, 0, ())
  have a1 : suP (dvG qs out t) t = suP (fun j => F (t - j)) t := suP_congr fun i hi => by
    show (if t - i < qs.length then _ else _) = if t - i < qs.length then timesP (out.getD (t - (t - i)) (0, 0, ())) _ else _
    rw [show t - (t - i) = i by omega]
  have a2 := suP_rev F t
  have a3 : suP (fun i => F (i + 1)) t = suP (fun i => F (i + 1)) m := suP_cut h1 fun i hi hit => by
    show (if i + 1 < qs.length then _ else _) = _
    rw [if_neg (by omega)]
  have a4 : suP (fun i => F (i + 1)) m = suP (dvH qs out t) m := suP_congr fun i hi => by
    show (if i + 1 < qs.length then _ else _) = _
    rw [if_pos (by omega)]; rfl
  rw [a1, a2, a3, a4]

theorem allFit_app (xs ys : List IP) : allFit (xs ++ ys) = (allFit xs && allFit ys) := by
  unfold allFit; rw [List.all_append]

theorem dvR_no {ps qs : List IP} {t : Nat} (h : fits (dvN ps qs (dvR ps qs t) t) = false) : ∀ m : Nat, t < m → allFit (dvR ps qs m) = false
  | 0, hm => by omega
  | m + 1, hm => by
    show allFit (dvR ps qs m ++ [_]) = false
    rw [allFit_app]
    by_cases he : t = m
    · subst he
      have : allFit [dvN ps qs (dvR ps qs t) t] = false := by unfold allFit; simp [h]
      rw [this, Bool.and_false]
    · rw [dvR_no h m (by omega), Bool.false_and]

theorem dvR_yes {ps qs : List IP} {t : Nat} (h1 : allFit (dvR ps qs t) = true) (h2 : fits (dvN ps qs (dvR ps qs t) t) = true) : allFit (dvR ps qs (t + 1)) = true := by
  show allFit (dvR ps qs t ++ [_]) = true
  rw [allFit_app, h1]
  unfold allFit; simp [h2]

def lessP_in {A B : Int} {a b : IP} (ha : inBP A a) (hb : inBP B b) : inBP (A + B) (lessP a b) := by
  obtain ⟨a1, a2⟩ := ha
  obtain ⟨b1, b2⟩ := hb
  show (_ ≤ a.1 - b.1 ∧ a.1 - b.1 ≤ _) ∧ (_ ≤ a.2.1 - b.2.1 ∧ a.2.1 - b.2.1 ≤ _)
  omega

theorem dvG_in {qs out : List IP} (hb : okL 16777216 qs) (ho : okL 16777216 out) (t j : Nat) : inBP 562949953421312 (dvG qs out t j) := by
  unfold dvG
  split
  · exact timesP_in (okL_inBP ho j) (okL_inBP hb (t - j))
  · show (_ ≤ (0 : Int) ∧ (0 : Int) ≤ _) ∧ (_ ≤ (0 : Int) ∧ (0 : Int) ≤ _); omega
theorem dvH_in {qs out : List IP} (hb : okL 16777216 qs) (ho : okL 16777216 out) (t i : Nat) : inBP 562949953421312 (dvH qs out t i) := timesP_in (okL_inBP ho _) (okL_inBP hb _)

theorem dvP_in {ps qs out : List IP} (ha : okL 16777216 ps) (hb : okL 16777216 qs) (ho : okL 16777216 out) {t j : Nat} (hj : j ≤ 1024) : inBP 600000000000000000 (lessP (ps.getD t (0, 0, ())) (suP (dvG qs out t) j)) :=
  inBP_mono (lessP_in (okL_inBP ha t) (suP_in (dvG_in hb ho t) j)) (by omega)
theorem dvQ_in {ps qs out : List IP} (ha : okL 16777216 ps) (hb : okL 16777216 qs) (ho : okL 16777216 out) {t j : Nat} (hj : j ≤ 1024) : inBP 600000000000000000 (lessP (ps.getD t (0, 0, ())) (suP (dvH qs out t) j)) :=
  inBP_mono (lessP_in (okL_inBP ha t) (suP_in (dvH_in hb ho t) j)) (by omega)

theorem unit_in {p : IP} (h : unB p = true) : (-1 ≤ p.1 ∧ p.1 ≤ 1) ∧ (-1 ≤ p.2.1 ∧ p.2.1 ≤ 1) := by
  rcases (unB_iff p).1 h with rfl | rfl | rfl | rfl <;> exact ⟨by decide, by decide⟩

theorem okT_unit {a u : IP} (ha : inBP 600000000000000000 a) (hu : unB u = true) : okT a (conjP u) := by
  have h := unit_in hu
  have e1 := by_in ha.1.1 ha.1.2 h.1.1 h.1.2
  have e2 := by_in (s := -u.2.1) ha.2.1 ha.2.2 (by omega) (by omega)
  have e3 := by_in (s := -u.2.1) ha.1.1 ha.1.2 (by omega) (by omega)
  have e4 := by_in ha.2.1 ha.2.2 h.1.1 h.1.2
  exact ⟨by show okI (a.1 * u.1); unfold okI; omega, by show okI (a.2.1 * -u.2.1); unfold okI; omega, by show okI (a.1 * -u.2.1); unfold okI; omega, by show okI (a.2.1 * u.1); unfold okI; omega⟩

theorem timesU_in {a u : IP} (ha : inBP 600000000000000000 a) (hu : unB u = true) : okI (timesP a (conjP u)).1 ∧ okI (timesP a (conjP u)).2.1 := by
  have h := unit_in hu
  have e1 := by_in ha.1.1 ha.1.2 h.1.1 h.1.2
  have e2 := by_in (s := -u.2.1) ha.2.1 ha.2.2 (by omega) (by omega)
  have e3 := by_in (s := -u.2.1) ha.1.1 ha.1.2 (by omega) (by omega)
  have e4 := by_in ha.2.1 ha.2.2 h.1.1 h.1.2
  exact ⟨by show okI (a.1 * u.1 - a.2.1 * -u.2.1); unfold okI; omega, by show okI (a.1 * -u.2.1 + a.2.1 * u.1); unfold okI; omega⟩

/-- The error and the result. -/
def dvE (a b : CL) : Int := if twE a b = 0 then (if unB ((lP b).getD 0 (0, 0, ())) = true then tE (dvR (lP a) (lP b) (lP a).length) else 15) else twE a b
def dvL (a b : CL) : CL := if twE a b = 0 then (if unB ((lP b).getD 0 (0, 0, ())) = true then tL (dvR (lP a) (lP b) (lP a).length) else []) else []

@[reducible] def sDiv : Spec := { pats := [.dat (.sl C64), .dat (.sl C64)], res := [{ own := some 48, t := .sl C64 }, { t := I64 }], pre := fun _ => True, f := fun x => (dvL x.1 x.2.1, dvE x.1 x.2.1, ()) }

theorem unit_okT {a b : CL} (h : twE a b = 0) (k : Nat) : inBP 16777216 ((lP a).getD k (0, 0, ())) ∧ inBP 16777216 ((lP b).getD k (0, 0, ())) :=
  ⟨okL_inBP (lP_okL (twE_zero h).1) k, okL_inBP (lP_okL (twE_zero h).2) k⟩

/-- Divided -/
theorem h73 : Ok 17 sDiv := by
  refine mk (ctr := [(36, sTwoL), (39, sUnit), (38, sTimes), (40, sLess), (41, sOver), (42, sFits), (30, sTold)]) ⟨h133, h135, h134, h123, h136, h137, h93n, trivial⟩ (nt := 79) Tryd.func17 rfl rfl rfl rfl (by kernel_rfl) (by kernel_rfl) (fun x => [fun _ => { σ := Nat, pat := fun t => [sI 33 t] ++ rOwn 9 60009 69 PairT (dvR (lP x.1) (lP x.2.1) t), inv := fun t => t ≤ List.length (α := IP) (lP x.1) ∧ allFit (dvR (lP x.1) (lP x.2.1) t) = true, meas := fun t => List.length (α := IP) (lP x.1) - t }, fun st => withI 33 st fun t => { σ := Nat, pat := fun j => [sI 40 j, .cell 11 0 (.d I64 (lessP ((lP x.1).getD t.toNat (0, 0, ())) (suP (dvG (lP x.2.1) (dvR (lP x.1) (lP x.2.1) t.toNat) t.toNat) j)).1), .cell 11 1 (.d I64 (lessP ((lP x.1).getD t.toNat (0, 0, ())) (suP (dvG (lP x.2.1) (dvR (lP x.1) (lP x.2.1) t.toNat) t.toNat) j)).2.1)], inv := fun j => j ≤ t.toNat, meas := fun j => t.toNat - j }]) ?_
  rintro ⟨(a : CL), (b : CL), _⟩ _
  by_cases h : twE a b = 0
  · obtain ⟨ha, hb⟩ := twE_zero h
    have hla := lP_len ha
    have hlb := lP_len hb
    have hla2 := lE_ok ha
    have hlb2 := lE_ok hb
    have hoa := lP_okL ha
    have hob := lP_okL hb
    have ht : twL a b = lP b := by unfold twL; rw [if_pos ha]
    have ht2 : ∀ {p q : IP} {k : Nat} {x : IP}, lessP p (timesP q ((lP b).getD k (0, 0, ()))) = x → lessP p (timesP q ((twL a b).getD k (0, 0, ()))) = x := fun h => by rw [ht]; exact h
    by_cases hu : unB ((lP b).getD 0 (0, 0, ())) = true
    · have u : dvE a b = tE (dvR (lP a) (lP b) (lP a).length) := by unfold dvE; rw [if_pos h, if_pos hu]
      have v : dvL a b = tL (dvR (lP a) (lP b) (lP a).length) := by unfold dvL; rw [if_pos h, if_pos hu]
      have hu' : unB ((lP b).getD (Int.toNat 0) (Ty.dflt PairT)) = true := hu
      have h0 := okL_inBP hob 0
      have hu0 : Hid (unB ((lP b).getD 0 (0, 0, ())) = true) := Hid.mk hu
      repeat' (intro hzz; (try (rename Two => hq; cases hq)); (try dsimp only at hzz); (try simp only [resTy, argTy, eqD, inR, big, wantOf, Bool.not_true, Bool.not_false, Bool.true_eq, decide_eq_true_eq, decide_eq_false_iff_not, Bool.not_eq_true', Bool.not_eq_false', Bool.and_eq_true, Prod.mk.injEq, and_true, true_and, Int.not_lt, Int.not_le, gt_iff_lt, ge_iff_le] at hzz); (try simp only [resTy, argTy, eqD, inR, big, wantOf, Bool.not_true, Bool.not_false, Bool.true_eq, decide_eq_true_eq, decide_eq_false_iff_not, Bool.not_eq_true', Bool.not_eq_false', Bool.and_eq_true, Prod.mk.injEq, and_true, true_and, Int.not_lt, Int.not_le, gt_iff_lt, ge_iff_le, h, ht, hu', dvR_len, Int.toNat_natCast] at hzz); (try (first | contradiction | (exfalso; omega))); (try (revert hzz; intro _)))
      all_goals try (rename Unit => hq; clear hq)
      all_goals try ((with_reducible refine Held.mk ?_); (with_reducible (first | refine Frz.mk ?_ | refine And.intro (Frz.mk ?_) ?_ | refine And.intro ?_ (Frz.mk ?_))); repeat' first | exact True.intro | (change _ = _; with_reducible rfl) | refine And.intro ?_ ?_ | (with_reducible refine Frz.mk ?_))
      all_goals try (refine Held.mk ?_; (try dsimp only at *); (try simp only [resTy, argTy, eqD, inR, big, wantOf, Bool.not_true, Bool.not_false, Bool.true_eq, decide_eq_true_eq, decide_eq_false_iff_not, Bool.not_eq_true', Bool.not_eq_false', Bool.and_eq_true, Prod.mk.injEq, and_true, true_and, Int.not_lt, Int.not_le, gt_iff_lt, ge_iff_le] at *); (try simp only [resTy, argTy, eqD, inR, big, wantOf, Bool.not_true, Bool.not_false, Bool.true_eq, decide_eq_true_eq, decide_eq_false_iff_not, Bool.not_eq_true', Bool.not_eq_false', Bool.and_eq_true, Prod.mk.injEq, and_true, true_and, Int.not_lt, Int.not_le, gt_iff_lt, ge_iff_le, h, ht, hu', dvR_len, Int.toNat_natCast] at *))
      all_goals try omega
      · exact h0
      · 
        refine GHeld.mk ?_
        refine Exists.intro 0 ?_
        refine And.intro (Leaf.mk ?_) ?_
        · repeat' first | exact True.intro | refine And.intro ?_ ?_
          all_goals try ((change _ = _ <;> try dsimp only) <;> try with_reducible rfl)
          all_goals try omega
          all_goals (rfl)
        exact ⟨Nat.zero_le _, rfl⟩
      · rename_i t hi hlt
        have e : ∀ p : IP, p = lessP p (suP (dvG (lP b) (dvR (lP a) (lP b) t) t) 0) := fun p => by
          obtain ⟨x, y, _⟩ := p
          show (x, y, ()) = (x - 0, y - 0, ())
          rw [Int.sub_zero, Int.sub_zero]
        refine GHeld.mk ?_
        refine Exists.intro 0 ?_
        refine And.intro (Leaf.mk ?_) ?_
        · repeat' first | exact True.intro | refine And.intro ?_ ?_
          all_goals try ((change _ = _ <;> try dsimp only) <;> try with_reducible rfl)
          all_goals try omega
          all_goals (first | exact congrArg (fun p : IP => p.1) (e _) | exact congrArg (fun p : IP => p.2.1) (e _) | rfl)
        exact Nat.zero_le _
      · rename_i t hi hlt j hj hlj hg
        exact okT_24 (okL_inBP (fit_okL hi.2) j) (okL_inBP hob _)
      · rename_i t hi hlt j hj hlj hg
        have b1 := dvP_in (t := t) (j := j) hoa hob (fit_okL hi.2) (by omega)
        have b2 := timesP_in (okL_inBP (fit_okL hi.2) j) (okL_inBP hob ((t : Int) - (j : Int)).toNat)
        exact ⟨okI_le b1.1 (by decide), okI_le b1.2 (by decide), okI_le b2.1 (by decide), okI_le b2.2 (by decide)⟩
      · rename_i t hi hlt j hj hlj hg
        have e : lessP (lessP ((lP a).getD t (0, 0, ())) (suP (dvG (lP b) (dvR (lP a) (lP b) t) t) j)) (timesP ((dvR (lP a) (lP b) t).getD j (0, 0, ())) ((lP b).getD ((t : Int) - (j : Int)).toNat (0, 0, ()))) = lessP ((lP a).getD t (0, 0, ())) (suP (dvG (lP b) (dvR (lP a) (lP b) t) t) (j + 1)) := by
          rw [show ((t : Int) - (j : Int)).toNat = t - j by omega]
          show _ = lessP ((lP a).getD t (0, 0, ())) (plusP (suP (dvG (lP b) (dvR (lP a) (lP b) t) t) j) (if t - j < (lP b).length then _ else _))
          rw [if_pos (by omega)]
          exact less_plus _ _ _
        have e2 := ht2 e
        refine GHeld.mk ?_
        refine Exists.intro (j + 1) ?_
        refine And.intro (Leaf.mk ?_) ?_
        · repeat' first | exact True.intro | refine And.intro ?_ ?_
          all_goals try ((change _ = _ <;> try dsimp only) <;> try with_reducible rfl)
          all_goals try omega
          all_goals (first | exact congrArg (fun p : IP => p.1) e2 | exact congrArg (fun p : IP => p.2.1) e2 | rfl)
        exact ⟨by show j + 1 ≤ t; omega, by show t - (j + 1) < t - j; omega⟩
      · rename_i t hi hlt j hj hlj hg
        have e : lessP ((lP a).getD t (0, 0, ())) (suP (dvG (lP b) (dvR (lP a) (lP b) t) t) j) = lessP ((lP a).getD t (0, 0, ())) (suP (dvG (lP b) (dvR (lP a) (lP b) t) t) (j + 1)) := by
          show _ = lessP ((lP a).getD t (0, 0, ())) (plusP (suP (dvG (lP b) (dvR (lP a) (lP b) t) t) j) (if t - j < (lP b).length then _ else _))
          rw [if_neg (by omega), plusP_zero]
        refine GHeld.mk ?_
        refine Exists.intro (j + 1) ?_
        refine And.intro (Leaf.mk ?_) ?_
        · repeat' first | exact True.intro | refine And.intro ?_ ?_
          all_goals try ((change _ = _ <;> try dsimp only) <;> try with_reducible rfl)
          all_goals try omega
          all_goals (first | exact congrArg (fun p : IP => p.1) e | exact congrArg (fun p : IP => p.2.1) e | rfl)
        exact ⟨by show j + 1 ≤ t; omega, by show t - (j + 1) < t - j; omega⟩
      · rename_i t hi hlt j hj hge
        exact ⟨okT_unit (dvP_in hoa hob (fit_okL hi.2) (by omega)) hu0.out, okI_le h0.2 (by decide)⟩
      · rename_i t hi hlt j hj hge hg
        rw [show j = t by omega] at hg
        have hq := dvR_no (qs := lP b) (ps := lP a) (t := t) hg (lP a).length (by omega)
        rw [u, v, (t_no hq).1, (t_no hq).2]; exact ⟨rfl, rfl⟩
      · rename_i t hi hlt j hj hge hg
        show t + 1 ≤ 2147483648; omega
      · rename_i t hi hlt j hj hge hg
        rw [show j = t by omega] at hg
        have hq := dvR_yes (qs := lP b) (ps := lP a) (t := t) hi.2 (fits_of hg)
        have e : dvR (lP a) (lP b) t ++ [timesP (lessP ((lP a).getD t (0, 0, ())) (suP (dvG (lP b) (dvR (lP a) (lP b) t) t) j)) (conjP ((twL a b).getD 0 (0, 0, ())))] = dvR (lP a) (lP b) (t + 1) := by
          rw [show twL a b = lP b by unfold twL; rw [if_pos ha], show j = t by omega]; rfl
        refine GHeld.mk ?_
        refine Exists.intro (t + 1) ?_
        refine And.intro (Leaf.mk ?_) ?_
        · repeat' first | exact True.intro | refine And.intro ?_ ?_
          all_goals try ((change _ = _ <;> try dsimp only) <;> try with_reducible rfl)
          all_goals try omega
          all_goals (first | exact e | exact congrArg List.length e | rfl)
        exact ⟨⟨by show t + 1 ≤ (lP a).length; omega, hq⟩, by show (lP a).length - (t + 1) < (lP a).length - t; omega⟩
      · rename_i t hi hge
        rw [u, v, show t = (lP a).length by omega]; exact ⟨rfl, rfl⟩
    · have hu : unB ((lP b).getD 0 (0, 0, ())) = false := by simpa using hu
      have u : dvE a b = 15 := by unfold dvE; rw [if_pos h, hu]; rfl
      have v : dvL a b = [] := by unfold dvL; rw [if_pos h, hu]; rfl
      have h0 := okL_inBP hob 0
      have hu' : unB ((lP b).getD (Int.toNat 0) (Ty.dflt PairT)) = false := hu
      repeat' (intro hzz; (try (rename Two => hq; cases hq)); (try dsimp only at hzz); (try simp only [resTy, argTy, eqD, inR, big, wantOf, Bool.not_true, Bool.not_false, Bool.true_eq, decide_eq_true_eq, decide_eq_false_iff_not, Bool.not_eq_true', Bool.not_eq_false', Bool.and_eq_true, Prod.mk.injEq, and_true, true_and, Int.not_lt, Int.not_le, gt_iff_lt, ge_iff_le] at hzz); (try simp only [resTy, argTy, eqD, inR, big, wantOf, Bool.not_true, Bool.not_false, Bool.true_eq, decide_eq_true_eq, decide_eq_false_iff_not, Bool.not_eq_true', Bool.not_eq_false', Bool.and_eq_true, Prod.mk.injEq, and_true, true_and, Int.not_lt, Int.not_le, gt_iff_lt, ge_iff_le, h, ht, hu', u, v] at hzz); (try (first | contradiction | (exfalso; omega))); (try (revert hzz; intro _)))
      all_goals try (rename Unit => hq; clear hq)
      all_goals try ((with_reducible refine Held.mk ?_); (with_reducible (first | refine Frz.mk ?_ | refine And.intro (Frz.mk ?_) ?_ | refine And.intro ?_ (Frz.mk ?_))); repeat' first | exact True.intro | (change _ = _; with_reducible rfl) | refine And.intro ?_ ?_ | (with_reducible refine Frz.mk ?_))
      all_goals try (refine Held.mk ?_; (try dsimp only at *); (try simp only [resTy, argTy, eqD, inR, big, wantOf, Bool.not_true, Bool.not_false, Bool.true_eq, decide_eq_true_eq, decide_eq_false_iff_not, Bool.not_eq_true', Bool.not_eq_false', Bool.and_eq_true, Prod.mk.injEq, and_true, true_and, Int.not_lt, Int.not_le, gt_iff_lt, ge_iff_le] at *); (try simp only [resTy, argTy, eqD, inR, big, wantOf, Bool.not_true, Bool.not_false, Bool.true_eq, decide_eq_true_eq, decide_eq_false_iff_not, Bool.not_eq_true', Bool.not_eq_false', Bool.and_eq_true, Prod.mk.injEq, and_true, true_and, Int.not_lt, Int.not_le, gt_iff_lt, ge_iff_le, h, ht, hu', u, v] at *))
      all_goals try omega
      exact h0
  · have u : dvE a b = twE a b := by unfold dvE; rw [if_neg h]
    have v : dvL a b = [] := by unfold dvL; rw [if_neg h]
    repeat' (intro hzz; (try (rename Two => hq; cases hq)); (try dsimp only at hzz); (try simp only [resTy, argTy, eqD, inR, big, wantOf, Bool.not_true, Bool.not_false, Bool.true_eq, decide_eq_true_eq, decide_eq_false_iff_not, Bool.not_eq_true', Bool.not_eq_false', Bool.and_eq_true, Prod.mk.injEq, and_true, true_and, Int.not_lt, Int.not_le, gt_iff_lt, ge_iff_le] at hzz); (try simp only [resTy, argTy, eqD, inR, big, wantOf, Bool.not_true, Bool.not_false, Bool.true_eq, decide_eq_true_eq, decide_eq_false_iff_not, Bool.not_eq_true', Bool.not_eq_false', Bool.and_eq_true, Prod.mk.injEq, and_true, true_and, Int.not_lt, Int.not_le, gt_iff_lt, ge_iff_le, u, v] at hzz); (try (first | contradiction | (exfalso; omega))); (try (revert hzz; intro _)))
    all_goals try (rename Unit => hq; clear hq)
    all_goals try ((with_reducible refine Held.mk ?_); (with_reducible (first | refine Frz.mk ?_ | refine And.intro (Frz.mk ?_) ?_ | refine And.intro ?_ (Frz.mk ?_))); repeat' first | exact True.intro | (change _ = _; with_reducible rfl) | refine And.intro ?_ ?_ | (with_reducible refine Frz.mk ?_))
    all_goals try (refine Held.mk ?_; (try dsimp only at *); (try simp only [resTy, argTy, eqD, inR, big, wantOf, Bool.not_true, Bool.not_false, Bool.true_eq, decide_eq_true_eq, decide_eq_false_iff_not, Bool.not_eq_true', Bool.not_eq_false', Bool.and_eq_true, Prod.mk.injEq, and_true, true_and, Int.not_lt, Int.not_le, gt_iff_lt, ge_iff_le] at *); (try simp only [resTy, argTy, eqD, inR, big, wantOf, Bool.not_true, Bool.not_false, Bool.true_eq, decide_eq_true_eq, decide_eq_false_iff_not, Bool.not_eq_true', Bool.not_eq_false', Bool.and_eq_true, Prod.mk.injEq, and_true, true_and, Int.not_lt, Int.not_le, gt_iff_lt, ge_iff_le, u, v] at *))
    all_goals try omega

/-- The last quarter turn, of the first ones, that is a number. -/
def uQ (p : IP) : Nat → Int
  | 0 => -1
  | k + 1 => bif Ty.beq PairT p (qrt k) then (k : Int) else uQ p k

theorem uQ_yes {p : IP} (h : unB p = true) : (0 ≤ uQ p 4 ∧ uQ p 4 ≤ 3) ∧ qrt (4 - uQ p 4) = conjP p := by
  rcases (unB_iff p).1 h with rfl | rfl | rfl | rfl <;> exact ⟨by decide, rfl⟩

theorem qrt_in (k : Nat) : qrt k = qrt 0 ∨ qrt k = qrt 1 ∨ qrt k = qrt 2 ∨ qrt k = qrt 3 := by
  have h : ((k : Int)).tmod 4 = 0 ∨ ((k : Int)).tmod 4 = 1 ∨ ((k : Int)).tmod 4 = 2 ∨ ((k : Int)).tmod 4 = 3 := by
    rw [Int.tmod_eq_emod_of_nonneg (by omega)]; omega
  unfold qrt
  rcases h with h | h | h | h <;> rw [h]
  · exact .inl rfl
  · exact .inr (.inl rfl)
  · exact .inr (.inr (.inl rfl))
  · exact .inr (.inr (.inr rfl))

theorem uQ_no {p : IP} (h : unB p = false) : ∀ k : Nat, uQ p k = -1
  | 0 => rfl
  | k + 1 => by
    show (bif Ty.beq PairT p (qrt k) then (k : Int) else uQ p k) = -1
    cases he : Ty.beq PairT p (qrt k) with
    | false => exact uQ_no h k
    | true =>
      have : unB p = true := (unB_iff p).2 ((beqP_iff _ _).1 he ▸ qrt_in k)
      rw [this] at h; cases h

end Go.Eng.Pu

namespace Go.Eng.Pu
open Go.Eng Go.Proofs
set_option linter.all false
set_option maxRecDepth 100000
set_option maxHeartbeats 8000000

/-- A number without its factors d. -/
def strip (d : Int) : Nat → Int → Int
  | 0, n => n
  | f + 1, n => if n % d = 0 then strip d f (n / d) else n

theorem strip_in {d : Int} (hd : 2 ≤ d) : ∀ (f : Nat) {n : Int}, 1 ≤ n → 1 ≤ strip d f n ∧ strip d f n ≤ n
  | 0, n, h => ⟨h, Int.le_refl _⟩
  | f + 1, n, h => by
    simp only [strip]
    split
    · rename_i hz
      have h1 := Int.mul_ediv_add_emod n d
      have hq : 1 ≤ n / d := by
        have : 0 ≤ n / d := Int.ediv_nonneg (by omega) (by omega)
        rcases (show n / d = 0 ∨ 1 ≤ n / d from by omega) with h0 | h0
        · rw [h0, hz] at h1; omega
        · exact h0
      have := strip_in hd f hq
      have := Int.ediv_le_self d (show 0 ≤ n by omega)
      omega
    · exact ⟨h, Int.le_refl _⟩

/-- The number that is left, and the primes found, behind k steps. -/
def rs (n : Int) : Nat → Int × List Int
  | 0 => (n, [])
  | k + 1 => (strip (k + 2 : Int) 11 (rs n k).1, if (rs n k).1 % (k + 2 : Int) = 0 then (rs n k).2 ++ [(k + 2 : Int)] else (rs n k).2)

theorem rs_in {n : Int} (h : 1 ≤ n) : ∀ k, 1 ≤ (rs n k).1 ∧ (rs n k).1 ≤ n
  | 0 => ⟨h, Int.le_refl _⟩
  | k + 1 => by
    have ih := rs_in h k
    have := strip_in (d := (k + 2 : Int)) (by omega) 11 ih.1
    simp only [rs]
    omega

theorem rs_len {n : Int} : ∀ k, (rs n k).2.length ≤ k
  | 0 => Nat.le_refl _
  | k + 1 => by
    have ih := rs_len (n := n) k
    simp only [rs]
    split
    · rw [List.length_append, List.length_singleton]; omega
    · omega

/-- At how many steps the program is done. -/
def prK (n : Int) : Nat := firstAt (fun k => decide ((rs n k).1 < (k + 2 : Int) * (k + 2 : Int))) 50 0
def prO (n : Int) : List Int := if 1 < (rs n (prK n)).1 then (rs n (prK n)).2 ++ [(rs n (prK n)).1] else (rs n (prK n)).2

@[reducible] def sPrimes : Spec := { pats := [.dat I64], res := [{ t := .sl I64 }], pre := fun x => 1 ≤ x.1 ∧ x.1 ≤ (2000 : Int), f := fun x => (prO x.1, ()) }

def going (n : Int) (k : Nat) : Prop := ∀ m : Nat, m < k → (m + 2 : Int) * (m + 2 : Int) ≤ (rs n m).1

theorem sq_big {k : Nat} (h : 43 ≤ k) : (2000 : Int) < (k + 2 : Int) * (k + 2 : Int) := by
  have := Int.mul_le_mul (show (45 : Int) ≤ (k + 2 : Int) by omega) (show (45 : Int) ≤ (k + 2 : Int) by omega) (by omega) (by omega)
  omega

theorem going_lt {n : Int} (h0 : 1 ≤ n) (h1 : n ≤ 2000) {k : Nat} (h : going n k) : k ≤ 43 := by
  by_cases hk : k ≤ 43
  · exact hk
  · have := h 43 (by omega)
    have := sq_big (k := 43) (Nat.le_refl _)
    have := rs_in h0 43
    omega

theorem prK_eq {n : Int} (h0 : 1 ≤ n) (h1 : n ≤ 2000) {k : Nat} (h : going n k) (hs : (rs n k).1 < (k + 2 : Int) * (k + 2 : Int)) : prK n = k := by
  have hk := going_lt h0 h1 h
  obtain ⟨q1, q2, q3, q4⟩ := firstAt_spec (p := fun k => decide ((rs n k).1 < (k + 2 : Int) * (k + 2 : Int))) (k := 50) (i := 0) (j := k) (Nat.zero_le _) (by omega) (decide_eq_true hs)
  have q1 : (rs n (prK n)).1 < (prK n + 2 : Int) * (prK n + 2 : Int) := of_decide_eq_true q1
  have q3 : prK n ≤ k := q3
  by_cases he : prK n = k
  · exact he
  · have := h (prK n) (by omega)
    omega

theorem two_pow_half {m d : Int} {f : Nat} (hm : m < 2 ^ (f + 1)) (hd : 2 ≤ d) (h0 : 1 ≤ m) : m / d < 2 ^ f := by
  have h1 : m / d ≤ m / 2 := by
    have e1 := Int.mul_ediv_add_emod m d
    have e2 := Int.emod_nonneg m (show d ≠ 0 by omega)
    have e3 : 0 ≤ m / d := Int.ediv_nonneg (by omega) (by omega)
    have e4 : 2 * (m / d) ≤ d * (m / d) := Int.mul_le_mul_of_nonneg_right hd e3
    omega
  rw [Int.pow_succ] at hm
  omega

/-- The inner loop's data: the factors left, what is left. -/
def inS (d n : Int) (s : Nat × Int) : Prop := s.1 ≤ 11 ∧ 1 ≤ s.2 ∧ s.2 < 2 ^ s.1 ∧ strip d s.1 s.2 = strip d 11 n

theorem inS_next {d n : Int} (hd : 2 ≤ d) {s : Nat × Int} (h : inS d n s) (hz : s.2 % d = 0) : ∃ f, s.1 = f + 1 ∧ inS d n (f, s.2 / d) := by
  obtain ⟨f, m⟩ := s
  obtain ⟨h1, h2, h3, h4⟩ := h
  simp only at h1 h2 h3 h4 hz
  cases f with
  | zero => rw [Int.pow_zero] at h3; omega
  | succ f =>
    refine ⟨f, rfl, by show f ≤ 11; omega, ?_, two_pow_half h3 hd h2, ?_⟩
    · show 1 ≤ m / d
      have e1 := Int.mul_ediv_add_emod m d
      have e3 : 0 ≤ m / d := Int.ediv_nonneg (by omega) (by omega)
      rcases (show m / d = 0 ∨ 1 ≤ m / d from by omega) with h0 | h0
      · rw [h0, hz] at e1; omega
      · exact h0
    · rw [← h4]
      simp only [strip, if_pos hz]

theorem inS_end {d n : Int} {s : Nat × Int} (h : inS d n s) (hz : ¬ s.2 % d = 0) : s.2 = strip d 11 n := by
  obtain ⟨f, m⟩ := s
  obtain ⟨h1, h2, h3, h4⟩ := h
  simp only at h1 h2 h3 h4 hz
  rw [← h4]
  cases f with
  | zero => rfl
  | succ f => simp only [strip, if_neg hz]

theorem p11 {f : Nat} (h : f ≤ 11) : (2 : Int) ^ f ≤ 2048 := by
  have := Nat.pow_le_pow_right (n := 2) (by decide) h
  exact_mod_cast this

/-- primesOf -/
theorem h129 : Ok 55 sPrimes := by
  refine mk (ctr := []) trivial (nt := 34) Tryd.func55 rfl rfl rfl rfl (by kernel_rfl) (by kernel_rfl) (fun x => [fun _ => { σ := Nat, pat := fun k => [sI 4 (k + 2 : Int), sI 0 (rs x.1 k).1] ++ sOwn 3 60003 3 (rs x.1 k).2, inv := fun k => going x.1 k, meas := fun k => 50 - k }, fun st => withI 4 st fun d => withI 0 st fun n => { σ := Nat × Int, pat := fun s => [sI 0 s.2], inv := fun s => inS d n s, meas := fun s => s.1 }]) ?_
  rintro ⟨(n : Int), _⟩ ⟨(h0 : 1 ≤ n), (h1 : n ≤ 2000)⟩
  have hin := rs_in h0
  have hl := rs_len (n := n)
  repeat' (intro hzz; (try (rename Two => hq; cases hq)); (try dsimp only at hzz); (try simp only [resTy, argTy, eqD, inR, big, wantOf, Bool.not_true, Bool.not_false, Bool.true_eq, decide_eq_true_eq, decide_eq_false_iff_not, Bool.not_eq_true', Bool.not_eq_false', Bool.and_eq_true, Prod.mk.injEq, and_true, true_and, Int.not_lt, Int.not_le, gt_iff_lt, ge_iff_le] at hzz); (try (first | contradiction | (exfalso; omega))); (try (revert hzz; intro _)))
  all_goals try (rename Unit => hq; clear hq)
  all_goals try ((with_reducible refine Held.mk ?_); (with_reducible (first | refine Frz.mk ?_ | refine And.intro (Frz.mk ?_) ?_ | refine And.intro ?_ (Frz.mk ?_))); repeat' first | exact True.intro | (change _ = _; with_reducible rfl) | refine And.intro ?_ ?_ | (with_reducible refine Frz.mk ?_))
  all_goals try (refine Held.mk ?_; (try dsimp only at *); (try simp only [resTy, argTy, eqD, inR, big, wantOf, Bool.not_true, Bool.not_false, Bool.true_eq, decide_eq_true_eq, decide_eq_false_iff_not, Bool.not_eq_true', Bool.not_eq_false', Bool.and_eq_true, Prod.mk.injEq, and_true, true_and, Int.not_lt, Int.not_le, gt_iff_lt, ge_iff_le] at *))
  all_goals try omega
  · 
    refine GHeld.mk ?_
    refine Exists.intro 0 ?_
    refine And.intro (Leaf.mk ?_) ?_
    · repeat' first | exact True.intro | refine And.intro ?_ ?_
      all_goals try ((change _ = _ <;> try dsimp only) <;> try with_reducible rfl)
      all_goals try omega
      all_goals (rfl)
    exact fun m hm => by omega
  · rename_i k hk
    have hk43 := going_lt h0 h1 hk
    have := Int.mul_le_mul (show (k + 2 : Int) ≤ 45 by omega) (show (k + 2 : Int) ≤ 45 by omega) (by omega) (by omega)
    have := Int.mul_nonneg (show 0 ≤ (k + 2 : Int) by omega) (show 0 ≤ (k + 2 : Int) by omega)
    omega
  · rename_i k hk hg hz
    have hk43 := going_lt h0 h1 hk
    have := hl k
    show (rs n k).2.length + 1 ≤ 2147483648
    omega
  · rename_i k hk hg hz
    refine GHeld.mk ?_
    refine Exists.intro (11, (rs n k).1) ?_
    refine And.intro (Leaf.mk ?_) ?_
    · repeat' first | exact True.intro | refine And.intro ?_ ?_
      all_goals try ((change _ = _ <;> try dsimp only) <;> try with_reducible rfl)
      all_goals try omega
      all_goals (rfl)
    exact ⟨Nat.le_refl _, (hin k).1, by have := hin k; show (rs n k).1 < 2048; omega, rfl⟩
  · rename_i k hk hg hz t ht hz'
    have hz' : t.2 % (k + 2 : Int) = 0 := by rw [← Int.tmod_eq_emod_of_nonneg (by have := ht.2.1; omega)]; exact hz'
    have e := Int.tdiv_eq_ediv_of_nonneg (a := t.2) (b := (k + 2 : Int)) (by have := ht.2.1; omega)
    have hk43 := going_lt h0 h1 hk
    have := ht.2.1
    have : t.2 < 2048 := Int.lt_of_lt_of_le ht.2.2.1 (p11 ht.1)
    have := Int.ediv_le_self (k + 2 : Int) (show 0 ≤ t.2 by omega)
    have : 0 ≤ t.2 / (k + 2 : Int) := Int.ediv_nonneg (by omega) (by omega)
    rw [e]
    omega
  · rename_i k hk hg hz t ht hz'
    have hz' : t.2 % (k + 2 : Int) = 0 := by rw [← Int.tmod_eq_emod_of_nonneg (by have := ht.2.1; omega)]; exact hz'
    have e := Int.tdiv_eq_ediv_of_nonneg (a := t.2) (b := (k + 2 : Int)) (by have := ht.2.1; omega)
    obtain ⟨f, hf, hin'⟩ := inS_next (d := (k + 2 : Int)) (by omega) ht hz'
    refine GHeld.mk ?_
    refine Exists.intro (f, t.2 / (k + 2 : Int)) ?_
    refine And.intro (Leaf.mk ?_) ?_
    · repeat' first | exact True.intro | refine And.intro ?_ ?_
      all_goals try ((change _ = _ <;> try dsimp only) <;> try with_reducible rfl)
      all_goals try omega
      all_goals (exact e)
    exact ⟨hin', by show f < t.1; omega⟩
  · rename_i k hk hg hz t ht hz'
    have hk43 := going_lt h0 h1 hk
    omega
  · rename_i k hk hg hz t ht hz'
    have hz' : ¬ t.2 % (k + 2 : Int) = 0 := by rw [← Int.tmod_eq_emod_of_nonneg (by have := ht.2.1; omega)]; exact hz'
    have e1 : t.2 = (rs n (k + 1)).1 := inS_end ht hz'
    have e2 : (rs n k).2 ++ [(k + 2 : Int)] = (rs n (k + 1)).2 := by
      show _ = if (rs n k).1 % (k + 2 : Int) = 0 then (rs n k).2 ++ [(k + 2 : Int)] else (rs n k).2
      rw [if_pos (by rw [← Int.tmod_eq_emod_of_nonneg (by have := hin k; omega)]; exact hz)]
    have hk43 := going_lt h0 h1 hk
    refine GHeld.mk ?_
    refine Exists.intro (k + 1) ?_
    refine And.intro (Leaf.mk ?_) ?_
    · repeat' first | exact True.intro | refine And.intro ?_ ?_
      all_goals try ((change _ = _ <;> try dsimp only) <;> try with_reducible rfl)
      all_goals try omega
      all_goals (first | exact e1 | exact e2 | exact congrArg List.length e2 | (show (k : Int) + 2 + 1 = ((k + 1 : Nat) : Int) + 2; omega))
    refine ⟨fun m hm => ?_, by show 50 - (k + 1) < 50 - k; omega⟩
    by_cases he : m = k
    · subst he; exact hg
    · exact hk m (by omega)
  · rename_i k hk hg hz
    refine GHeld.mk ?_
    refine Exists.intro (11, (rs n k).1) ?_
    refine And.intro (Leaf.mk ?_) ?_
    · repeat' first | exact True.intro | refine And.intro ?_ ?_
      all_goals try ((change _ = _ <;> try dsimp only) <;> try with_reducible rfl)
      all_goals try omega
      all_goals (rfl)
    exact ⟨Nat.le_refl _, (hin k).1, by have := hin k; show (rs n k).1 < 2048; omega, rfl⟩
  · rename_i k hk hg hz t ht hz'
    have hz' : t.2 % (k + 2 : Int) = 0 := by rw [← Int.tmod_eq_emod_of_nonneg (by have := ht.2.1; omega)]; exact hz'
    have e := Int.tdiv_eq_ediv_of_nonneg (a := t.2) (b := (k + 2 : Int)) (by have := ht.2.1; omega)
    have hk43 := going_lt h0 h1 hk
    have := ht.2.1
    have : t.2 < 2048 := Int.lt_of_lt_of_le ht.2.2.1 (p11 ht.1)
    have := Int.ediv_le_self (k + 2 : Int) (show 0 ≤ t.2 by omega)
    have : 0 ≤ t.2 / (k + 2 : Int) := Int.ediv_nonneg (by omega) (by omega)
    rw [e]
    omega
  · rename_i k hk hg hz t ht hz'
    have hz' : t.2 % (k + 2 : Int) = 0 := by rw [← Int.tmod_eq_emod_of_nonneg (by have := ht.2.1; omega)]; exact hz'
    have e := Int.tdiv_eq_ediv_of_nonneg (a := t.2) (b := (k + 2 : Int)) (by have := ht.2.1; omega)
    obtain ⟨f, hf, hin'⟩ := inS_next (d := (k + 2 : Int)) (by omega) ht hz'
    refine GHeld.mk ?_
    refine Exists.intro (f, t.2 / (k + 2 : Int)) ?_
    refine And.intro (Leaf.mk ?_) ?_
    · repeat' first | exact True.intro | refine And.intro ?_ ?_
      all_goals try ((change _ = _ <;> try dsimp only) <;> try with_reducible rfl)
      all_goals try omega
      all_goals (exact e)
    exact ⟨hin', by show f < t.1; omega⟩
  · rename_i k hk hg hz t ht hz'
    have hk43 := going_lt h0 h1 hk
    omega
  · rename_i k hk hg hz t ht hz'
    have hz' : ¬ t.2 % (k + 2 : Int) = 0 := by rw [← Int.tmod_eq_emod_of_nonneg (by have := ht.2.1; omega)]; exact hz'
    have e1 : t.2 = (rs n (k + 1)).1 := inS_end ht hz'
    have e2 : (rs n k).2 = (rs n (k + 1)).2 := by
      show _ = if (rs n k).1 % (k + 2 : Int) = 0 then (rs n k).2 ++ [(k + 2 : Int)] else (rs n k).2
      rw [if_neg (by rw [← Int.tmod_eq_emod_of_nonneg (by have := hin k; omega)]; exact hz)]
    have hk43 := going_lt h0 h1 hk
    refine GHeld.mk ?_
    refine Exists.intro (k + 1) ?_
    refine And.intro (Leaf.mk ?_) ?_
    · repeat' first | exact True.intro | refine And.intro ?_ ?_
      all_goals try ((change _ = _ <;> try dsimp only) <;> try with_reducible rfl)
      all_goals try omega
      all_goals (first | exact e1 | exact e2 | exact congrArg List.length e2 | (show (k : Int) + 2 + 1 = ((k + 1 : Nat) : Int) + 2; omega))
    refine ⟨fun m hm => ?_, by show 50 - (k + 1) < 50 - k; omega⟩
    by_cases he : m = k
    · subst he; exact hg
    · exact hk m (by omega)
  · rename_i k hk hg hz
    have hk43 := going_lt h0 h1 hk
    have := hl k
    show (rs n k).2.length + 1 ≤ 2147483648
    omega
  · rename_i k hk hg hz
    have e := prK_eq h0 h1 hk hg
    unfold prO
    rw [e, if_pos hz]
  · rename_i k hk hg hz
    have e := prK_eq h0 h1 hk hg
    unfold prO
    rw [e, if_neg (by omega)]

end Go.Eng.Pu

namespace Go.Eng.Pu
open Go.Eng Go.Proofs
set_option linter.all false
set_option maxRecDepth 100000
set_option maxHeartbeats 8000000

theorem mosts {L : Int} (h : 2 ≤ L ∧ L ≤ 8) : most L = 3 ∨ most L = 7 ∨ most L = 15 ∨ most L = 31 ∨ most L = 63 ∨ most L = 127 ∨ most L = 255 := by
  rcases lens h with rfl | rfl | rfl | rfl | rfl | rfl | rfl <;> decide

def isMost (n : Int) : Prop := n = 3 ∨ n = 7 ∨ n = 15 ∨ n = 31 ∨ n = 63 ∨ n = 127 ∨ n = 255

def rfK (n : Int) : Nat := firstAt (fun k => decide ((rs n k).1 ≤ 1)) 130 0

theorem rs_done {n : Int} (h : isMost n) : (rs n 126).1 = 1 ∧ (rs n (rfK n)).2 = prO n := by
  rcases h with rfl | rfl | rfl | rfl | rfl | rfl | rfl <;> decide +kernel

@[reducible] def sRPrimes : Spec := { pats := [.dat I64], res := [{ t := .sl I64 }], pre := fun x => isMost x.1, f := fun x => (prO x.1, ()) }

def prE (ps : List Int) : Nat → Nat → Int
  | 0, _ => 0
  | k + 1, i => if 2 ≤ ps.getD i 0 ∧ ps.getD i 0 ≤ 255 then (if 0 < i ∧ ps.getD i 0 ≤ ps.getD (i - 1) 0 then 9 else prE ps k (i + 1)) else 2

theorem prE_step {ps : List Int} {i : Nat} (h : i < ps.length) : prE ps (ps.length - i) i = if 2 ≤ ps.getD i 0 ∧ ps.getD i 0 ≤ 255 then (if 0 < i ∧ ps.getD i 0 ≤ ps.getD (i - 1) 0 then 9 else prE ps (ps.length - (i + 1)) (i + 1)) else 2 := by
  obtain ⟨k, hk⟩ : ∃ k, ps.length - i = k + 1 := ⟨ps.length - i - 1, by omega⟩
  rw [hk, show ps.length - (i + 1) = k from by omega]
  rfl

theorem prE_zero {ps : List Int} : ∀ {k i : Nat}, prE ps k i = 0 → ∀ j, i ≤ j → j < i + k → 2 ≤ ps.getD j 0 ∧ ps.getD j 0 ≤ 255
  | 0, i, _, j, h1, h2 => by omega
  | k + 1, i, h, j, h1, h2 => by
    simp only [prE] at h
    split at h
    · rename_i ha
      split at h
      · cases h
      · by_cases hj : j = i
        · subst hj; exact ha
        · exact prE_zero h j (by omega) (by omega)
    · cases h

def mxE (L : Int) (xs ps : List Int) : Nat → Nat → Int
  | 0, _ => 0
  | k + 1, i => if atI L xs 1 ((most L).tdiv (ps.getD i 0)) = 1 then 20 else mxE L xs ps k (i + 1)

theorem mxE_step {L : Int} {xs ps : List Int} {n i : Nat} (h : i < n) : mxE L xs ps (n - i) i = if atI L xs 1 ((most L).tdiv (ps.getD i 0)) = 1 then 20 else mxE L xs ps (n - (i + 1)) (i + 1) := by
  obtain ⟨k, hk⟩ : ∃ k, n - i = k + 1 := ⟨n - i - 1, by omega⟩
  rw [hk, show n - (i + 1) = k from by omega]
  rfl

def cmErr (L : Int) (xs ps : List Int) : Int :=
  if opErr L xs 1 = 0 then (if ps.length ≤ 8 then (if prE ps ps.length 0 = 0 then (if ps = prO (most L) ∧ atI L xs 1 (most L) = 1 then mxE L xs ps ps.length 0 else 20) else prE ps ps.length 0) else 8) else opErr L xs 1

@[reducible] def sCheckMax : Spec := { pats := [.dat Reg0, .dat (.sl I64)], res := [{ t := I64 }], pre := fun x => pLen (List.length (α := Int) x.1.2.1) ∧ pLen (List.length (α := Int) x.2.1), f := fun x => (cmErr x.1.1 x.1.2.1 x.2.1, ()) }

theorem cm_first (L : Int) (xs ps : List Int) : firstI [opErr L xs 1, cond (decide ((ps.length : Int) ≤ 8)) 0 8] = if opErr L xs 1 = 0 then (if ps.length ≤ 8 then 0 else 8) else opErr L xs 1 := by
  rw [first2]
  by_cases h : opErr L xs 1 = 0
  · rw [if_pos h, if_pos h]
    by_cases h2 : ps.length ≤ 8
    · rw [if_pos h2, decide_eq_true (by omega)]; rfl
    · rw [if_neg h2, decide_eq_false (by omega)]; rfl
  · rw [if_neg h, if_neg h]

theorem prO_len {L : Int} (h : 2 ≤ L ∧ L ≤ 8) : (prO (most L)).length ≤ 8 ∧ prE (prO (most L)) (prO (most L)).length 0 = 0 := by
  rcases lens h with rfl | rfl | rfl | rfl | rfl | rfl | rfl <;> decide +kernel

@[reducible] def sPIsMax : Spec := { pats := [.dat Reg0], res := [{ t := .bool }, { t := I64 }], pre := fun x => pLen (List.length (α := Int) x.1.2.1), f := fun x => ((decide (opErr x.1.1 x.1.2.1 1 = 0) && decide ((per x.1.1 x.1.2.1 1 : Int) = most x.1.1)), opErr x.1.1 x.1.2.1 1, ()) }

end Go.Eng.Pu

namespace Go.Eng.Pu
open Go.Eng Go.Proofs
set_option linter.all false
set_option maxRecDepth 100000
set_option maxHeartbeats 8000000

theorem sm_add (f g : Nat → Int) : ∀ k, sm (fun i => f i + g i) k = sm f k + sm g k
  | 0 => rfl
  | k + 1 => by simp only [sm, sm_add f g k]; omega

theorem sm_mul (c : Int) (f : Nat → Int) : ∀ k, sm (fun i => c * f i) k = c * sm f k
  | 0 => by simp [sm]
  | k + 1 => by simp only [sm, sm_mul c f k, Int.mul_add]

theorem sm_const (c : Int) : ∀ k : Nat, sm (fun _ => c) k = k * c
  | 0 => by simp [sm]
  | k + 1 => by simp only [sm, sm_const c k]; rw [Int.natCast_add, Int.add_mul]; simp

theorem sm_comm (f : Nat → Nat → Int) (m : Nat) : ∀ n, sm (fun i => sm (fun j => f i j) m) n = sm (fun j => sm (fun i => f i j) n) m
  | 0 => by
    have : ∀ m, sm (fun _ => (0 : Int)) m = 0 := fun m => by rw [sm_const]; simp
    simp only [sm]
    exact (this m).symm
  | n + 1 => by
    simp only [sm, sm_comm f m n]
    rw [← sm_add]

/-- The sum over a whole period does not hang on where it begins. -/
theorem sm_turn {f : Nat → Int} {n : Nat} (h : ∀ i, f (i + n) = f i) : ∀ k, sm (fun i => f (i + k)) n = sm f n
  | 0 => rfl
  | k + 1 => by
    have ih := sm_turn h k
    have e1 : ∀ m, sm (fun i => f (i + (k + 1))) m + f k = sm (fun i => f (i + k)) m + f (m + k) := by
      intro m
      induction m with
      | zero => simp [sm]
      | succ m ihm =>
        simp only [sm]
        have e : m + (k + 1) = m + 1 + k := by omega
        rw [e] at *
        omega
    have := e1 n
    have h2 := h k
    rw [Nat.add_comm n k, h2] at this
    omega

def Maxi (L : Int) (xs : List Int) : Prop := (per L xs 1 : Int) = most L

section
variable {L : Int} {xs : List Int} {s : Int}

theorem stI_inj (h : pSt L xs s) {i j : Nat} (hij : i ≤ j) (he : stI L xs s i = stI L xs s j) : stI L xs s (j - i) = s := by
  refine back_to h (j - i) i ?_
  rw [show i + (j - i) = j from by omega]
  exact he

/-- A state that comes back in d steps: the period divides d. -/
theorem per_dvd (h : pSt L xs s) {d : Nat} (hd : stI L xs s d = s) : d % per L xs s = 0 := by
  obtain ⟨h1, h2, h3, h4⟩ := per_spec h
  have hm : ∀ q : Nat, stI L xs s (per L xs s * q) = s := by
    intro q
    induction q with
    | zero => rfl
    | succ q ih =>
      rw [Nat.mul_succ, ← stI_add, ih]; exact h1
  have e : stI L xs s (d % per L xs s) = s := by
    have := hd
    rw [← Nat.div_add_mod d (per L xs s), ← stI_add, hm] at this
    exact this
  by_cases hz : d % per L xs s = 0
  · exact hz
  · exact absurd e (h4 _ (by omega) (Nat.mod_lt _ (by omega)))

theorem per_turns (h : pSt L xs s) (q : Nat) : stI L xs s (per L xs s * q) = s := by
  obtain ⟨h1, _⟩ := per_spec h
  induction q with
  | zero => rfl
  | succ q ih => rw [Nat.mul_succ, ← stI_add, ih]; exact h1

theorem zero_stays (h : pSt L xs s) (hz : nxt L xs s = 0) : s = 0 := by
  have h0 : pSt L xs 0 := ⟨h.1, h.2.1, by omega, by have := h.2.2; omega⟩
  have e : nxt L xs 0 = 0 := by
    have hp : ∀ k, parK L xs 0 k = 0 := by
      intro k
      induction k with
      | zero => rfl
      | succ k ih => simp only [parK, ih, tapBit, Int.zero_ediv]; rfl
    simp only [nxt, hp]
    simp
  exact nxt_inj h h0 (hz.trans e.symm)

theorem stI_pos (h : pSt L xs s) (hs : 1 ≤ s) : ∀ i, 1 ≤ stI L xs s i
  | 0 => hs
  | i + 1 => by
    have ih := stI_pos h hs i
    have h1 := stI_pSt h i
    have h2 := (stI_pSt h (i + 1)).2.2
    have h3 : nxt L xs (stI L xs s i) ≠ 0 := fun e => by have := zero_stays h1 e; omega
    have h4 : stI L xs s (i + 1) = nxt L xs (stI L xs s i) := rfl
    rw [h4] at h2 ⊢
    omega

/-- In a maximal register each state is on the way from 1. -/
theorem on_way (hc : chk L xs = 0) (hl : pLen xs.length) (hM : Maxi L xs) (h : pSt L xs s) (hs : 1 ≤ s) : ∃ j, stI L xs 1 j = s := by
  have h1 := one_pSt hc hl
  obtain ⟨p1, p2, p3, p4⟩ := per_spec h1
  have hM' : (per L xs 1 : Int) = most L := hM
  unfold most at hM'
  have hpos := stI_pos h1 (by omega)
  have hst := stI_pSt h1
  have hs2 := h.2.2
  obtain ⟨i, j, q1, q2, q3⟩ := pigeon (per L xs 1) (fun i => if i < per L xs 1 then (stI L xs 1 i - 1).toNat else (s - 1).toNat) (fun i _ => by
    have a1 := hpos i
    have a2 := (hst i).2.2
    show (if i < per L xs 1 then (stI L xs 1 i - 1).toNat else (s - 1).toNat) < per L xs 1
    split <;> omega)
  have q3 : (if i < per L xs 1 then (stI L xs 1 i - 1).toNat else (s - 1).toNat) = (if j < per L xs 1 then (stI L xs 1 j - 1).toNat else (s - 1).toNat) := q3
  rw [if_pos (by omega)] at q3
  have a1 := hpos i
  have a2 := hpos j
  by_cases hj : j < per L xs 1
  · rw [if_pos hj] at q3
    have e := stI_inj h1 (Nat.le_of_lt q1) (show stI L xs 1 i = stI L xs 1 j by omega)
    exact absurd e (p4 (j - i) (by omega) (by omega))
  · rw [if_neg hj] at q3
    exact ⟨i, by omega⟩

theorem per_max (hc : chk L xs = 0) (hl : pLen xs.length) (hM : Maxi L xs) (h : pSt L xs s) (hs : 1 ≤ s) : per L xs s = per L xs 1 := by
  have h1 := one_pSt hc hl
  obtain ⟨j, hj⟩ := on_way hc hl hM h hs
  obtain ⟨p1, p2, p3, p4⟩ := per_spec h1
  obtain ⟨r1, r2, r3, r4⟩ := per_spec h
  have e1 : stI L xs s (per L xs 1) = s := by
    rw [← hj, stI_add, Nat.add_comm, ← stI_add, p1]
  have e2 : stI L xs 1 (per L xs s) = 1 := by
    have := r1
    rw [← hj, stI_add] at this
    have := stI_inj h1 (Nat.le_add_right j _) this.symm
    rwa [show j + per L xs (stI L xs 1 j) - j = per L xs s from by rw [hj]; omega] at this
  have d1 := per_dvd h e1
  have d2 := per_dvd h1 e2
  by_cases hlt : per L xs s < per L xs 1
  · rw [Nat.mod_eq_of_lt hlt] at d2; omega
  · by_cases hgt : per L xs 1 < per L xs s
    · rw [Nat.mod_eq_of_lt hgt] at d1; omega
    · omega

/-- A list of bits that keeps the register's rule is the sequence of the start that its first bits make. -/
def startOf (c : Nat → Int) : Nat → Int
  | 0 => 0
  | k + 1 => startOf c k + c k * 2 ^ k

theorem startOf_in {c : Nat → Int} (hc : ∀ i, 0 ≤ c i ∧ c i ≤ 1) : ∀ k : Nat, 0 ≤ startOf c k ∧ startOf c k < 2 ^ k
  | 0 => by simp [startOf]
  | k + 1 => by
    have ih := startOf_in hc k
    have h := hc k
    simp only [startOf]
    rw [Int.pow_succ]
    rcases (show c k = 0 ∨ c k = 1 from by omega) with e | e <;> (rw [e]; omega)

theorem startOf_bit {c : Nat → Int} (hc : ∀ i, 0 ≤ c i ∧ c i ≤ 1) : ∀ (k j : Nat), j < k → startOf c k / 2 ^ j % 2 = c j
  | 0, j, h => by omega
  | k + 1, j, h => by
    have hin := startOf_in hc k
    have hk := hc k
    simp only [startOf]
    by_cases hj : j = k
    · subst hj
      have hp : (0 : Int) < 2 ^ j := Int.pow_pos (by omega)
      rw [Int.add_mul_ediv_right _ _ (by omega), Int.ediv_eq_zero_of_lt hin.1 hin.2]
      omega
    · have ih := startOf_bit hc k j (by omega)
      obtain ⟨m, hm⟩ : ∃ m, k = j + 1 + m := ⟨k - (j + 1), by omega⟩
      rw [← ih, hm]
      exact div_mid (M := 0) (by rw [← hm]; exact hin.1) (c (j + 1 + m))

theorem uniq (hc : chk L xs = 0) (hl : pLen xs.length) {c : Nat → Int} (h01 : ∀ i, 0 ≤ c i ∧ c i ≤ 1) (hr : ∀ t : Nat, L ≤ (t : Int) → c t = sm (fun j => c (t - (xs.getD j 0).toNat)) xs.length % 2) :
    pSt L xs (startOf c L.toNat) ∧ ∀ t, bitI L xs (startOf c L.toNat) t = c t := by
  have hL := (chk_zero hc).1
  have hz := regE_zero (chk_zero hc).2.2.1
  have hin := startOf_in h01 L.toNat
  have hst : pSt L xs (startOf c L.toNat) := ⟨hc, hl, hin.1, hin.2⟩
  refine ⟨hst, fun t => ?_⟩
  induction t using Nat.strongRecOn with
  | _ t ih =>
    by_cases ht : (t : Int) < L
    · rw [bit_head hst ht]
      exact startOf_bit h01 L.toNat t (by omega)
    · rw [bit_tail hst (by omega), hr t (by omega)]
      unfold tapSum
      rw [sm_congr xs.length (fun j hj => ih (t - (xs.getD j 0).toNat) (by have := hz j (by omega) (by omega); omega))]

theorem sm_mod (f g : Nat → Int) : ∀ k, sm (fun i => (f i + g i) % 2) k % 2 = (sm f k + sm g k) % 2
  | 0 => rfl
  | k + 1 => by
    have ih := sm_mod f g k
    simp only [sm]
    omega

theorem bitI_add (s : Int) (k i : Nat) : bitI L xs (stI L xs s k) i = bitI L xs s (k + i) := by
  unfold bitI; rw [stI_add]

/-- Two states with one sequence are one state. -/
theorem bits_inj (h : pSt L xs s) {s' : Int} (h' : pSt L xs s') (he : ∀ i, bitI L xs s i = bitI L xs s' i) : s = s' := by
  have hL := (chk_zero h.1).1
  have key : ∀ (k : Nat), (k : Int) ≤ L → s % 2 ^ k = s' % 2 ^ k := by
    intro k
    induction k with
    | zero => intro _; simp [Int.emod_one]
    | succ k ih =>
      intro hk
      have e1 := ih (by omega)
      have e2 := he k
      rw [bit_head h (by omega), bit_head h' (by omega)] at e2
      have d : ∀ x : Int, x % 2 ^ (k + 1) = x % 2 ^ k + (x / 2 ^ k % 2) * 2 ^ k := by
        intro x
        have hp : (0 : Int) < 2 ^ k := Int.pow_pos (by omega)
        rw [Int.pow_succ]
        have e1 := Int.mul_ediv_add_emod x (2 ^ k)
        have e2 := Int.mul_ediv_add_emod (x / 2 ^ k) 2
        have e3 := Int.emod_nonneg x (show (2 : Int) ^ k ≠ 0 by omega)
        have e4 := Int.emod_lt_of_pos x hp
        have e5 := Int.emod_nonneg (x / 2 ^ k) (show (2 : Int) ≠ 0 by omega)
        have e6 := Int.emod_lt_of_pos (x / 2 ^ k) (show (0 : Int) < 2 by omega)
        have e7 : x = 2 ^ k * 2 * (x / 2 ^ k / 2) + (x % 2 ^ k + (x / 2 ^ k % 2) * 2 ^ k) := by
          have : 2 ^ k * (x / 2 ^ k) = 2 ^ k * 2 * (x / 2 ^ k / 2) + (x / 2 ^ k % 2) * 2 ^ k := by
            rw [Int.mul_assoc, Int.mul_comm (x / 2 ^ k % 2) (2 ^ k), ← Int.mul_add, e2]
          omega
        have e8 : 0 ≤ x % 2 ^ k + (x / 2 ^ k % 2) * 2 ^ k ∧ x % 2 ^ k + (x / 2 ^ k % 2) * 2 ^ k < 2 ^ k * 2 := by
          rcases (show x / 2 ^ k % 2 = 0 ∨ x / 2 ^ k % 2 = 1 from by omega) with h | h <;> (rw [h]; omega)
        have e9 : x % (2 ^ k * 2) = (x % 2 ^ k + (x / 2 ^ k % 2) * 2 ^ k) % (2 ^ k * 2) := by
          conv => lhs; rw [e7]
          rw [Int.mul_add_emod_self_left]
        rw [e9, Int.emod_eq_of_lt e8.1 e8.2]
      rw [d, d, e1, e2]
  have h1 := key L.toNat (by omega)
  have r1 := h.2.2
  have r2 := h'.2.2
  unfold P2 at r1 r2
  rw [Int.emod_eq_of_lt r1.1 r1.2, Int.emod_eq_of_lt r2.1 r2.2] at h1
  exact h1

end

end Go.Eng.Pu

namespace Go.Eng.Pu
open Go.Eng Go.Proofs
set_option linter.all false
set_option maxRecDepth 100000
set_option maxHeartbeats 8000000

/-! ### Congruence -/

def Cg (p x y : Int) : Prop := x % p = y % p

theorem Cg.refl (p x : Int) : Cg p x x := rfl
theorem Cg.symm {p x y : Int} (h : Cg p x y) : Cg p y x := Eq.symm h
theorem Cg.trans {p x y z : Int} (h : Cg p x y) (h' : Cg p y z) : Cg p x z := Eq.trans h h'
theorem Cg.add {p x y u v : Int} (h : Cg p x y) (h' : Cg p u v) : Cg p (x + u) (y + v) := by
  unfold Cg at *; rw [Int.add_emod, h, h', ← Int.add_emod]
theorem Cg.mul {p x y u v : Int} (h : Cg p x y) (h' : Cg p u v) : Cg p (x * u) (y * v) := by
  unfold Cg at *; rw [Int.mul_emod, h, h', ← Int.mul_emod]
theorem Cg.pow {p x y : Int} (h : Cg p x y) : ∀ n : Nat, Cg p (x ^ n) (y ^ n)
  | 0 => by rw [Int.pow_zero, Int.pow_zero]; exact Cg.refl _ _
  | n + 1 => by rw [Int.pow_succ, Int.pow_succ]; exact (h.pow n).mul h
theorem Cg.mod (p x : Int) : Cg p (x % p) x := Int.emod_emod x p
theorem Cg.sm {p : Int} {f g : Nat → Int} : ∀ n : Nat, (∀ i, i < n → Cg p (f i) (g i)) → Cg p (sm f n) (sm g n)
  | 0, _ => rfl
  | n + 1, h => (Cg.sm n fun i hi => h i (by omega)).add (h n (by omega))
theorem cg_dvd {p x y : Int} : Cg p x y ↔ p ∣ x - y := by
  unfold Cg
  rw [Int.emod_eq_emod_iff_emod_sub_eq_zero, ← Int.dvd_iff_emod_eq_zero]
theorem cg_zero {p x : Int} : Cg p x 0 ↔ p ∣ x := by
  rw [cg_dvd, Int.sub_zero]
theorem Cg.eq {p x y : Int} (h : Cg p x y) (hx : 0 ≤ x) (hx' : x < p) (hy : 0 ≤ y) (hy' : y < p) : x = y := by
  unfold Cg at h
  rwa [Int.emod_eq_of_lt hx hx', Int.emod_eq_of_lt hy hy'] at h

/-! ### Primes -/

def Pr (p : Int) : Prop := 2 ≤ p ∧ ∀ d : Int, 2 ≤ d → d < p → p % d ≠ 0

/-- No divisor up to the root. -/
def Tr (n : Int) : Prop := ∀ d : Int, 2 ≤ d → d * d ≤ n → n % d ≠ 0

theorem tr_pr {n : Int} (h2 : 2 ≤ n) (h : Tr n) : Pr n := by
  refine ⟨h2, fun d h1 h3 hz => ?_⟩
  have e := Int.mul_ediv_add_emod n d
  rw [hz, Int.add_zero] at e
  have hq : 2 ≤ n / d := by
    by_cases hq : 2 ≤ n / d
    · exact hq
    · exfalso
      have : d * (n / d) ≤ d * 1 := Int.mul_le_mul_of_nonneg_left (by omega) (by omega)
      omega
  by_cases hdd : d * d ≤ n
  · exact h d h1 hdd hz
  · have hq2 : n / d < d := by
      by_cases hq2 : n / d < d
      · exact hq2
      · exfalso
        have : d * d ≤ d * (n / d) := Int.mul_le_mul_of_nonneg_left (by omega) (by omega)
        omega
    refine h (n / d) hq ?_ ?_
    · have : n / d * (n / d) ≤ d * (n / d) := Int.mul_le_mul_of_nonneg_right (by omega) (by omega)
      omega
    · refine Int.emod_eq_zero_of_dvd ⟨d, ?_⟩
      rw [Int.mul_comm]; exact e.symm

theorem pr_tr {n : Int} (h : Pr n) : Tr n := by
  intro d h1 h2 hz
  have : d * 2 ≤ d * d := Int.mul_le_mul_of_nonneg_left h1 (by omega)
  exact h.2 d h1 (by omega) hz

theorem pr_cop {p : Int} (hp : Pr p) {a : Int} (h : ¬ p ∣ a) : Nat.Coprime p.natAbs a.natAbs := by
  have h2 := hp.1
  have hg : Nat.gcd p.natAbs a.natAbs ∣ p.natAbs := Nat.gcd_dvd_left _ _
  have ha : Nat.gcd p.natAbs a.natAbs ∣ a.natAbs := Nat.gcd_dvd_right _ _
  by_cases g1 : Nat.gcd p.natAbs a.natAbs = 1
  · exact g1
  · exfalso
    generalize Nat.gcd p.natAbs a.natAbs = g at hg ha g1
    have hle := Nat.le_of_dvd (by omega) hg
    have hg0 : g ≠ 0 := by
      intro h0
      rw [h0] at hg
      have := Nat.eq_zero_of_zero_dvd hg
      omega
    have hgp : (g : Int) ∣ p := by
      have := Int.ofNat_dvd.2 hg
      rwa [Int.natAbs_of_nonneg (by omega)] at this
    by_cases he : (g : Int) = p
    · apply h
      rw [← he]
      exact Int.dvd_natAbs.1 (Int.ofNat_dvd.2 ha)
    · exact hp.2 g (by omega) (by omega) (Int.emod_eq_zero_of_dvd hgp)

theorem pr_mul {p a b : Int} (hp : Pr p) (h : p ∣ a * b) : p ∣ a ∨ p ∣ b := by
  by_cases ha : p ∣ a
  · exact .inl ha
  · right
    have hc := pr_cop hp ha
    have hd : p.natAbs ∣ a.natAbs * b.natAbs := by
      rw [← Int.natAbs_mul]; exact Int.natAbs_dvd_natAbs.2 h
    exact Int.natAbs_dvd_natAbs.1 (hc.dvd_of_dvd_mul_left hd)

theorem pr_small {p a : Int} (h1 : 0 < a) (h2 : a < p) : ¬ p ∣ a := fun h => by
  have := Int.le_of_dvd h1 h
  omega

theorem Cg.cancel {p a x y : Int} (hp : Pr p) (ha : ¬ p ∣ a) (h : Cg p (a * x) (a * y)) : Cg p x y := by
  rw [cg_dvd] at h ⊢
  rw [← Int.mul_sub] at h
  exact (pr_mul hp h).resolve_left ha

/-! ### Fermat -/

def ch : Nat → Nat → Int
  | _, 0 => 1
  | 0, _ + 1 => 0
  | n + 1, k + 1 => ch n k + ch n (k + 1)

theorem ch_zero : ∀ n, ch n 0 = 1
  | 0 => rfl
  | _ + 1 => rfl

theorem ch_big : ∀ n k : Nat, n < k → ch n k = 0
  | 0, k + 1, _ => rfl
  | n + 1, k + 1, h => by
    show ch n k + ch n (k + 1) = 0
    rw [ch_big n k (by omega), ch_big n (k + 1) (by omega)]; rfl

theorem ch_self : ∀ n : Nat, ch n n = 1
  | 0 => rfl
  | n + 1 => by
    show ch n n + ch n (n + 1) = 1
    rw [ch_self n, ch_big n (n + 1) (by omega)]; rfl

theorem ch_mul : ∀ n k : Nat, ((k : Int) + 1) * ch (n + 1) (k + 1) = ((n : Int) + 1) * ch n k
  | 0, 0 => rfl
  | 0, k + 1 => by
    rw [show ch (0 + 1) (k + 1 + 1) = 0 from rfl, show ch 0 (k + 1) = 0 from rfl]; simp
  | m + 1, 0 => by
    have ih := ch_mul m 0
    rw [ch_zero] at ih ⊢
    have e : ch (m + 1 + 1) (0 + 1) = ch (m + 1) 0 + ch (m + 1) (0 + 1) := rfl
    rw [e, ch_zero]
    simp only [Int.ofNat_zero, Int.natCast_add, Int.natCast_one] at ih ⊢
    simp at ih ⊢
    omega
  | m + 1, j + 1 => by
    have i1 := ch_mul m (j + 1)
    have i2 := ch_mul m j
    have e : ch (m + 1 + 1) (j + 1 + 1) = ch (m + 1) (j + 1) + ch (m + 1) (j + 1 + 1) := rfl
    have e2 : ch (m + 1) (j + 1) = ch m j + ch m (j + 1) := rfl
    rw [e]
    simp only [Int.natCast_add, Int.natCast_one] at i1 i2 ⊢
    generalize ch (m + 1) (j + 1 + 1) = A at *
    generalize ch (m + 1) (j + 1) = B at *
    generalize ch m j = C at *
    generalize ch m (j + 1) = D at *
    subst e2
    grind

theorem ch_step (a : Int) (n : Nat) : ∀ m : Nat, sm (fun k => ch (n + 1) k * a ^ k) (m + 1) = sm (fun k => ch n k * a ^ k) (m + 1) + a * sm (fun k => ch n k * a ^ k) m
  | 0 => by
    show 0 + ch (n + 1) 0 * a ^ 0 = 0 + ch n 0 * a ^ 0 + a * 0
    rw [ch_zero, ch_zero]; simp
  | m + 1 => by
    have ih := ch_step a n m
    have e1 : sm (fun k => ch (n + 1) k * a ^ k) (m + 1 + 1) = sm (fun k => ch (n + 1) k * a ^ k) (m + 1) + ch (n + 1) (m + 1) * a ^ (m + 1) := rfl
    have e2 : sm (fun k => ch n k * a ^ k) (m + 1 + 1) = sm (fun k => ch n k * a ^ k) (m + 1) + ch n (m + 1) * a ^ (m + 1) := rfl
    have e3 : sm (fun k => ch n k * a ^ k) (m + 1) = sm (fun k => ch n k * a ^ k) m + ch n m * a ^ m := rfl
    have e4 : ch (n + 1) (m + 1) = ch n m + ch n (m + 1) := rfl
    have e5 : a ^ (m + 1) = a ^ m * a := Int.pow_succ a m
    rw [e1, e2, ih, e4, e5, e3]
    grind

theorem binom (a : Int) : ∀ n : Nat, (a + 1) ^ n = sm (fun k => ch n k * a ^ k) (n + 1)
  | 0 => by show (a + 1) ^ 0 = 0 + ch 0 0 * a ^ 0; rw [ch_zero]; simp
  | n + 1 => by
    rw [ch_step a n (n + 1), Int.pow_succ, binom a n]
    have e2 : sm (fun k => ch n k * a ^ k) (n + 1 + 1) = sm (fun k => ch n k * a ^ k) (n + 1) + ch n (n + 1) * a ^ (n + 1) := rfl
    rw [e2, ch_big n (n + 1) (by omega)]
    grind

theorem ch_dvd {p : Int} (hp : Pr p) {n k : Nat} (hn : (n : Int) + 1 = p) (h : k < n) : p ∣ ch (n + 1) (k + 1) := by
  have e := ch_mul n k
  rw [hn] at e
  have : p ∣ ((k : Int) + 1) * ch (n + 1) (k + 1) := ⟨_, e⟩
  exact (pr_mul hp this).resolve_left (pr_small (by omega) (by omega))

theorem fermat_nat {p : Int} (hp : Pr p) {n : Nat} (hn : (n : Int) + 1 = p) : ∀ a : Nat, Cg p ((a : Int) ^ (n + 1)) a
  | 0 => by
    rw [Int.pow_succ]; simp [Cg]
  | a + 1 => by
    have ih := fermat_nat hp hn a
    have e : ((a + 1 : Nat) : Int) = (a : Int) + 1 := by omega
    rw [e, binom]
    have key : ∀ m : Nat, m ≤ n → Cg p (sm (fun k => ch (n + 1) k * (a : Int) ^ k) (m + 1)) 1 := by
      intro m
      induction m with
      | zero => intro _; show Cg p (0 + ch (n + 1) 0 * (a : Int) ^ 0) 1; rw [ch_zero]; simp [Cg]
      | succ m ihm =>
        intro hm
        have h1 := ihm (by omega)
        have h2 : Cg p (ch (n + 1) (m + 1) * (a : Int) ^ (m + 1)) 0 := cg_zero.2 (Int.dvd_mul_of_dvd_left (ch_dvd hp hn (by omega)))
        have := h1.add h2
        rwa [Int.add_zero] at this
    have h1 := key n (Nat.le_refl _)
    have h2 : Cg p (ch (n + 1) (n + 1) * (a : Int) ^ (n + 1)) a := by rw [ch_self, Int.one_mul]; exact ih
    have := h1.add h2
    rw [Int.add_comm 1 (a : Int)] at this
    exact this

theorem fermat {p : Int} (hp : Pr p) {a : Int} (ha : ¬ p ∣ a) : Cg p (a ^ (p - 1).toNat) 1 := by
  have h2 := hp.1
  have hn : (((p - 1).toNat : Nat) : Int) + 1 = p := by omega
  have h0 : 0 ≤ a % p := Int.emod_nonneg a (by omega)
  have e : ((a % p).toNat : Int) = a % p := Int.toNat_of_nonneg h0
  have h := fermat_nat hp hn (a % p).toNat
  rw [e] at h
  have hm := Cg.mod p a
  have h := ((hm.pow ((p - 1).toNat + 1)).symm.trans h).trans hm
  rw [Int.pow_succ, Int.mul_comm] at h
  have h' : Cg p (a * a ^ (p - 1).toNat) (a * 1) := by rw [Int.mul_one]; exact h
  exact h'.cancel hp ha

/-- The power p - 2 is the inverse. -/
theorem inverse_eq {p : Int} (hp : Pr p) {a : Int} (ha : ¬ p ∣ a) : Cg p (a * a ^ (p - 2).toNat) 1 := by
  have h2 := hp.1
  have := fermat hp ha
  rw [show (p - 1).toNat = (p - 2).toNat + 1 by omega, Int.pow_succ, Int.mul_comm] at this
  exact this

/-! ### Sums of powers -/

theorem geo (t : Int) : ∀ n : Nat, (t - 1) * sm (fun k => t ^ k) n = t ^ n - 1
  | 0 => by show (t - 1) * 0 = t ^ 0 - 1; simp
  | n + 1 => by
    have ih := geo t n
    have e : sm (fun k => t ^ k) (n + 1) = sm (fun k => t ^ k) n + t ^ n := rfl
    rw [e, Int.mul_add, ih, Int.pow_succ]
    grind

theorem geo_zero {p t : Int} (hp : Pr p) {n : Nat} (h1 : Cg p (t ^ n) 1) (h2 : ¬ Cg p t 1) : Cg p (sm (fun k => t ^ k) n) 0 := by
  have e := geo t n
  rw [cg_dvd] at h1
  rw [← e] at h1
  rw [cg_dvd] at h2
  exact cg_zero.2 ((pr_mul hp h1).resolve_left h2)

/-- w has the order n. -/
def Root (p w : Int) (n : Nat) : Prop := Cg p (w ^ n) 1 ∧ ∀ k : Nat, 0 < k → k < n → ¬ Cg p (w ^ k) 1

theorem pow_one_mul {p w : Int} {n : Nat} (h : Cg p (w ^ n) 1) (k : Nat) : Cg p (w ^ (n * k)) 1 := by
  rw [Int.pow_mul]
  have := h.pow k
  rwa [Int.one_pow] at this

theorem pow_modN {p w : Int} {n : Nat} (h : Cg p (w ^ n) 1) (k : Nat) : Cg p (w ^ (k % n)) (w ^ k) := by
  have e : k = k % n + n * (k / n) := (Nat.mod_add_div k n).symm
  have : Cg p (w ^ (k % n + n * (k / n))) (w ^ (k % n)) := by
    rw [Int.pow_add]
    have := (Cg.refl p (w ^ (k % n))).mul (pow_one_mul h (k / n))
    rwa [Int.mul_one] at this
  rw [← e] at this
  exact this.symm

/-- One number of the transform. -/
def dft (p w : Int) (x : Nat → Int) (n k : Nat) : Int := sm (fun j => x j * w ^ (j * k)) n % p

theorem root_unit {p w : Int} (hp : Pr p) {n : Nat} (hn : 0 < n) (h : Cg p (w ^ n) 1) : ¬ p ∣ w := by
  intro hd
  obtain ⟨m, rfl⟩ : ∃ m, n = m + 1 := ⟨n - 1, by omega⟩
  have h1 : Cg p (w ^ (m + 1)) 0 := cg_zero.2 (by rw [Int.pow_succ]; exact Int.dvd_mul_of_dvd_right hd)
  have h2 : Cg p 1 0 := h.symm.trans h1
  have := cg_zero.1 h2
  exact pr_small (p := p) (a := 1) (by omega) (by have := hp.1; omega) this

theorem there_back {p w v c : Int} (hp : Pr p) {n : Nat} (hr : Root p w n) (hv : Cg p (w * v) 1) (hc : Cg p ((n : Int) * c) 1) (x : Nat → Int) {i : Nat} (hi : i < n) : Cg p (dft p v (dft p w x n) n i * c) (x i) := by
  have hw := root_unit hp (by omega) hr.1
  have hwi : ∀ k : Nat, Cg p (w ^ k * v ^ k) 1 := fun k => by
    have := hv.pow k
    rw [Int.mul_pow, Int.one_pow] at this
    exact this
  have hvn : Cg p (v ^ n) 1 := by
    have h1 := hwi n
    have h2 := hr.1.mul (Cg.refl p (v ^ n))
    rw [Int.one_mul] at h2
    exact h2.symm.trans h1
  -- the sum over all, in the other order
  have e1 : Cg p (dft p v (dft p w x n) n i) (sm (fun k => sm (fun j => x j * w ^ (j * k)) n * v ^ (k * i)) n) := by
    unfold dft
    refine (Cg.mod p _).trans (Cg.sm n fun k hk => ?_)
    exact (Cg.mod p _).mul (Cg.refl p _)
  have e2 : sm (fun k => sm (fun j => x j * w ^ (j * k)) n * v ^ (k * i)) n = sm (fun j => x j * sm (fun k => (w ^ j * v ^ i) ^ k) n) n := by
    have a1 : ∀ k, k < n → sm (fun j => x j * w ^ (j * k)) n * v ^ (k * i) = sm (fun j => x j * (w ^ j * v ^ i) ^ k) n := by
      intro k _
      rw [Int.mul_comm, ← sm_mul]
      refine sm_congr n fun j _ => ?_
      rw [Int.mul_pow, ← Int.pow_mul, ← Int.pow_mul, Nat.mul_comm k i]
      generalize w ^ (j * k) = A
      generalize v ^ (i * k) = B
      grind
    rw [sm_congr n a1, sm_comm]
    refine sm_congr n fun j _ => ?_
    rw [← sm_mul]
  have e3 : Cg p (sm (fun j => x j * sm (fun k => (w ^ j * v ^ i) ^ k) n) n) (sm (fun j => if j = i then x i * n else 0) n) := by
    refine Cg.sm n fun j hj => ?_
    by_cases he : j = i
    · rw [if_pos he]
      subst he
      have h1 : Cg p (sm (fun k => (w ^ j * v ^ j) ^ k) n) (sm (fun _ => 1) n) := by
        refine Cg.sm n fun k _ => ?_
        have := (hwi j).pow k
        rwa [Int.one_pow] at this
      rw [sm_const, Int.mul_one] at h1
      exact (Cg.refl p _).mul h1
    · rw [if_neg he]
      have h1 : Cg p ((w ^ j * v ^ i) ^ n) 1 := by
        rw [Int.mul_pow, ← Int.pow_mul, ← Int.pow_mul, Nat.mul_comm j n, Nat.mul_comm i n]
        have := (pow_one_mul hr.1 j).mul (pow_one_mul hvn i)
        rwa [Int.mul_one] at this
      have h2 : ¬ Cg p (w ^ j * v ^ i) 1 := by
        intro ht
        have h3 : Cg p (w ^ j) (w ^ i) := by
          have a := ht.mul (Cg.refl p (w ^ i))
          have b := (Cg.refl p (w ^ j)).mul (hwi i)
          rw [Int.mul_one] at b
          rw [Int.one_mul] at a
          refine b.symm.trans (Cg.trans ?_ a)
          rw [Int.mul_assoc, Int.mul_comm (v ^ i) (w ^ i)]
          exact Cg.refl p _
        have hwk : ∀ k : Nat, ¬ p ∣ w ^ k := by
          intro k
          induction k with
          | zero => rw [Int.pow_zero]; exact pr_small (by omega) (by have := hp.1; omega)
          | succ k ih => rw [Int.pow_succ]; exact fun hd => (pr_mul hp hd).elim ih hw
        rcases (show j < i ∨ i < j by omega) with hlt | hlt
        · have e : i = j + (i - j) := by omega
          rw [e, Int.pow_add] at h3
          have h3 : Cg p (w ^ j * w ^ (i - j)) (w ^ j * 1) := by rw [Int.mul_one]; exact h3.symm
          exact hr.2 (i - j) (by omega) (by omega) (h3.cancel hp (hwk j))
        · have e : j = i + (j - i) := by omega
          rw [e, Int.pow_add] at h3
          have h3 : Cg p (w ^ i * w ^ (j - i)) (w ^ i * 1) := by rw [Int.mul_one]; exact h3
          exact hr.2 (j - i) (by omega) (by omega) (h3.cancel hp (hwk i))
      have h4 := (Cg.refl p (x j)).mul (geo_zero hp h1 h2)
      rwa [Int.mul_zero] at h4
  have e4 : sm (fun j => if j = i then x i * (n : Int) else 0) n = x i * n := by
    have key : ∀ m : Nat, sm (fun j => if j = i then x i * (n : Int) else 0) m = if i < m then x i * n else 0 := by
      intro m
      induction m with
      | zero => rw [if_neg (by omega)]; rfl
      | succ m ih =>
        have e : sm (fun j => if j = i then x i * (n : Int) else 0) (m + 1) = sm (fun j => if j = i then x i * (n : Int) else 0) m + (if m = i then x i * (n : Int) else 0) := rfl
        rw [e, ih]
        by_cases hm : m = i
        · subst hm; rw [if_neg (by omega), if_pos rfl, if_pos (by omega)]; omega
        · rw [if_neg hm]
          by_cases h : i < m
          · rw [if_pos h, if_pos (by omega)]; omega
          · rw [if_neg h, if_neg (by omega)]; rfl
    rw [key n, if_pos hi]
  rw [e4] at e3
  rw [e2] at e1
  have := (e1.trans e3).mul (Cg.refl p c)
  refine this.trans ?_
  rw [Int.mul_assoc]
  have := (Cg.refl p (x i)).mul hc
  rwa [Int.mul_one] at this

end Go.Eng.Pu
