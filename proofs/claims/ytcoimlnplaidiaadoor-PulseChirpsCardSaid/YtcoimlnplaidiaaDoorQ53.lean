/- Contracts: sweeps divided: Divided, of the program and of the reference. Conditions: each contract's own. -/
import Derived.Test.YtcoimlnplaidiaaDoorQ52
namespace Go.Eng.Pu
open Go.Eng Go.Proofs
set_option linter.all false
set_option maxRecDepth 100000
set_option maxHeartbeats 8000000

@[reducible] def x8 : Xt := { fuel := 8 }
theorem x8_ok : Its x8.its := True.intro

def qL : List IP := [(1, 0, ()), (0, 1, ()), (-1, 0, ()), (0, -1, ())]
/-- i to a power. -/
def qrt (n : Int) : IP := qL.getD (n.tmod 4).toNat (0, 0, ())

@[reducible] def sQuart : Spec := { pats := [.dat I64], res := [{ t := PairT }], pre := fun x => (0 : Int) ≤ x.1, f := fun x => (qrt x.1, ()) }

/-- ref.quarter -/
theorem h140 : Ok 31 sQuart := by
  refine mk (ctr := []) trivial (nt := 11) Tryd.func31 rfl rfl rfl rfl (by kernel_rfl) (by kernel_rfl) (fun _ => []) ?_
  rintro ⟨(n : Int), _⟩ (h : 0 ≤ n)
  have h1 : 0 ≤ n.tmod 4 ∧ n.tmod 4 < 4 := by rw [Int.tmod_eq_emod_of_nonneg h]; omega
  repeat' (intro hzz; (try (rename Two => hq; cases hq)); (try dsimp only at hzz); (try simp only [resTy, argTy, eqD, inR, big, wantOf, Bool.not_true, Bool.not_false, Bool.true_eq, decide_eq_true_eq, decide_eq_false_iff_not, Bool.not_eq_true', Bool.not_eq_false', Bool.and_eq_true, Prod.mk.injEq, and_true, true_and, Int.not_lt, Int.not_le, gt_iff_lt, ge_iff_le] at hzz); (try (first | contradiction | (exfalso; omega))); (try (revert hzz; intro _)))
  all_goals try (rename Unit => hq; clear hq)
  all_goals try ((with_reducible refine Held.mk ?_); (with_reducible (first | refine Frz.mk ?_ | refine And.intro (Frz.mk ?_) ?_ | refine And.intro ?_ (Frz.mk ?_))); repeat' first | exact True.intro | (change _ = _; with_reducible rfl) | refine And.intro ?_ ?_ | (with_reducible refine Frz.mk ?_))
  all_goals try (refine Held.mk ?_; (try dsimp only at *); (try simp only [resTy, argTy, eqD, inR, big, wantOf, Bool.not_true, Bool.not_false, Bool.true_eq, decide_eq_true_eq, decide_eq_false_iff_not, Bool.not_eq_true', Bool.not_eq_false', Bool.and_eq_true, Prod.mk.injEq, and_true, true_and, Int.not_lt, Int.not_le, gt_iff_lt, ge_iff_le] at *))
  all_goals try omega
  exact ⟨rfl, rfl⟩

def unB (p : IP) : Bool := decide (p.1 * p.1 + p.2.1 * p.2.1 = 1)
def conjP (p : IP) : IP := (p.1, -p.2.1, ())

@[reducible] def sUnit : Spec := { pats := [.dat PairT], res := [{ t := .bool }], pre := fun x => inBP 16777216 x.1, f := fun x => (unB x.1, ()) }

/-- pair.isUnit -/
theorem h135 : Ok 39 sUnit := by
  refine mk (ctr := []) trivial (nt := 15) Tryd.func39 rfl rfl rfl rfl (by kernel_rfl) (by kernel_rfl) (fun _ => []) ?_
  rintro ⟨⟨(a : Int), (b : Int), _⟩, _⟩ ⟨(h1 : -16777216 ≤ a ∧ a ≤ 16777216), (h2 : -16777216 ≤ b ∧ b ≤ 16777216)⟩
  have h3 := mul_in24 h1 h1
  have h4 := mul_in24 h2 h2
  repeat' (intro hzz; (try (rename Two => hq; cases hq)); (try dsimp only at hzz); (try simp only [resTy, argTy, eqD, inR, big, wantOf, Bool.not_true, Bool.not_false, Bool.true_eq, decide_eq_true_eq, decide_eq_false_iff_not, Bool.not_eq_true', Bool.not_eq_false', Bool.and_eq_true, Prod.mk.injEq, and_true, true_and, Int.not_lt, Int.not_le, gt_iff_lt, ge_iff_le] at hzz); (try (revert hzz; intro _)))
  all_goals try (rename Unit => hq; clear hq)
  all_goals try ((with_reducible refine Held.mk ?_); (with_reducible (first | refine Frz.mk ?_ | refine And.intro (Frz.mk ?_) ?_ | refine And.intro ?_ (Frz.mk ?_))); repeat' first | exact True.intro | (change _ = _; with_reducible rfl) | refine And.intro ?_ ?_ | (with_reducible refine Frz.mk ?_))
  all_goals try (refine Held.mk ?_; (try dsimp only at *); (try simp only [resTy, argTy, eqD, inR, big, wantOf, Bool.not_true, Bool.not_false, Bool.true_eq, decide_eq_true_eq, decide_eq_false_iff_not, Bool.not_eq_true', Bool.not_eq_false', Bool.and_eq_true, Prod.mk.injEq, and_true, true_and, Int.not_lt, Int.not_le, gt_iff_lt, ge_iff_le] at *))
  all_goals try omega
  rfl

@[reducible] def sOver : Spec := { pats := [.dat PairT, .dat PairT], res := [{ t := PairT }], pre := fun x => okT x.1 (conjP x.2.1) ∧ okI x.2.1.2.1, f := fun x => (timesP x.1 (conjP x.2.1), ()) }

/-- pair.over -/
theorem h136 : Ok 41 sOver := by
  refine mk (ctr := [(38, sTimes)]) ⟨h134, trivial⟩ (nt := 13) Tryd.func41 rfl rfl rfl rfl (by kernel_rfl) (by kernel_rfl) (fun _ => []) ?_
  rintro ⟨⟨(a : Int), (b : Int), _⟩, ⟨(c : Int), (d : Int), _⟩, _⟩ ⟨(h1 : okT (a, b, ()) (c, -d, ())), (h2 : okI d)⟩
  repeat' (intro hzz; (try (rename Two => hq; cases hq)); (try dsimp only at hzz); (try simp only [resTy, argTy, eqD, inR, big, wantOf, Bool.not_true, Bool.not_false, Bool.true_eq, decide_eq_true_eq, decide_eq_false_iff_not, Bool.not_eq_true', Bool.not_eq_false', Bool.and_eq_true, Prod.mk.injEq, and_true, true_and, Int.not_lt, Int.not_le, gt_iff_lt, ge_iff_le] at hzz); (try simp only [resTy, argTy, eqD, inR, big, wantOf, Bool.not_true, Bool.not_false, Bool.true_eq, decide_eq_true_eq, decide_eq_false_iff_not, Bool.not_eq_true', Bool.not_eq_false', Bool.and_eq_true, Prod.mk.injEq, and_true, true_and, Int.not_lt, Int.not_le, gt_iff_lt, ge_iff_le, okI] at hzz); (try (revert hzz; intro _)))
  all_goals try (rename Unit => hq; clear hq)
  all_goals try ((with_reducible refine Held.mk ?_); (with_reducible (first | refine Frz.mk ?_ | refine And.intro (Frz.mk ?_) ?_ | refine And.intro ?_ (Frz.mk ?_))); repeat' first | exact True.intro | (change _ = _; with_reducible rfl) | refine And.intro ?_ ?_ | (with_reducible refine Frz.mk ?_))
  all_goals try (refine Held.mk ?_; (try dsimp only at *); (try simp only [resTy, argTy, eqD, inR, big, wantOf, Bool.not_true, Bool.not_false, Bool.true_eq, decide_eq_true_eq, decide_eq_false_iff_not, Bool.not_eq_true', Bool.not_eq_false', Bool.and_eq_true, Prod.mk.injEq, and_true, true_and, Int.not_lt, Int.not_le, gt_iff_lt, ge_iff_le] at *); (try simp only [resTy, argTy, eqD, inR, big, wantOf, Bool.not_true, Bool.not_false, Bool.true_eq, decide_eq_true_eq, decide_eq_false_iff_not, Bool.not_eq_true', Bool.not_eq_false', Bool.and_eq_true, Prod.mk.injEq, and_true, true_and, Int.not_lt, Int.not_le, gt_iff_lt, ge_iff_le, okI] at *))
  all_goals try omega
  exact ⟨rfl, rfl⟩

theorem sq_nn (a : Int) : 0 ≤ a * a := by
  rcases Int.le_total 0 a with h | h
  · exact Int.mul_nonneg h h
  · exact Int.mul_nonneg_of_nonpos_of_nonpos h h

theorem sq_one {a b : Int} (h : a * a + b * b = 1) : (a = 1 ∧ b = 0) ∨ (a = 0 ∧ b = 1) ∨ (a = -1 ∧ b = 0) ∨ (a = 0 ∧ b = -1) := by
  have ha : ((a.natAbs * a.natAbs : Nat) : Int) = a * a := by rw [← Int.natAbs_mul]; exact Int.natAbs_of_nonneg (sq_nn a)
  have hb : ((b.natAbs * b.natAbs : Nat) : Int) = b * b := by rw [← Int.natAbs_mul]; exact Int.natAbs_of_nonneg (sq_nn b)
  have h1 : a.natAbs * a.natAbs + b.natAbs * b.natAbs = 1 := by omega
  have key : ∀ x : Nat, x * x ≤ 1 → x ≤ 1 := fun x hx => by
    rcases Nat.lt_or_ge x 2 with h | h
    · omega
    · have := Nat.mul_le_mul h h; omega
  have h2 := key a.natAbs (by omega)
  have h3 := key b.natAbs (by omega)
  have h4 : a = 0 ∨ a = 1 ∨ a = -1 := by omega
  have h5 : b = 0 ∨ b = 1 ∨ b = -1 := by omega
  rcases h4 with rfl | rfl | rfl <;> rcases h5 with rfl | rfl | rfl <;> first | omega | (exfalso; revert h; decide)

theorem unB_iff (p : IP) : unB p = true ↔ p = qrt 0 ∨ p = qrt 1 ∨ p = qrt 2 ∨ p = qrt 3 := by
  constructor
  · intro h
    have h := sq_one (of_decide_eq_true h)
    obtain ⟨a, b, u⟩ := p
    rcases h with ⟨h1, h2⟩ | ⟨h1, h2⟩ | ⟨h1, h2⟩ | ⟨h1, h2⟩ <;> (simp only at h1 h2; subst h1 h2)
    · exact .inl rfl
    · exact .inr (.inl rfl)
    · exact .inr (.inr (.inl rfl))
    · exact .inr (.inr (.inr rfl))
  · rintro (rfl | rfl | rfl | rfl) <;> rfl

/-! ### Sums of pairs -/

def suP (f : Nat → IP) : Nat → IP
  | 0 => (0, 0, ())
  | n + 1 => plusP (suP f n) (f n)

theorem suP_congr {f g : Nat → IP} : ∀ {n : Nat}, (∀ i, i < n → f i = g i) → suP f n = suP g n
  | 0, _ => rfl
  | n + 1, h => by
    show plusP (suP f n) (f n) = plusP (suP g n) (g n)
    rw [suP_congr fun i hi => h i (by omega), h n (by omega)]

theorem plusP_assoc (a b c : IP) : plusP (plusP a b) c = plusP a (plusP b c) := by
  show (a.1 + b.1 + c.1, a.2.1 + b.2.1 + c.2.1, ()) = (a.1 + (b.1 + c.1), a.2.1 + (b.2.1 + c.2.1), ())
  rw [Int.add_assoc, Int.add_assoc]
theorem plusP_comm (a b : IP) : plusP a b = plusP b a := by
  show (a.1 + b.1, a.2.1 + b.2.1, ()) = (b.1 + a.1, b.2.1 + a.2.1, ())
  rw [Int.add_comm, Int.add_comm a.2.1]

theorem suP_front (f : Nat → IP) : ∀ n : Nat, suP f (n + 1) = plusP (f 0) (suP (fun i => f (i + 1)) n)
  | 0 => by
    show plusP (0, 0, ()) (f 0) = plusP (f 0) (0, 0, ())
    rw [plusP_zero, plusP_zero']
  | n + 1 => by
    show plusP (suP f (n + 1)) (f (n + 1)) = plusP (f 0) (plusP (suP (fun i => f (i + 1)) n) (f (n + 1)))
    rw [suP_front f n, plusP_assoc]

theorem suP_rev (F : Nat → IP) : ∀ n : Nat, suP (fun j => F (n - j)) n = suP (fun i => F (i + 1)) n
  | 0 => rfl
  | n + 1 => by
    rw [suP_front]
    have e : suP (fun i => F (n + 1 - (i + 1))) n = suP (fun j => F (n - j)) n := suP_congr fun i _ => by rw [Nat.add_sub_add_right]
    rw [e, suP_rev F n]
    exact plusP_comm _ _

theorem suP_cut {f : Nat → IP} {m : Nat} : ∀ {n : Nat}, m ≤ n → (∀ i, m ≤ i → i < n → f i = (0, 0, ())) → suP f n = suP f m
  | 0, h, _ => by rw [show m = 0 by omega]
  | n + 1, h, hz => by
    by_cases he : m = n + 1
    · rw [he]
    · show plusP (suP f n) (f n) = _
      rw [hz n (by omega) (by omega), plusP_zero]
      exact suP_cut (by omega) fun i h1 h2 => hz i h1 (by omega)

theorem suP_in {f : Nat → IP} (h : ∀ i, inBP 562949953421312 (f i)) : ∀ n : Nat, inBP (n * 562949953421312) (suP f n)
  | 0 => by show (_ ≤ (0 : Int) ∧ (0 : Int) ≤ _) ∧ (_ ≤ (0 : Int) ∧ (0 : Int) ≤ _); omega
  | n + 1 => by
    have := plusP_in (suP_in h n) (h n)
    rw [show ((n + 1 : Nat) : Int) * 562949953421312 = (n : Int) * 562949953421312 + 562949953421312 by omega]
    exact this

theorem less_plus (a b c : IP) : lessP (lessP a b) c = lessP a (plusP b c) := by
  show (a.1 - b.1 - c.1, a.2.1 - b.2.1 - c.2.1, ()) = (a.1 - (b.1 + c.1), a.2.1 - (b.2.1 + c.2.1), ())
  rw [Int.sub_sub, Int.sub_sub]

@[irreducible] def Hid (p : Prop) : Prop := p
theorem Hid.mk {p : Prop} (h : p) : Hid p := by unfold Hid; exact h
theorem Hid.out {p : Prop} (h : Hid p) : p := by unfold Hid at h; exact h

theorem fits_no {p : IP} (h : ¬ inBP 16777216 p) : fits p = false := by
  cases hf : fits p with
  | false => rfl
  | true =>
    have hf : (fRec p.1 && fRec p.2.1) = true := hf
    rw [Bool.and_eq_true] at hf
    exact absurd ⟨of_decide_eq_true hf.1, of_decide_eq_true hf.2⟩ h

theorem beqP_iff (p q : IP) : Ty.beq PairT p q = true ↔ p = q := by
  obtain ⟨a, b, u⟩ := p
  obtain ⟨c, d, u'⟩ := q
  simp [Ty.beq]

/-! ### Divided -/

/-- What the number j has left at the place t; the same, told by the distance. -/
def dvG (qs out : List IP) (t j : Nat) : IP := if t - j < qs.length then timesP (out.getD j (0, 0, ())) (qs.getD (t - j) (0, 0, ())) else (0, 0, ())
def dvH (qs out : List IP) (t i : Nat) : IP := timesP (out.getD (t - (i + 1)) (0, 0, ())) (qs.getD (i + 1) (0, 0, ()))
def dvS (ps qs out : List IP) (t : Nat) : IP := lessP (ps.getD t (0, 0, ())) (suP (dvG qs out t) t)
def dvN (ps qs out : List IP) (t : Nat) : IP := timesP (dvS ps qs out t) (conjP (qs.getD 0 (0, 0, ())))
def dvR (ps qs : List IP) : Nat → List IP
  | 0 => []
  | t + 1 => dvR ps qs t ++ [dvN ps qs (dvR ps qs t) t]

theorem dvR_len (ps qs : List IP) : ∀ t : Nat, (dvR ps qs t).length = t
  | 0 => rfl
  | t + 1 => by
    show (dvR ps qs t ++ [_]).length = t + 1
    rw [List.length_append, dvR_len ps qs t]; rfl

theorem dvH_end {qs out : List IP} {t m : Nat} (h1 : m ≤ t) (h2 : m = t ∨ qs.length ≤ m + 1) (h3 : m = 0 ∨ m < qs.length) : suP (dvH qs out t) m = suP (dvG qs out t) t := by
  let F : Nat → IP := fun k => if k < qs.length then timesP (out.getD (t - k) (0, 0, ())) (qs.getD k (0, 0, ())) else (0, 0, ())
  have a1 : suP (dvG qs out t) t = suP (fun j => F (t - j)) t := suP_congr fun i hi => by
    show (if t - i < qs.length then _ else _) = if t - i < qs.length then timesP (out.getD (t - (t - i)) (0, 0, ())) _ else _
    rw [show t - (t - i) = i by omega]
  have a2 := suP_rev F t
  have a3 : suP (fun i => F (i + 1)) t = suP (fun i => F (i + 1)) m := suP_cut h1 fun i hi hit => by
    show (if i + 1 < qs.length then _ else _) = _
    rw [if_neg (by omega)]
  have a4 : suP (fun i => F (i + 1)) m = suP (dvH qs out t) m := suP_congr fun i hi => by
    show (if i + 1 < qs.length then _ else _) = _
    rw [if_pos (by omega)]; rfl
  rw [a1, a2, a3, a4]

theorem allFit_app (xs ys : List IP) : allFit (xs ++ ys) = (allFit xs && allFit ys) := by
  unfold allFit; rw [List.all_append]

theorem dvR_no {ps qs : List IP} {t : Nat} (h : fits (dvN ps qs (dvR ps qs t) t) = false) : ∀ m : Nat, t < m → allFit (dvR ps qs m) = false
  | 0, hm => by omega
  | m + 1, hm => by
    show allFit (dvR ps qs m ++ [_]) = false
    rw [allFit_app]
    by_cases he : t = m
    · subst he
      have : allFit [dvN ps qs (dvR ps qs t) t] = false := by unfold allFit; simp [h]
      rw [this, Bool.and_false]
    · rw [dvR_no h m (by omega), Bool.false_and]

theorem dvR_yes {ps qs : List IP} {t : Nat} (h1 : allFit (dvR ps qs t) = true) (h2 : fits (dvN ps qs (dvR ps qs t) t) = true) : allFit (dvR ps qs (t + 1)) = true := by
  show allFit (dvR ps qs t ++ [_]) = true
  rw [allFit_app, h1]
  unfold allFit; simp [h2]

def lessP_in {A B : Int} {a b : IP} (ha : inBP A a) (hb : inBP B b) : inBP (A + B) (lessP a b) := by
  obtain ⟨a1, a2⟩ := ha
  obtain ⟨b1, b2⟩ := hb
  show (_ ≤ a.1 - b.1 ∧ a.1 - b.1 ≤ _) ∧ (_ ≤ a.2.1 - b.2.1 ∧ a.2.1 - b.2.1 ≤ _)
  omega

theorem dvG_in {qs out : List IP} (hb : okL 16777216 qs) (ho : okL 16777216 out) (t j : Nat) : inBP 562949953421312 (dvG qs out t j) := by
  unfold dvG
  split
  · exact timesP_in (okL_inBP ho j) (okL_inBP hb (t - j))
  · show (_ ≤ (0 : Int) ∧ (0 : Int) ≤ _) ∧ (_ ≤ (0 : Int) ∧ (0 : Int) ≤ _); omega
theorem dvH_in {qs out : List IP} (hb : okL 16777216 qs) (ho : okL 16777216 out) (t i : Nat) : inBP 562949953421312 (dvH qs out t i) := timesP_in (okL_inBP ho _) (okL_inBP hb _)

theorem dvP_in {ps qs out : List IP} (ha : okL 16777216 ps) (hb : okL 16777216 qs) (ho : okL 16777216 out) {t j : Nat} (hj : j ≤ 1024) : inBP 600000000000000000 (lessP (ps.getD t (0, 0, ())) (suP (dvG qs out t) j)) :=
  inBP_mono (lessP_in (okL_inBP ha t) (suP_in (dvG_in hb ho t) j)) (by omega)
theorem dvQ_in {ps qs out : List IP} (ha : okL 16777216 ps) (hb : okL 16777216 qs) (ho : okL 16777216 out) {t j : Nat} (hj : j ≤ 1024) : inBP 600000000000000000 (lessP (ps.getD t (0, 0, ())) (suP (dvH qs out t) j)) :=
  inBP_mono (lessP_in (okL_inBP ha t) (suP_in (dvH_in hb ho t) j)) (by omega)

theorem unit_in {p : IP} (h : unB p = true) : (-1 ≤ p.1 ∧ p.1 ≤ 1) ∧ (-1 ≤ p.2.1 ∧ p.2.1 ≤ 1) := by
  rcases (unB_iff p).1 h with rfl | rfl | rfl | rfl <;> exact ⟨by decide, by decide⟩

theorem okT_unit {a u : IP} (ha : inBP 600000000000000000 a) (hu : unB u = true) : okT a (conjP u) := by
  have h := unit_in hu
  have e1 := by_in ha.1.1 ha.1.2 h.1.1 h.1.2
  have e2 := by_in (s := -u.2.1) ha.2.1 ha.2.2 (by omega) (by omega)
  have e3 := by_in (s := -u.2.1) ha.1.1 ha.1.2 (by omega) (by omega)
  have e4 := by_in ha.2.1 ha.2.2 h.1.1 h.1.2
  exact ⟨by show okI (a.1 * u.1); unfold okI; omega, by show okI (a.2.1 * -u.2.1); unfold okI; omega, by show okI (a.1 * -u.2.1); unfold okI; omega, by show okI (a.2.1 * u.1); unfold okI; omega⟩

theorem timesU_in {a u : IP} (ha : inBP 600000000000000000 a) (hu : unB u = true) : okI (timesP a (conjP u)).1 ∧ okI (timesP a (conjP u)).2.1 := by
  have h := unit_in hu
  have e1 := by_in ha.1.1 ha.1.2 h.1.1 h.1.2
  have e2 := by_in (s := -u.2.1) ha.2.1 ha.2.2 (by omega) (by omega)
  have e3 := by_in (s := -u.2.1) ha.1.1 ha.1.2 (by omega) (by omega)
  have e4 := by_in ha.2.1 ha.2.2 h.1.1 h.1.2
  exact ⟨by show okI (a.1 * u.1 - a.2.1 * -u.2.1); unfold okI; omega, by show okI (a.1 * -u.2.1 + a.2.1 * u.1); unfold okI; omega⟩

/-- The error and the result. -/
def dvE (a b : CL) : Int := if twE a b = 0 then (if unB ((lP b).getD 0 (0, 0, ())) = true then tE (dvR (lP a) (lP b) (lP a).length) else 15) else twE a b
def dvL (a b : CL) : CL := if twE a b = 0 then (if unB ((lP b).getD 0 (0, 0, ())) = true then tL (dvR (lP a) (lP b) (lP a).length) else []) else []

@[reducible] def sDiv : Spec := { pats := [.dat (.sl C64), .dat (.sl C64)], res := [{ own := some 48, t := .sl C64 }, { t := I64 }], pre := fun _ => True, f := fun x => (dvL x.1 x.2.1, dvE x.1 x.2.1, ()) }

theorem unit_okT {a b : CL} (h : twE a b = 0) (k : Nat) : inBP 16777216 ((lP a).getD k (0, 0, ())) ∧ inBP 16777216 ((lP b).getD k (0, 0, ())) :=
  ⟨okL_inBP (lP_okL (twE_zero h).1) k, okL_inBP (lP_okL (twE_zero h).2) k⟩

/-- Divided -/
theorem h73 : Ok 17 sDiv := by
  refine mk (ctr := [(36, sTwoL), (39, sUnit), (38, sTimes), (40, sLess), (41, sOver), (42, sFits), (30, sTold)]) ⟨h133, h135, h134, h123, h136, h137, h93n, trivial⟩ (nt := 79) Tryd.func17 rfl rfl rfl rfl (by kernel_rfl) (by kernel_rfl) (fun x => [fun _ => { σ := Nat, pat := fun t => [sI 33 t] ++ rOwn 9 60009 69 PairT (dvR (lP x.1) (lP x.2.1) t), inv := fun t => t ≤ List.length (α := IP) (lP x.1) ∧ allFit (dvR (lP x.1) (lP x.2.1) t) = true, meas := fun t => List.length (α := IP) (lP x.1) - t }, fun st => withI 33 st fun t => { σ := Nat, pat := fun j => [sI 40 j, .cell 11 0 (.d I64 (lessP ((lP x.1).getD t.toNat (0, 0, ())) (suP (dvG (lP x.2.1) (dvR (lP x.1) (lP x.2.1) t.toNat) t.toNat) j)).1), .cell 11 1 (.d I64 (lessP ((lP x.1).getD t.toNat (0, 0, ())) (suP (dvG (lP x.2.1) (dvR (lP x.1) (lP x.2.1) t.toNat) t.toNat) j)).2.1)], inv := fun j => j ≤ t.toNat, meas := fun j => t.toNat - j }]) ?_
  rintro ⟨(a : CL), (b : CL), _⟩ _
  by_cases h : twE a b = 0
  · obtain ⟨ha, hb⟩ := twE_zero h
    have hla := lP_len ha
    have hlb := lP_len hb
    have hla2 := lE_ok ha
    have hlb2 := lE_ok hb
    have hoa := lP_okL ha
    have hob := lP_okL hb
    have ht : twL a b = lP b := by unfold twL; rw [if_pos ha]
    have ht2 : ∀ {p q : IP} {k : Nat} {x : IP}, lessP p (timesP q ((lP b).getD k (0, 0, ()))) = x → lessP p (timesP q ((twL a b).getD k (0, 0, ()))) = x := fun h => by rw [ht]; exact h
    by_cases hu : unB ((lP b).getD 0 (0, 0, ())) = true
    · have u : dvE a b = tE (dvR (lP a) (lP b) (lP a).length) := by unfold dvE; rw [if_pos h, if_pos hu]
      have v : dvL a b = tL (dvR (lP a) (lP b) (lP a).length) := by unfold dvL; rw [if_pos h, if_pos hu]
      have hu' : unB ((lP b).getD (Int.toNat 0) (Ty.dflt PairT)) = true := hu
      have h0 := okL_inBP hob 0
      have hu0 : Hid (unB ((lP b).getD 0 (0, 0, ())) = true) := Hid.mk hu
      repeat' (intro hzz; (try (rename Two => hq; cases hq)); (try dsimp only at hzz); (try simp only [resTy, argTy, eqD, inR, big, wantOf, Bool.not_true, Bool.not_false, Bool.true_eq, decide_eq_true_eq, decide_eq_false_iff_not, Bool.not_eq_true', Bool.not_eq_false', Bool.and_eq_true, Prod.mk.injEq, and_true, true_and, Int.not_lt, Int.not_le, gt_iff_lt, ge_iff_le] at hzz); (try simp only [resTy, argTy, eqD, inR, big, wantOf, Bool.not_true, Bool.not_false, Bool.true_eq, decide_eq_true_eq, decide_eq_false_iff_not, Bool.not_eq_true', Bool.not_eq_false', Bool.and_eq_true, Prod.mk.injEq, and_true, true_and, Int.not_lt, Int.not_le, gt_iff_lt, ge_iff_le, h, ht, hu', dvR_len, Int.toNat_natCast] at hzz); (try (first | contradiction | (exfalso; omega))); (try (revert hzz; intro _)))
      all_goals try (rename Unit => hq; clear hq)
      all_goals try ((with_reducible refine Held.mk ?_); (with_reducible (first | refine Frz.mk ?_ | refine And.intro (Frz.mk ?_) ?_ | refine And.intro ?_ (Frz.mk ?_))); repeat' first | exact True.intro | (change _ = _; with_reducible rfl) | refine And.intro ?_ ?_ | (with_reducible refine Frz.mk ?_))
      all_goals try (refine Held.mk ?_; (try dsimp only at *); (try simp only [resTy, argTy, eqD, inR, big, wantOf, Bool.not_true, Bool.not_false, Bool.true_eq, decide_eq_true_eq, decide_eq_false_iff_not, Bool.not_eq_true', Bool.not_eq_false', Bool.and_eq_true, Prod.mk.injEq, and_true, true_and, Int.not_lt, Int.not_le, gt_iff_lt, ge_iff_le] at *); (try simp only [resTy, argTy, eqD, inR, big, wantOf, Bool.not_true, Bool.not_false, Bool.true_eq, decide_eq_true_eq, decide_eq_false_iff_not, Bool.not_eq_true', Bool.not_eq_false', Bool.and_eq_true, Prod.mk.injEq, and_true, true_and, Int.not_lt, Int.not_le, gt_iff_lt, ge_iff_le, h, ht, hu', dvR_len, Int.toNat_natCast] at *))
      all_goals try omega
      · exact h0
      · 
        refine GHeld.mk ?_
        refine Exists.intro 0 ?_
        refine And.intro (Leaf.mk ?_) ?_
        · repeat' first | exact True.intro | refine And.intro ?_ ?_
          all_goals try ((change _ = _ <;> try dsimp only) <;> try with_reducible rfl)
          all_goals try omega
          all_goals (rfl)
        exact ⟨Nat.zero_le _, rfl⟩
      · rename_i t hi hlt
        have e : ∀ p : IP, p = lessP p (suP (dvG (lP b) (dvR (lP a) (lP b) t) t) 0) := fun p => by
          obtain ⟨x, y, _⟩ := p
          show (x, y, ()) = (x - 0, y - 0, ())
          rw [Int.sub_zero, Int.sub_zero]
        refine GHeld.mk ?_
        refine Exists.intro 0 ?_
        refine And.intro (Leaf.mk ?_) ?_
        · repeat' first | exact True.intro | refine And.intro ?_ ?_
          all_goals try ((change _ = _ <;> try dsimp only) <;> try with_reducible rfl)
          all_goals try omega
          all_goals (first | exact congrArg (fun p : IP => p.1) (e _) | exact congrArg (fun p : IP => p.2.1) (e _) | rfl)
        exact Nat.zero_le _
      · rename_i t hi hlt j hj hlj hg
        exact okT_24 (okL_inBP (fit_okL hi.2) j) (okL_inBP hob _)
      · rename_i t hi hlt j hj hlj hg
        have b1 := dvP_in (t := t) (j := j) hoa hob (fit_okL hi.2) (by omega)
        have b2 := timesP_in (okL_inBP (fit_okL hi.2) j) (okL_inBP hob ((t : Int) - (j : Int)).toNat)
        exact ⟨okI_le b1.1 (by decide), okI_le b1.2 (by decide), okI_le b2.1 (by decide), okI_le b2.2 (by decide)⟩
      · rename_i t hi hlt j hj hlj hg
        have e : lessP (lessP ((lP a).getD t (0, 0, ())) (suP (dvG (lP b) (dvR (lP a) (lP b) t) t) j)) (timesP ((dvR (lP a) (lP b) t).getD j (0, 0, ())) ((lP b).getD ((t : Int) - (j : Int)).toNat (0, 0, ()))) = lessP ((lP a).getD t (0, 0, ())) (suP (dvG (lP b) (dvR (lP a) (lP b) t) t) (j + 1)) := by
          rw [show ((t : Int) - (j : Int)).toNat = t - j by omega]
          show _ = lessP ((lP a).getD t (0, 0, ())) (plusP (suP (dvG (lP b) (dvR (lP a) (lP b) t) t) j) (if t - j < (lP b).length then _ else _))
          rw [if_pos (by omega)]
          exact less_plus _ _ _
        have e2 := ht2 e
        refine GHeld.mk ?_
        refine Exists.intro (j + 1) ?_
        refine And.intro (Leaf.mk ?_) ?_
        · repeat' first | exact True.intro | refine And.intro ?_ ?_
          all_goals try ((change _ = _ <;> try dsimp only) <;> try with_reducible rfl)
          all_goals try omega
          all_goals (first | exact congrArg (fun p : IP => p.1) e2 | exact congrArg (fun p : IP => p.2.1) e2 | rfl)
        exact ⟨by show j + 1 ≤ t; omega, by show t - (j + 1) < t - j; omega⟩
      · rename_i t hi hlt j hj hlj hg
        have e : lessP ((lP a).getD t (0, 0, ())) (suP (dvG (lP b) (dvR (lP a) (lP b) t) t) j) = lessP ((lP a).getD t (0, 0, ())) (suP (dvG (lP b) (dvR (lP a) (lP b) t) t) (j + 1)) := by
          show _ = lessP ((lP a).getD t (0, 0, ())) (plusP (suP (dvG (lP b) (dvR (lP a) (lP b) t) t) j) (if t - j < (lP b).length then _ else _))
          rw [if_neg (by omega), plusP_zero]
        refine GHeld.mk ?_
        refine Exists.intro (j + 1) ?_
        refine And.intro (Leaf.mk ?_) ?_
        · repeat' first | exact True.intro | refine And.intro ?_ ?_
          all_goals try ((change _ = _ <;> try dsimp only) <;> try with_reducible rfl)
          all_goals try omega
          all_goals (first | exact congrArg (fun p : IP => p.1) e | exact congrArg (fun p : IP => p.2.1) e | rfl)
        exact ⟨by show j + 1 ≤ t; omega, by show t - (j + 1) < t - j; omega⟩
      · rename_i t hi hlt j hj hge
        exact ⟨okT_unit (dvP_in hoa hob (fit_okL hi.2) (by omega)) hu0.out, okI_le h0.2 (by decide)⟩
      · rename_i t hi hlt j hj hge hg
        rw [show j = t by omega] at hg
        have hq := dvR_no (qs := lP b) (ps := lP a) (t := t) hg (lP a).length (by omega)
        rw [u, v, (t_no hq).1, (t_no hq).2]; exact ⟨rfl, rfl⟩
      · rename_i t hi hlt j hj hge hg
        show t + 1 ≤ 2147483648; omega
      · rename_i t hi hlt j hj hge hg
        rw [show j = t by omega] at hg
        have hq := dvR_yes (qs := lP b) (ps := lP a) (t := t) hi.2 (fits_of hg)
        have e : dvR (lP a) (lP b) t ++ [timesP (lessP ((lP a).getD t (0, 0, ())) (suP (dvG (lP b) (dvR (lP a) (lP b) t) t) j)) (conjP ((twL a b).getD 0 (0, 0, ())))] = dvR (lP a) (lP b) (t + 1) := by
          rw [show twL a b = lP b by unfold twL; rw [if_pos ha], show j = t by omega]; rfl
        refine GHeld.mk ?_
        refine Exists.intro (t + 1) ?_
        refine And.intro (Leaf.mk ?_) ?_
        · repeat' first | exact True.intro | refine And.intro ?_ ?_
          all_goals try ((change _ = _ <;> try dsimp only) <;> try with_reducible rfl)
          all_goals try omega
          all_goals (first | exact e | exact congrArg List.length e | rfl)
        exact ⟨⟨by show t + 1 ≤ (lP a).length; omega, hq⟩, by show (lP a).length - (t + 1) < (lP a).length - t; omega⟩
      · rename_i t hi hge
        rw [u, v, show t = (lP a).length by omega]; exact ⟨rfl, rfl⟩
    · have hu : unB ((lP b).getD 0 (0, 0, ())) = false := by simpa using hu
      have u : dvE a b = 15 := by unfold dvE; rw [if_pos h, hu]; rfl
      have v : dvL a b = [] := by unfold dvL; rw [if_pos h, hu]; rfl
      have h0 := okL_inBP hob 0
      have hu' : unB ((lP b).getD (Int.toNat 0) (Ty.dflt PairT)) = false := hu
      repeat' (intro hzz; (try (rename Two => hq; cases hq)); (try dsimp only at hzz); (try simp only [resTy, argTy, eqD, inR, big, wantOf, Bool.not_true, Bool.not_false, Bool.true_eq, decide_eq_true_eq, decide_eq_false_iff_not, Bool.not_eq_true', Bool.not_eq_false', Bool.and_eq_true, Prod.mk.injEq, and_true, true_and, Int.not_lt, Int.not_le, gt_iff_lt, ge_iff_le] at hzz); (try simp only [resTy, argTy, eqD, inR, big, wantOf, Bool.not_true, Bool.not_false, Bool.true_eq, decide_eq_true_eq, decide_eq_false_iff_not, Bool.not_eq_true', Bool.not_eq_false', Bool.and_eq_true, Prod.mk.injEq, and_true, true_and, Int.not_lt, Int.not_le, gt_iff_lt, ge_iff_le, h, ht, hu', u, v] at hzz); (try (first | contradiction | (exfalso; omega))); (try (revert hzz; intro _)))
      all_goals try (rename Unit => hq; clear hq)
      all_goals try ((with_reducible refine Held.mk ?_); (with_reducible (first | refine Frz.mk ?_ | refine And.intro (Frz.mk ?_) ?_ | refine And.intro ?_ (Frz.mk ?_))); repeat' first | exact True.intro | (change _ = _; with_reducible rfl) | refine And.intro ?_ ?_ | (with_reducible refine Frz.mk ?_))
      all_goals try (refine Held.mk ?_; (try dsimp only at *); (try simp only [resTy, argTy, eqD, inR, big, wantOf, Bool.not_true, Bool.not_false, Bool.true_eq, decide_eq_true_eq, decide_eq_false_iff_not, Bool.not_eq_true', Bool.not_eq_false', Bool.and_eq_true, Prod.mk.injEq, and_true, true_and, Int.not_lt, Int.not_le, gt_iff_lt, ge_iff_le] at *); (try simp only [resTy, argTy, eqD, inR, big, wantOf, Bool.not_true, Bool.not_false, Bool.true_eq, decide_eq_true_eq, decide_eq_false_iff_not, Bool.not_eq_true', Bool.not_eq_false', Bool.and_eq_true, Prod.mk.injEq, and_true, true_and, Int.not_lt, Int.not_le, gt_iff_lt, ge_iff_le, h, ht, hu', u, v] at *))
      all_goals try omega
      exact h0
  · have u : dvE a b = twE a b := by unfold dvE; rw [if_neg h]
    have v : dvL a b = [] := by unfold dvL; rw [if_neg h]
    repeat' (intro hzz; (try (rename Two => hq; cases hq)); (try dsimp only at hzz); (try simp only [resTy, argTy, eqD, inR, big, wantOf, Bool.not_true, Bool.not_false, Bool.true_eq, decide_eq_true_eq, decide_eq_false_iff_not, Bool.not_eq_true', Bool.not_eq_false', Bool.and_eq_true, Prod.mk.injEq, and_true, true_and, Int.not_lt, Int.not_le, gt_iff_lt, ge_iff_le] at hzz); (try simp only [resTy, argTy, eqD, inR, big, wantOf, Bool.not_true, Bool.not_false, Bool.true_eq, decide_eq_true_eq, decide_eq_false_iff_not, Bool.not_eq_true', Bool.not_eq_false', Bool.and_eq_true, Prod.mk.injEq, and_true, true_and, Int.not_lt, Int.not_le, gt_iff_lt, ge_iff_le, u, v] at hzz); (try (first | contradiction | (exfalso; omega))); (try (revert hzz; intro _)))
    all_goals try (rename Unit => hq; clear hq)
    all_goals try ((with_reducible refine Held.mk ?_); (with_reducible (first | refine Frz.mk ?_ | refine And.intro (Frz.mk ?_) ?_ | refine And.intro ?_ (Frz.mk ?_))); repeat' first | exact True.intro | (change _ = _; with_reducible rfl) | refine And.intro ?_ ?_ | (with_reducible refine Frz.mk ?_))
    all_goals try (refine Held.mk ?_; (try dsimp only at *); (try simp only [resTy, argTy, eqD, inR, big, wantOf, Bool.not_true, Bool.not_false, Bool.true_eq, decide_eq_true_eq, decide_eq_false_iff_not, Bool.not_eq_true', Bool.not_eq_false', Bool.and_eq_true, Prod.mk.injEq, and_true, true_and, Int.not_lt, Int.not_le, gt_iff_lt, ge_iff_le] at *); (try simp only [resTy, argTy, eqD, inR, big, wantOf, Bool.not_true, Bool.not_false, Bool.true_eq, decide_eq_true_eq, decide_eq_false_iff_not, Bool.not_eq_true', Bool.not_eq_false', Bool.and_eq_true, Prod.mk.injEq, and_true, true_and, Int.not_lt, Int.not_le, gt_iff_lt, ge_iff_le, u, v] at *))
    all_goals try omega

/-- The last quarter turn, of the first ones, that is a number. -/
def uQ (p : IP) : Nat → Int
  | 0 => -1
  | k + 1 => bif Ty.beq PairT p (qrt k) then (k : Int) else uQ p k

theorem uQ_yes {p : IP} (h : unB p = true) : (0 ≤ uQ p 4 ∧ uQ p 4 ≤ 3) ∧ qrt (4 - uQ p 4) = conjP p := by
  rcases (unB_iff p).1 h with rfl | rfl | rfl | rfl <;> exact ⟨by decide, rfl⟩

theorem qrt_in (k : Nat) : qrt k = qrt 0 ∨ qrt k = qrt 1 ∨ qrt k = qrt 2 ∨ qrt k = qrt 3 := by
  have h : ((k : Int)).tmod 4 = 0 ∨ ((k : Int)).tmod 4 = 1 ∨ ((k : Int)).tmod 4 = 2 ∨ ((k : Int)).tmod 4 = 3 := by
    rw [Int.tmod_eq_emod_of_nonneg (by omega)]; omega
  unfold qrt
  rcases h with h | h | h | h <;> rw [h]
  · exact .inl rfl
  · exact .inr (.inl rfl)
  · exact .inr (.inr (.inl rfl))
  · exact .inr (.inr (.inr rfl))

theorem uQ_no {p : IP} (h : unB p = false) : ∀ k : Nat, uQ p k = -1
  | 0 => rfl
  | k + 1 => by
    show (bif Ty.beq PairT p (qrt k) then (k : Int) else uQ p k) = -1
    cases he : Ty.beq PairT p (qrt k) with
    | false => exact uQ_no h k
    | true =>
      have : unB p = true := (unB_iff p).2 ((beqP_iff _ _).1 he ▸ qrt_in k)
      rw [this] at h; cases h

end Go.Eng.Pu
