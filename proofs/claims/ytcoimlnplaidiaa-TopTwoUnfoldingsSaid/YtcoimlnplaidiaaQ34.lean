/- Contracts: opened fields, transforms there and back, of the program and of the reference. Conditions: each contract's own. -/
import Derived.Test.YtcoimlnplaidiaaQ33
namespace Go.Eng.Pu
open Go.Eng Go.Proofs
set_option linter.all false
set_option maxRecDepth 100000
set_option maxHeartbeats 8000000

theorem rtE_all {p w n : Int} : ∀ {m i : Nat}, rtE p w n m i = true → ∀ j, i ≤ j → j < i + m → ¬ pw w (n / (prO n).getD j 0) p = 1
  | 0, i, _, j, h1, h2 => by omega
  | m + 1, i, h, j, h1, h2 => by
    rw [rtE] at h
    split at h
    · cases h
    · rename_i hn
      by_cases he : j = i
      · rw [he]; exact hn
      · exact rtE_all h j (by omega) (by omega)

theorem mem_getD {xs : List Int} {q : Int} (h : q ∈ xs) : ∃ j, j < xs.length ∧ xs.getD j 0 = q := by
  obtain ⟨j, hj, e⟩ := List.mem_iff_getElem.1 h
  exact ⟨j, hj, by simp only [List.getD, List.getElem?_eq_getElem hj, Option.getD_some]; exact e⟩

theorem pw_one {p : Int} (hp : 2 ≤ p) (w e : Int) : pw w e p = 1 ↔ Cg p (w ^ e.toNat) 1 := by
  unfold pw Cg
  rw [Int.emod_eq_of_lt (a := 1) (by omega) (by omega)]

/-- What a right field is. -/
structure FOk (p w n : Int) : Prop where
  h1 : 2 ≤ p
  h2 : p ≤ 2147483647
  h3 : 1 ≤ n
  h4 : n ≤ 1024
  h5 : 1 ≤ w
  h6 : w ≤ p - 1
  pr : Pr p
  dv : (p - 1) % n = 0
  rt : Root p w n.toNat

theorem cf_zero {p w n : Int} (h : cfE p w n = 0) : FOk p w n := by
  unfold cfE at h
  split at h
  · rename_i ha
    obtain ⟨⟨a1, a2⟩, ⟨a3, a4⟩, a5, a6⟩ := ha
    split at h
    · rename_i hb
      split at h
      · rename_i hc
        split at h
        · rename_i hd
          unfold rootB at hd
          rw [Bool.and_eq_true] at hd
          have hw := (pw_one a1 w n).1 (of_decide_eq_true hd.1)
          refine ⟨a1, a2, a3, a4, a5, a6, isP_pr hb, hc, root_of (isP_pr hb) a3 (by omega) hw fun q hq hk => ?_⟩
          obtain ⟨j, hj, e⟩ := mem_getD hq
          exact rtE_all hd.2 j (Nat.zero_le _) (by omega) (by rw [e]; exact (pw_one a1 w _).2 hk)
        · cases h
      · cases h
    · cases h
  · cases h

/-- The inverse. -/
def inv (a p : Int) : Int := pw a (p - 2) p

theorem inv_mod (a p : Int) : inv (a % p) p = inv a p := by
  unfold inv pw
  exact (Cg.mod p a).pow _

theorem inv_in {p : Int} (hp : 2 ≤ p) (a : Int) : 0 ≤ inv a p ∧ inv a p < p := em_in hp _

theorem inv_mul {p a : Int} (hp : Pr p) (ha : ¬ p ∣ a) : Cg p (a * inv a p) 1 := by
  unfold inv pw
  exact ((Cg.refl p a).mul (Cg.mod p _)).trans (inverse_eq hp ha)

@[reducible] def sInv : Spec := { pats := [.dat Fld, .dat I64], res := [{ t := I64 }], pre := fun x => 2 ≤ x.1.1.1 ∧ x.1.1.1 ≤ (2147483647 : Int), f := fun x => (inv x.2.1 x.1.1.1, ()) }

/-- field.inverse -/
theorem h154 : Ok 154 sInv := by
  refine mk (ctr := [(111, sPow)]) ⟨h111, trivial⟩ (nt := 12) Try.func154 rfl rfl rfl rfl (by kernel_rfl) (by kernel_rfl) (fun _ => []) ?_
  rintro ⟨⟨⟨(p : Int), (w : Int), (n : Int), _⟩, _⟩, (a : Int), _⟩ ⟨(h1 : 2 ≤ p), (h2 : p ≤ 2147483647)⟩
  repeat' (intro hzz; (try (rename Two => hq; cases hq)); (try dsimp only at hzz); (try simp only [resTy, argTy, eqD, inR, big, wantOf, Bool.not_true, Bool.not_false, Bool.true_eq, decide_eq_true_eq, decide_eq_false_iff_not, Bool.not_eq_true', Bool.not_eq_false', Bool.and_eq_true, Prod.mk.injEq, and_true, true_and, Int.not_lt, Int.not_le, gt_iff_lt, ge_iff_le] at hzz); (try (first | contradiction | (exfalso; omega))); (try (revert hzz; intro _)))
  all_goals try (rename Unit => hq; clear hq)
  all_goals try ((with_reducible refine Held.mk ?_); (with_reducible (first | refine Frz.mk ?_ | refine And.intro (Frz.mk ?_) ?_ | refine And.intro ?_ (Frz.mk ?_))); repeat' first | exact True.intro | (change _ = _; with_reducible rfl) | refine And.intro ?_ ?_ | (with_reducible refine Frz.mk ?_))
  all_goals try (refine Held.mk ?_; (try dsimp only at *); (try simp only [resTy, argTy, eqD, inR, big, wantOf, Bool.not_true, Bool.not_false, Bool.true_eq, decide_eq_true_eq, decide_eq_false_iff_not, Bool.not_eq_true', Bool.not_eq_false', Bool.and_eq_true, Prod.mk.injEq, and_true, true_and, Int.not_lt, Int.not_le, gt_iff_lt, ge_iff_le] at *))
  all_goals try omega
  · exact ⟨h1, h2, (show (0 : Int) ≤ p - 2 by omega), (show p - 2 ≤ (4000000000000000000 : Int) by omega)⟩
  · rfl

@[reducible] def sRInv : Spec := { pats := [.dat I64, .dat I64], res := [{ t := I64 }], pre := fun x => (2 ≤ x.2.1 ∧ x.2.1 ≤ (2147483647 : Int)) ∧ (0 : Int) ≤ x.1, f := fun x => (inv x.1 x.2.1, ()) }

/-- ref.inverse -/
theorem h107 : Ok 107 sRInv := by
  refine mk (ctr := [(42, sRPow)]) ⟨h42, trivial⟩ (nt := 14) Try.func107 rfl rfl rfl rfl (by kernel_rfl) (by kernel_rfl) (fun _ => []) ?_
  rintro ⟨(a : Int), (p : Int), _⟩ ⟨⟨(h1 : 2 ≤ p), (h2 : p ≤ 2147483647)⟩, (h3 : 0 ≤ a)⟩
  repeat' (intro hzz; (try (rename Two => hq; cases hq)); (try dsimp only at hzz); (try simp only [resTy, argTy, eqD, inR, big, wantOf, Bool.not_true, Bool.not_false, Bool.true_eq, decide_eq_true_eq, decide_eq_false_iff_not, Bool.not_eq_true', Bool.not_eq_false', Bool.and_eq_true, Prod.mk.injEq, and_true, true_and, Int.not_lt, Int.not_le, gt_iff_lt, ge_iff_le] at hzz); (try (first | contradiction | (exfalso; omega))); (try (revert hzz; intro _)))
  all_goals try (rename Unit => hq; clear hq)
  all_goals try ((with_reducible refine Held.mk ?_); (with_reducible (first | refine Frz.mk ?_ | refine And.intro (Frz.mk ?_) ?_ | refine And.intro ?_ (Frz.mk ?_))); repeat' first | exact True.intro | (change _ = _; with_reducible rfl) | refine And.intro ?_ ?_ | (with_reducible refine Frz.mk ?_))
  all_goals try (refine Held.mk ?_; (try dsimp only at *); (try simp only [resTy, argTy, eqD, inR, big, wantOf, Bool.not_true, Bool.not_false, Bool.true_eq, decide_eq_true_eq, decide_eq_false_iff_not, Bool.not_eq_true', Bool.not_eq_false', Bool.and_eq_true, Prod.mk.injEq, and_true, true_and, Int.not_lt, Int.not_le, gt_iff_lt, ge_iff_le] at *))
  all_goals try omega
  · have e : a.tmod p = a % p := Int.tmod_eq_emod_of_nonneg h3
    have := em_in h1 a
    rw [e]
    exact ⟨h1, h2, (show (0 : Int) ≤ p - 2 by omega), (show p - 2 ≤ (4000000000000000000 : Int) by omega), this.1, this.2⟩
  · have e : a.tmod p = a % p := Int.tmod_eq_emod_of_nonneg h3
    have := inv_in h1 (a % p)
    rw [e]
    show (inv (a % p) p).tmod p = _
    rw [Int.tmod_eq_emod_of_nonneg this.1, Int.emod_eq_of_lt this.1 this.2, inv_mod]

def inB (xs : List Int) : Bool := xs.all fun n => fPrm n

@[reducible] def sRange : Spec := { pats := [.dat (.sl I64), .dat I64], res := [{ t := I64 }], pre := fun x => pLen (List.length (α := Int) x.1) ∧ x.2.1 = (2147483647 : Int), f := fun x => ((bif inB x.1 then 0 else 2 : Int), ()) }

/-- ref.rangeErr -/
theorem h105t : Ok 105 sRange := by
  refine mk (ctr := [(25, sWithin)]) ⟨h25, trivial⟩ (nt := 21) Try.func105 rfl rfl rfl rfl (by kernel_rfl) (by kernel_rfl) (fun x => [fun _ => { σ := Nat, pat := fun k => [sI 5 k], inv := fun k => k ≤ List.length (α := Int) x.1 ∧ inB (List.drop (α := Int) k x.1) = inB x.1, meas := fun k => List.length (α := Int) x.1 - k }]) ?_
  rintro ⟨(xs : List Int), (b : Int), _⟩ ⟨(h1 : pLen xs.length), (h2 : b = 2147483647)⟩
  subst h2
  have := h1.out
  repeat' (intro hzz; (try (rename Two => hq; cases hq)); (try dsimp only at hzz); (try simp only [resTy, argTy, eqD, inR, big, wantOf, Bool.not_true, Bool.not_false, Bool.true_eq, decide_eq_true_eq, decide_eq_false_iff_not, Bool.not_eq_true', Bool.not_eq_false', Bool.and_eq_true, Prod.mk.injEq, and_true, true_and, Int.not_lt, Int.not_le, gt_iff_lt, ge_iff_le] at hzz); (try simp only [resTy, argTy, eqD, inR, big, wantOf, Bool.not_true, Bool.not_false, Bool.true_eq, decide_eq_true_eq, decide_eq_false_iff_not, Bool.not_eq_true', Bool.not_eq_false', Bool.and_eq_true, Prod.mk.injEq, and_true, true_and, Int.not_lt, Int.not_le, gt_iff_lt, ge_iff_le, getD_i, fWithin] at hzz); (try (first | contradiction | (exfalso; omega))); (try (revert hzz; intro _)))
  all_goals try (rename Unit => hq; clear hq)
  all_goals try ((with_reducible refine Held.mk ?_); (with_reducible (first | refine Frz.mk ?_ | refine And.intro (Frz.mk ?_) ?_ | refine And.intro ?_ (Frz.mk ?_))); repeat' first | exact True.intro | (change _ = _; with_reducible rfl) | refine And.intro ?_ ?_ | (with_reducible refine Frz.mk ?_))
  all_goals try (refine Held.mk ?_; (try dsimp only at *); (try simp only [resTy, argTy, eqD, inR, big, wantOf, Bool.not_true, Bool.not_false, Bool.true_eq, decide_eq_true_eq, decide_eq_false_iff_not, Bool.not_eq_true', Bool.not_eq_false', Bool.and_eq_true, Prod.mk.injEq, and_true, true_and, Int.not_lt, Int.not_le, gt_iff_lt, ge_iff_le] at *); (try simp only [resTy, argTy, eqD, inR, big, wantOf, Bool.not_true, Bool.not_false, Bool.true_eq, decide_eq_true_eq, decide_eq_false_iff_not, Bool.not_eq_true', Bool.not_eq_false', Bool.and_eq_true, Prod.mk.injEq, and_true, true_and, Int.not_lt, Int.not_le, gt_iff_lt, ge_iff_le, getD_i, fWithin] at *))
  all_goals try omega
  · 
    refine GHeld.mk ?_
    refine Exists.intro 0 ?_
    refine And.intro (Leaf.mk ?_) ?_
    · repeat' first | exact True.intro | refine And.intro ?_ ?_
      all_goals try ((change _ = _ <;> try dsimp only) <;> try with_reducible rfl)
      all_goals try omega
    exact ⟨Nat.zero_le _, rfl⟩
  · rename_i k hk hg h
    have e := hk.2
    unfold inB at e
    rw [drop_get (by omega), List.all_cons, show fPrm (xs.getD k 0) = false from decide_eq_false h, Bool.false_and] at e
    unfold inB
    rw [← e]; rfl
  · rename_i k hk hg h
    have e := hk.2
    unfold inB at e
    rw [drop_get (by omega), List.all_cons, show fPrm (xs.getD k 0) = true from decide_eq_true h, Bool.true_and] at e
    refine GHeld.mk ?_
    refine Exists.intro (k + 1) ?_
    refine And.intro (Leaf.mk ?_) ?_
    · repeat' first | exact True.intro | refine And.intro ?_ ?_
      all_goals try ((change _ = _ <;> try dsimp only) <;> try with_reducible rfl)
      all_goals try omega
    exact ⟨⟨by show k + 1 ≤ xs.length; omega, e⟩, by show xs.length - (k + 1) < xs.length - k; omega⟩
  · rename_i k hk hg
    have e := hk.2
    rw [List.drop_eq_nil_of_le (by omega)] at e
    rw [← e]; rfl

/-- The error of a list in a field. -/
noncomputable def ofE (xs : List Int) (p w n : Int) : Int := firstI [bif decide ((xs.length : Int) ≤ 1024) then 0 else 8, bif inB xs then 0 else 2, cfE p w n, bif decide ((xs.length : Int) = n) then 0 else 13]

theorem ofE_if (xs : List Int) (p w n : Int) : ofE xs p w n = if xs.length ≤ 1024 then (if inB xs = true then (if cfE p w n = 0 then (if (xs.length : Int) = n then 0 else 13) else cfE p w n) else 2) else 8 := by
  unfold ofE
  simp only [firstI]
  by_cases h1 : xs.length ≤ 1024
  · have e1 : decide ((xs.length : Int) ≤ 1024) = true := decide_eq_true (by omega)
    rw [if_pos h1, e1]
    cases hb : inB xs with
    | false => simp
    | true =>
      by_cases h2 : cfE p w n = 0
      · by_cases h3 : (xs.length : Int) = n
        · simp [h2, h3]
        · simp [h2, h3]
      · simp [h2]
  · have e1 : decide ((xs.length : Int) ≤ 1024) = false := decide_eq_false (by omega)
    rw [if_neg h1, e1]; simp

theorem ofE_zero {xs : List Int} {p w n : Int} (h : ofE xs p w n = 0) : FOk p w n ∧ (xs.length : Int) = n ∧ cfE p w n = 0 := by
  rw [ofE_if] at h
  split at h
  · split at h
    · split at h
      · rename_i hc
        split at h
        · rename_i hl
          exact ⟨cf_zero hc, hl, hc⟩
        · cases h
      · rename_i hc; exact absurd h hc
    · cases h
  · cases h

@[reducible] noncomputable def sOField : Spec := { pats := [.dat (.sl I64), .dat Fld0], res := [{ t := Fld }, { t := I64 }], pre := fun x => pLen (List.length (α := Int) x.1), f := fun x => ((x.2.1, ()), ofE x.1 x.2.1.1 x.2.1.2.1 x.2.1.2.2.1, ()) }

/-- openField -/
theorem h102 : Ok 102 sOField := by
  refine mk (ctr := [(116, sAllP), (85, sUnless), (45, sCField), (84, sFirst)]) ⟨h116P, h85, h45, h84, trivial⟩ (nt := 27) Try.func102 rfl rfl rfl rfl (by kernel_rfl) (by kernel_rfl) (fun _ => []) ?_
  rintro ⟨(xs : List Int), ⟨(p : Int), (w : Int), (n : Int), _⟩, _⟩ (h : pLen xs.length)
  repeat' (intro hzz; (try (rename Two => hq; cases hq)); (try dsimp only at hzz); (try simp only [resTy, argTy, eqD, inR, big, wantOf, Bool.not_true, Bool.not_false, Bool.true_eq, decide_eq_true_eq, decide_eq_false_iff_not, Bool.not_eq_true', Bool.not_eq_false', Bool.and_eq_true, Prod.mk.injEq, and_true, true_and, Int.not_lt, Int.not_le, gt_iff_lt, ge_iff_le] at hzz); (try (first | contradiction | (exfalso; omega))); (try (revert hzz; intro _)))
  all_goals try (rename Unit => hq; clear hq)
  all_goals try ((with_reducible refine Held.mk ?_); (with_reducible (first | refine Frz.mk ?_ | refine And.intro (Frz.mk ?_) ?_ | refine And.intro ?_ (Frz.mk ?_))); repeat' first | exact True.intro | (change _ = _; with_reducible rfl) | refine And.intro ?_ ?_ | (with_reducible refine Frz.mk ?_))
  all_goals try (refine Held.mk ?_; (try dsimp only at *); (try simp only [resTy, argTy, eqD, inR, big, wantOf, Bool.not_true, Bool.not_false, Bool.true_eq, decide_eq_true_eq, decide_eq_false_iff_not, Bool.not_eq_true', Bool.not_eq_false', Bool.and_eq_true, Prod.mk.injEq, and_true, true_and, Int.not_lt, Int.not_le, gt_iff_lt, ge_iff_le] at *))
  all_goals try omega
  · exact (show pLen 4 by decide)
  · rfl

@[reducible] noncomputable def sFErr : Spec := { pats := [.dat (.sl I64), .dat Fld0], res := [{ t := I64 }], pre := fun x => pLen (List.length (α := Int) x.1), f := fun x => (ofE x.1 x.2.1.1 x.2.1.2.1 x.2.1.2.2.1, ()) }

/-- ref.FieldErr -/
theorem h38 : Ok 38 sFErr := by
  refine mk (ctr := [(105, sRange), (46, sCField)]) ⟨h105t, h46, trivial⟩ (nt := 25) Try.func38 rfl rfl rfl rfl (by kernel_rfl) (by kernel_rfl) (fun _ => []) ?_
  rintro ⟨(xs : List Int), ⟨(p : Int), (w : Int), (n : Int), _⟩, _⟩ (h : pLen xs.length)
  have e := ofE_if xs p w n
  repeat' (intro hzz; (try (rename Two => hq; cases hq)); (try dsimp only at hzz); (try simp only [resTy, argTy, eqD, inR, big, wantOf, Bool.not_true, Bool.not_false, Bool.true_eq, decide_eq_true_eq, decide_eq_false_iff_not, Bool.not_eq_true', Bool.not_eq_false', Bool.and_eq_true, Prod.mk.injEq, and_true, true_and, Int.not_lt, Int.not_le, gt_iff_lt, ge_iff_le] at hzz); (try (first | contradiction | (exfalso; omega))); (try (revert hzz; intro _)))
  all_goals try (rename Unit => hq; clear hq)
  all_goals try ((with_reducible refine Held.mk ?_); (with_reducible (first | refine Frz.mk ?_ | refine And.intro (Frz.mk ?_) ?_ | refine And.intro ?_ (Frz.mk ?_))); repeat' first | exact True.intro | (change _ = _; with_reducible rfl) | refine And.intro ?_ ?_ | (with_reducible refine Frz.mk ?_))
  all_goals try (refine Held.mk ?_; (try dsimp only at *); (try simp only [resTy, argTy, eqD, inR, big, wantOf, Bool.not_true, Bool.not_false, Bool.true_eq, decide_eq_true_eq, decide_eq_false_iff_not, Bool.not_eq_true', Bool.not_eq_false', Bool.and_eq_true, Prod.mk.injEq, and_true, true_and, Int.not_lt, Int.not_le, gt_iff_lt, ge_iff_le] at *))
  all_goals try omega
  · rename_i h1 h2
    rw [e, if_pos (by omega)]
    cases hb : inB xs with
    | true => rw [hb] at h2; exact absurd rfl h2
    | false => rfl
  · rename_i h1 h2 h3
    rw [e, if_pos (by omega)]
    cases hb : inB xs with
    | false => rw [hb] at h2; cases h2
    | true => rw [if_pos rfl, if_neg h3]
  · rename_i h1 h2 h3 h4
    rw [e, if_pos (by omega)]
    cases hb : inB xs with
    | false => rw [hb] at h2; cases h2
    | true => rw [if_pos rfl, if_pos h3, if_neg h4]
  · rename_i h1 h2 h3 h4
    rw [e, if_pos (by omega)]
    cases hb : inB xs with
    | false => rw [hb] at h2; cases h2
    | true => rw [if_pos rfl, if_pos h3, if_pos h4]

@[reducible] noncomputable def sTrf : Spec := { pats := [.dat Fld, .dat (.sl I64)], res := [{ own := some 3, t := .sl I64 }], pre := fun x => FOk x.1.1.1 x.1.1.2.1 x.1.1.2.2.1 ∧ (List.length (α := Int) x.2.1 : Int) = x.1.1.2.2.1, f := fun x => (dftL x.1.1.1 x.1.1.2.1 x.2.1, ()) }

/-- field.transformed -/
theorem h103 : Ok 103 sTrf := by
  refine mk (ctr := [(153, sSums)]) ⟨h153, trivial⟩ (nt := 11) Try.func103 rfl rfl rfl rfl (by kernel_rfl) (by kernel_rfl) (fun _ => []) ?_
  rintro ⟨⟨⟨(p : Int), (w : Int), (n : Int), _⟩, _⟩, (xs : List Int), _⟩ ⟨(hf : FOk p w n), (hl : (xs.length : Int) = n)⟩
  obtain ⟨h1, h2, h3, h4, h5, h6, h7, h8, h9⟩ := hf
  have hlen : n.toNat = xs.length := by omega
  repeat' (intro hzz; (try (rename Two => hq; cases hq)); (try dsimp only at hzz); (try simp only [resTy, argTy, eqD, inR, big, wantOf, Bool.not_true, Bool.not_false, Bool.true_eq, decide_eq_true_eq, decide_eq_false_iff_not, Bool.not_eq_true', Bool.not_eq_false', Bool.and_eq_true, Prod.mk.injEq, and_true, true_and, Int.not_lt, Int.not_le, gt_iff_lt, ge_iff_le] at hzz); (try (first | contradiction | (exfalso; omega))); (try (revert hzz; intro _)))
  all_goals try (rename Unit => hq; clear hq)
  all_goals try ((with_reducible refine Held.mk ?_); (with_reducible (first | refine Frz.mk ?_ | refine And.intro (Frz.mk ?_) ?_ | refine And.intro ?_ (Frz.mk ?_))); repeat' first | exact True.intro | (change _ = _; with_reducible rfl) | refine And.intro ?_ ?_ | (with_reducible refine Frz.mk ?_))
  all_goals try (refine Held.mk ?_; (try dsimp only at *); (try simp only [resTy, argTy, eqD, inR, big, wantOf, Bool.not_true, Bool.not_false, Bool.true_eq, decide_eq_true_eq, decide_eq_false_iff_not, Bool.not_eq_true', Bool.not_eq_false', Bool.and_eq_true, Prod.mk.injEq, and_true, true_and, Int.not_lt, Int.not_le, gt_iff_lt, ge_iff_le] at *))
  all_goals try omega
  · refine ⟨⟨h1, h2⟩, ⟨(show 1 ≤ xs.length by omega), (show xs.length ≤ 1024 by omega)⟩, ⟨(show (0 : Int) ≤ w by omega), (show w < p by omega)⟩, ?_⟩
    rw [← hlen]; exact h9.1

theorem inv_root {p w : Int} {n : Nat} (hp : Pr p) (hn : 0 < n) (h : Cg p (w ^ n) 1) : Cg p (inv w p ^ n) 1 := by
  have h1 := (inv_mul hp (root_unit hp hn h)).pow n
  rw [Int.mul_pow, Int.one_pow] at h1
  have h2 := h.mul (Cg.refl p (inv w p ^ n))
  rw [Int.one_mul] at h2
  exact h2.symm.trans h1

theorem dftL_len (p w : Int) (xs : List Int) : (dftL p w xs).length = xs.length := tab_len _ _
theorem dft_in {p : Int} (hp : 2 ≤ p) (w : Int) (x : Nat → Int) (n k : Nat) : 0 ≤ dft p w x n k ∧ dft p w x n k < p := em_in hp _

def backF (p w n : Int) (xs : List Int) (i : Nat) : Int := dft p (inv w p) (at0 xs) xs.length i * inv n p % p
def backL (p w n : Int) (xs : List Int) : List Int := tab (backF p w n xs) xs.length

@[reducible] noncomputable def sBk : Spec := { pats := [.dat Fld, .dat (.sl I64)], res := [{ own := some 3, t := .sl I64 }], pre := fun x => FOk x.1.1.1 x.1.1.2.1 x.1.1.2.2.1 ∧ (List.length (α := Int) x.2.1 : Int) = x.1.1.2.2.1, f := fun x => (backL x.1.1.1 x.1.1.2.1 x.1.1.2.2.1 x.2.1, ()) }

/-- field.back -/
theorem h104 : Ok 104 sBk := by
  refine mk (ctr := [(154, sInv), (153, sSums)]) ⟨h154, h153, trivial⟩ (nt := 45) Try.func104 rfl rfl rfl rfl (by kernel_rfl) (by kernel_rfl) (fun x => [fun _ => { σ := Nat, pat := fun k => [sI 28 k, .row 16 3 I64 (mixT (backF x.1.1.1 x.1.1.2.1 x.1.1.2.2.1 x.2.1) (dft x.1.1.1 (inv x.1.1.2.1 x.1.1.1) (at0 x.2.1) (List.length (α := Int) x.2.1)) (List.length (α := Int) x.2.1) k)], inv := fun k => k ≤ List.length (α := Int) x.2.1, meas := fun k => List.length (α := Int) x.2.1 - k }]) ?_
  rintro ⟨⟨⟨(p : Int), (w : Int), (n : Int), _⟩, _⟩, (xs : List Int), _⟩ ⟨(hf : FOk p w n), (hl : (xs.length : Int) = n)⟩
  obtain ⟨h1, h2, h3, h4, h5, h6, h7, h8, h9⟩ := hf
  have hlen : n.toNat = xs.length := by omega
  have htm : n.tmod p = n % p := Int.tmod_eq_emod_of_nonneg (by omega)
  repeat' (intro hzz; (try (rename Two => hq; cases hq)); (try dsimp only at hzz); (try simp only [resTy, argTy, eqD, inR, big, wantOf, Bool.not_true, Bool.not_false, Bool.true_eq, decide_eq_true_eq, decide_eq_false_iff_not, Bool.not_eq_true', Bool.not_eq_false', Bool.and_eq_true, Prod.mk.injEq, and_true, true_and, Int.not_lt, Int.not_le, gt_iff_lt, ge_iff_le] at hzz); (try simp only [resTy, argTy, eqD, inR, big, wantOf, Bool.not_true, Bool.not_false, Bool.true_eq, decide_eq_true_eq, decide_eq_false_iff_not, Bool.not_eq_true', Bool.not_eq_false', Bool.and_eq_true, Prod.mk.injEq, and_true, true_and, Int.not_lt, Int.not_le, gt_iff_lt, ge_iff_le, inv_mod, htm, getD_i, tab_len, mixT_len] at hzz); (try (first | contradiction | (exfalso; omega))); (try (revert hzz; intro _)))
  all_goals try (rename Unit => hq; clear hq)
  all_goals try ((with_reducible refine Held.mk ?_); (with_reducible (first | refine Frz.mk ?_ | refine And.intro (Frz.mk ?_) ?_ | refine And.intro ?_ (Frz.mk ?_))); repeat' first | exact True.intro | (change _ = _; with_reducible rfl) | refine And.intro ?_ ?_ | (with_reducible refine Frz.mk ?_))
  all_goals try (refine Held.mk ?_; (try dsimp only at *); (try simp only [resTy, argTy, eqD, inR, big, wantOf, Bool.not_true, Bool.not_false, Bool.true_eq, decide_eq_true_eq, decide_eq_false_iff_not, Bool.not_eq_true', Bool.not_eq_false', Bool.and_eq_true, Prod.mk.injEq, and_true, true_and, Int.not_lt, Int.not_le, gt_iff_lt, ge_iff_le] at *); (try simp only [resTy, argTy, eqD, inR, big, wantOf, Bool.not_true, Bool.not_false, Bool.true_eq, decide_eq_true_eq, decide_eq_false_iff_not, Bool.not_eq_true', Bool.not_eq_false', Bool.and_eq_true, Prod.mk.injEq, and_true, true_and, Int.not_lt, Int.not_le, gt_iff_lt, ge_iff_le, inv_mod, htm, getD_i, tab_len, mixT_len] at *))
  all_goals try omega
  · exact ⟨h1, h2⟩
  · refine ⟨⟨h1, h2⟩, ⟨(show 1 ≤ xs.length by omega), (show xs.length ≤ 1024 by omega)⟩, inv_in h1 w, ?_⟩
    rw [← hlen]; exact inv_root h7 (by omega) h9.1
  · exact ⟨h1, h2⟩
  · have e0 : dftL p (inv w p) xs = mixT (backF p w n xs) (dft p (inv w p) (at0 xs) xs.length) xs.length 0 := (mixT_zero _ _ _).symm
    refine GHeld.mk ?_
    refine Exists.intro 0 ?_
    refine And.intro (Leaf.mk ?_) ?_
    · repeat' first | exact True.intro | refine And.intro ?_ ?_
      all_goals try ((change _ = _ <;> try dsimp only) <;> try with_reducible rfl)
      all_goals try omega
      all_goals ((first | exact e0 | exact congrArg List.length e0 | rfl))
    exact Nat.zero_le _
  · rename_i k hk hg
    rw [dftL_len] at hg
    omega
  · rename_i k hk hg
    rw [dftL_len] at hg
    rw [mixT_get (by omega)]
    have g1 := dft_in h1 (inv w p) (at0 xs) xs.length k
    have g2 := inv_in h1 n
    have := pwI_mul h2 g1.1 g1.2 g2.1 g2.2
    omega
  · rename_i k hk hg
    rw [dftL_len] at hg
    omega
  · rename_i k hk hg
    rw [dftL_len] at hg
    have g1 := dft_in h1 (inv w p) (at0 xs) xs.length k
    have g2 := inv_in h1 n
    have e : (mixT (backF p w n xs) (dft p (inv w p) (at0 xs) xs.length) xs.length k).set k (((mixT (backF p w n xs) (dft p (inv w p) (at0 xs) xs.length) xs.length k).getD k 0 * inv n p).tmod p) = mixT (backF p w n xs) (dft p (inv w p) (at0 xs) xs.length) xs.length (k + 1) := by
      rw [mixT_get (by omega), Int.tmod_eq_emod_of_nonneg (Int.mul_nonneg g1.1 g2.1)]
      exact mixT_set (by omega)
    refine GHeld.mk ?_
    refine Exists.intro (k + 1) ?_
    refine And.intro (Leaf.mk ?_) ?_
    · repeat' first | exact True.intro | refine And.intro ?_ ?_
      all_goals try ((change _ = _ <;> try dsimp only) <;> try with_reducible rfl)
      all_goals try omega
      all_goals ((first | exact e | (rw [htm, inv_mod]; exact e) | exact congrArg List.length e | rfl))
    exact ⟨by show k + 1 ≤ xs.length; omega, by show xs.length - (k + 1) < xs.length - k; omega⟩
  · rename_i k hk hg
    rw [dftL_len] at hg ⊢
    refine ⟨rfl, ?_⟩
    rw [show k = xs.length by omega]
    exact mixT_all _ _ _

@[reducible] noncomputable def sRTrf : Spec := { pats := [.dat (.sl I64), .dat Fld0], res := [{ own := some 3, t := .sl I64 }], pre := fun x => FOk x.2.1.1 x.2.1.2.1 x.2.1.2.2.1 ∧ (List.length (α := Int) x.1 : Int) = x.2.1.2.2.1, f := fun x => (dftL x.2.1.1 x.2.1.2.1 x.1, ()) }

/-- ref.Transformed -/
theorem h39 : Ok 39 sRTrf := by
  refine mk (ctr := [(106, sRSums)]) ⟨h106, trivial⟩ (nt := 11) Try.func39 rfl rfl rfl rfl (by kernel_rfl) (by kernel_rfl) (fun _ => []) ?_
  rintro ⟨(xs : List Int), ⟨(p : Int), (w : Int), (n : Int), _⟩, _⟩ ⟨(hf : FOk p w n), (hl : (xs.length : Int) = n)⟩
  obtain ⟨h1, h2, h3, h4, h5, h6, h7, h8, h9⟩ := hf
  repeat' (intro hzz; (try (rename Two => hq; cases hq)); (try dsimp only at hzz); (try simp only [resTy, argTy, eqD, inR, big, wantOf, Bool.not_true, Bool.not_false, Bool.true_eq, decide_eq_true_eq, decide_eq_false_iff_not, Bool.not_eq_true', Bool.not_eq_false', Bool.and_eq_true, Prod.mk.injEq, and_true, true_and, Int.not_lt, Int.not_le, gt_iff_lt, ge_iff_le] at hzz); (try (first | contradiction | (exfalso; omega))); (try (revert hzz; intro _)))
  all_goals try (rename Unit => hq; clear hq)
  all_goals try ((with_reducible refine Held.mk ?_); (with_reducible (first | refine Frz.mk ?_ | refine And.intro (Frz.mk ?_) ?_ | refine And.intro ?_ (Frz.mk ?_))); repeat' first | exact True.intro | (change _ = _; with_reducible rfl) | refine And.intro ?_ ?_ | (with_reducible refine Frz.mk ?_))
  all_goals try (refine Held.mk ?_; (try dsimp only at *); (try simp only [resTy, argTy, eqD, inR, big, wantOf, Bool.not_true, Bool.not_false, Bool.true_eq, decide_eq_true_eq, decide_eq_false_iff_not, Bool.not_eq_true', Bool.not_eq_false', Bool.and_eq_true, Prod.mk.injEq, and_true, true_and, Int.not_lt, Int.not_le, gt_iff_lt, ge_iff_le] at *))
  all_goals try omega
  · exact ⟨⟨h1, h2⟩, ⟨(show 1 ≤ xs.length by omega), (show xs.length ≤ 1024 by omega)⟩, ⟨(show (0 : Int) ≤ w by omega), (show w < p by omega)⟩⟩

@[reducible] noncomputable def sRBk : Spec := { pats := [.dat (.sl I64), .dat Fld0], res := [{ own := some 3, t := .sl I64 }], pre := fun x => FOk x.2.1.1 x.2.1.2.1 x.2.1.2.2.1 ∧ (List.length (α := Int) x.1 : Int) = x.2.1.2.2.1, f := fun x => (backL x.2.1.1 x.2.1.2.1 x.2.1.2.2.1 x.1, ()) }

/-- ref.Back -/
theorem h40 : Ok 40 sRBk := by
  refine mk (ctr := [(107, sRInv), (106, sRSums)]) ⟨h107, h106, trivial⟩ (nt := 39) Try.func40 rfl rfl rfl rfl (by kernel_rfl) (by kernel_rfl) (fun x => [fun _ => { σ := Nat, pat := fun k => [sI 6 k, .row 15 3 I64 (mixT (backF x.2.1.1 x.2.1.2.1 x.2.1.2.2.1 x.1) (dft x.2.1.1 (inv x.2.1.2.1 x.2.1.1) (at0 x.1) (List.length (α := Int) x.1)) (List.length (α := Int) x.1) k)], inv := fun k => k ≤ List.length (α := Int) x.1, meas := fun k => List.length (α := Int) x.1 - k }]) ?_
  rintro ⟨(xs : List Int), ⟨(p : Int), (w : Int), (n : Int), _⟩, _⟩ ⟨(hf : FOk p w n), (hl : (xs.length : Int) = n)⟩
  obtain ⟨h1, h2, h3, h4, h5, h6, h7, h8, h9⟩ := hf
  repeat' (intro hzz; (try (rename Two => hq; cases hq)); (try dsimp only at hzz); (try simp only [resTy, argTy, eqD, inR, big, wantOf, Bool.not_true, Bool.not_false, Bool.true_eq, decide_eq_true_eq, decide_eq_false_iff_not, Bool.not_eq_true', Bool.not_eq_false', Bool.and_eq_true, Prod.mk.injEq, and_true, true_and, Int.not_lt, Int.not_le, gt_iff_lt, ge_iff_le] at hzz); (try simp only [resTy, argTy, eqD, inR, big, wantOf, Bool.not_true, Bool.not_false, Bool.true_eq, decide_eq_true_eq, decide_eq_false_iff_not, Bool.not_eq_true', Bool.not_eq_false', Bool.and_eq_true, Prod.mk.injEq, and_true, true_and, Int.not_lt, Int.not_le, gt_iff_lt, ge_iff_le, inv_mod, getD_i, tab_len, mixT_len] at hzz); (try (first | contradiction | (exfalso; omega))); (try (revert hzz; intro _)))
  all_goals try (rename Unit => hq; clear hq)
  all_goals try ((with_reducible refine Held.mk ?_); (with_reducible (first | refine Frz.mk ?_ | refine And.intro (Frz.mk ?_) ?_ | refine And.intro ?_ (Frz.mk ?_))); repeat' first | exact True.intro | (change _ = _; with_reducible rfl) | refine And.intro ?_ ?_ | (with_reducible refine Frz.mk ?_))
  all_goals try (refine Held.mk ?_; (try dsimp only at *); (try simp only [resTy, argTy, eqD, inR, big, wantOf, Bool.not_true, Bool.not_false, Bool.true_eq, decide_eq_true_eq, decide_eq_false_iff_not, Bool.not_eq_true', Bool.not_eq_false', Bool.and_eq_true, Prod.mk.injEq, and_true, true_and, Int.not_lt, Int.not_le, gt_iff_lt, ge_iff_le] at *); (try simp only [resTy, argTy, eqD, inR, big, wantOf, Bool.not_true, Bool.not_false, Bool.true_eq, decide_eq_true_eq, decide_eq_false_iff_not, Bool.not_eq_true', Bool.not_eq_false', Bool.and_eq_true, Prod.mk.injEq, and_true, true_and, Int.not_lt, Int.not_le, gt_iff_lt, ge_iff_le, inv_mod, getD_i, tab_len, mixT_len] at *))
  all_goals try omega
  · exact ⟨⟨h1, h2⟩, (show (0 : Int) ≤ w by omega)⟩
  · exact ⟨⟨h1, h2⟩, ⟨(show 1 ≤ xs.length by omega), (show xs.length ≤ 1024 by omega)⟩, inv_in h1 w⟩
  · have e0 : dftL p (inv w p) xs = mixT (backF p w n xs) (dft p (inv w p) (at0 xs) xs.length) xs.length 0 := (mixT_zero _ _ _).symm
    refine GHeld.mk ?_
    refine Exists.intro 0 ?_
    refine And.intro (Leaf.mk ?_) ?_
    · repeat' first | exact True.intro | refine And.intro ?_ ?_
      all_goals try ((change _ = _ <;> try dsimp only) <;> try with_reducible rfl)
      all_goals try omega
      all_goals ((first | exact e0 | exact congrArg List.length e0 | rfl))
    exact Nat.zero_le _
  · rename_i k hk hg
    rw [dftL_len] at hg
    omega
  · exact ⟨⟨h1, h2⟩, (show (0 : Int) ≤ n by omega)⟩
  · rename_i k hk hg
    rw [dftL_len] at hg
    rw [mixT_get (by omega)]
    have g1 := dft_in h1 (inv w p) (at0 xs) xs.length k
    have g2 := inv_in h1 n
    have := pwI_mul h2 g1.1 g1.2 g2.1 g2.2
    omega
  · rename_i k hk hg
    rw [dftL_len] at hg
    omega
  · rename_i k hk hg
    rw [dftL_len] at hg
    have g1 := dft_in h1 (inv w p) (at0 xs) xs.length k
    have g2 := inv_in h1 n
    have e : (mixT (backF p w n xs) (dft p (inv w p) (at0 xs) xs.length) xs.length k).set k (((mixT (backF p w n xs) (dft p (inv w p) (at0 xs) xs.length) xs.length k).getD k 0 * inv n p).tmod p) = mixT (backF p w n xs) (dft p (inv w p) (at0 xs) xs.length) xs.length (k + 1) := by
      rw [mixT_get (by omega), Int.tmod_eq_emod_of_nonneg (Int.mul_nonneg g1.1 g2.1)]
      exact mixT_set (by omega)
    refine GHeld.mk ?_
    refine Exists.intro (k + 1) ?_
    refine And.intro (Leaf.mk ?_) ?_
    · repeat' first | exact True.intro | refine And.intro ?_ ?_
      all_goals try ((change _ = _ <;> try dsimp only) <;> try with_reducible rfl)
      all_goals try omega
      all_goals ((first | exact e | exact congrArg List.length e | rfl))
    exact ⟨by show k + 1 ≤ xs.length; omega, by show xs.length - (k + 1) < xs.length - k; omega⟩
  · rename_i k hk hg
    rw [dftL_len] at hg ⊢
    refine ⟨rfl, ?_⟩
    rw [show k = xs.length by omega]
    exact mixT_all _ _ _

end Go.Eng.Pu
