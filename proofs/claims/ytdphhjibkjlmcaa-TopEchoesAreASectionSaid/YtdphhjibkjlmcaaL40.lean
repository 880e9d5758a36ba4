/- Loops that are right, the first one that is not proved, and the margin: what the program and the reference find; plain laws. Conditions: each contract's own. -/
import Derived.Test.YtdphhjibkjlmcaaL29
import Derived.Test.YtdphhjibkjlmcaaL36
namespace Go.Eng.Lp
open Go.Eng Go.Proofs
set_option linter.all false
set_option maxRecDepth 100000
set_option maxHeartbeats 8000000

def yesB (T : List Int) (g : Int) : Bool := decide ((decK T g).1 = 2)
/-- The number of the first element that is not so, or -1. -/
def findNo (p : LD → Bool) : List LD → Int → Int
  | [], _ => -1
  | x :: r, i => if p x = true then findNo p r (i + 1) else i

theorem findNo_at {p : LD → Bool} : ∀ (l : List LD) (k : Nat) (i : Int), k < l.length → (∀ j, j < k → p (l.getD j ([], 0, ())) = true) → p (l.getD k ([], 0, ())) = false → findNo p l i = i + k
  | [], k, i, h, _, _ => by simp at h
  | x :: r, 0, i, _, _, h => by
    have h : p x = false := h
    simp only [findNo]; rw [if_neg (by rw [h]; decide)]; simp
  | x :: r, k + 1, i, hk, hj, h => by
    have h0 : p x = true := hj 0 (by omega)
    simp only [findNo]; rw [if_pos h0]
    rw [findNo_at r k (i + 1) (by simp at hk; omega) (fun j hjk => hj (j + 1) (by omega)) h]
    push_cast; omega

theorem findNo_none {p : LD → Bool} : ∀ (l : List LD) (i : Int), (∀ j, j < l.length → p (l.getD j ([], 0, ())) = true) → findNo p l i = -1
  | [], _, _ => rfl
  | x :: r, i, h => by
    have h0 : p x = true := h 0 (by simp)
    simp only [findNo]; rw [if_pos h0]
    exact findNo_none r (i + 1) (fun j hj => h (j + 1) (by simp; omega))

theorem findNo_neg {p : LD → Bool} : ∀ (l : List LD) (i : Int), 0 ≤ i → (findNo p l i < 0 ↔ ∀ j, j < l.length → p (l.getD j ([], 0, ())) = true)
  | [], i, _ => by simp [findNo]
  | x :: r, i, hi => by
    simp only [findNo]
    by_cases h : p x = true
    · rw [if_pos h, findNo_neg r (i + 1) (by omega)]
      constructor
      · intro H j hj
        match j with
        | 0 => exact h
        | j + 1 => exact H j (by simp at hj; omega)
      · intro H j hj
        exact H (j + 1) (by simp; omega)
    · rw [if_neg h]
      constructor
      · intro H; omega
      · intro H; exact absurd (H 0 (by simp)) h

def okG (x : LD) : Prop := GoodLoop x.1 x.2.1
def goodAll (l : List LD) : Prop := l.length ≤ 16 ∧ ∀ i, i < l.length → okG (l.getD i ([], 0, ()))

/-- The error of loops. -/
def lpErrK (l : List LD) : Nat → Int
  | 0 => 0
  | k + 1 => if lpErrK l k = 0 then fCheckLoop (l.getD k ([], 0, ())).1 (l.getD k ([], 0, ())).2.1 else lpErrK l k
def lpErr (l : List LD) : Int := if l.length = 0 then 10 else if 16 < l.length then 8 else lpErrK l l.length

theorem lpErrK_zero {l : List LD} : ∀ k, lpErrK l k = 0 ↔ ∀ j, j < k → fCheckLoop (l.getD j ([], 0, ())).1 (l.getD j ([], 0, ())).2.1 = 0
  | 0 => by simp [lpErrK]
  | k + 1 => by
    have ih := lpErrK_zero (l := l) k
    simp only [lpErrK]
    by_cases h : lpErrK l k = 0
    · rw [if_pos h]
      constructor
      · intro H j hj
        by_cases e : j = k
        · subst e; exact H
        · exact ih.1 h j (by omega)
      · intro H; exact H k (by omega)
    · rw [if_neg h]
      constructor
      · intro H; exact absurd H h
      · intro H; exact ih.2 fun j hj => H j (by omega)

theorem lpErrK_first {l : List LD} {k : Nat} : ∀ n, k < n → lpErrK l k = 0 → ¬ fCheckLoop (l.getD k ([], 0, ())).1 (l.getD k ([], 0, ())).2.1 = 0 → lpErrK l n = fCheckLoop (l.getD k ([], 0, ())).1 (l.getD k ([], 0, ())).2.1
  | 0, h, _, _ => by omega
  | n + 1, h, h0, h1 => by
    by_cases e : k = n
    · subst e; simp only [lpErrK]; rw [if_pos h0]
    · have ih := lpErrK_first n (by omega) h0 h1
      simp only [lpErrK]; rw [if_neg (by rw [ih]; exact h1)]; exact ih

theorem lp_good {l : List LD} (h : lpErr l = 0) : 0 < l.length ∧ goodAll l := by
  simp only [lpErr] at h
  split at h
  · omega
  · split at h
    · omega
    · exact ⟨by omega, by omega, fun i hi => loop_of ((lpErrK_zero _).1 h i hi)⟩

theorem all_step {P : Nat → Prop} {k : Nat} (h : ∀ j, j < k → P j) (hk : P k) : ∀ j, j < k + 1 → P j := fun j hj => by
  by_cases e : j = k
  · subst e; exact hk
  · exact h j (by omega)

@[reducible] def sLoops : Spec := { pats := [.dat (.sl LoopT)], res := [{ t := .bool }], pre := fun _ => True, f := fun x => (decide ((List.length (α := LD) x.1 ≤ 3 ∨ (17 ≤ List.length (α := LD) x.1 ∧ List.length (α := LD) x.1 ≤ 18)) ∧ ∀ i, i < List.length (α := LD) x.1 → (List.getD (α := LD) x.1 i ([], 0, ())).1.length ≤ 12), ()) }
theorem lp_cond (n : Nat) : (if (bif decide (0 < (n : Int)) then (0 : Int) else 10) = 0 then bif decide ((n : Int) ≤ 16) then (0 : Int) else 8 else bif decide (0 < (n : Int)) then 0 else 10) = if n = 0 then 10 else if 16 < n then 8 else 0 := by
  by_cases h0 : n = 0
  · subst h0; rfl
  · have d0 : decide (0 < (n : Int)) = true := decide_eq_true (by omega)
    rw [d0, if_neg h0]
    by_cases h1 : 16 < n
    · have d1 : decide ((n : Int) ≤ 16) = false := decide_eq_false (by omega)
      rw [d1, if_pos h1]; rfl
    · have d1 : decide ((n : Int) ≤ 16) = true := decide_eq_true (by omega)
      rw [d1, if_neg h1]; rfl
theorem lp_ok {n : Nat} (h : (if n = 0 then (10 : Int) else if 16 < n then 8 else 0) = 0) : 0 < n ∧ n ≤ 16 := by
  split at h
  · omega
  · split at h
    · omega
    · omega

@[reducible] def sLpErr : Spec := { pats := [.dat (.sl LoopT)], res := [{ t := I64 }], pre := fun _ => True, f := fun x => (lpErr x.1, ()) }
/-- loopsErr -/
theorem h108 : Ok 35 sLpErr := by
  refine mk (ctr := [(23, sCheckLoop), (24, sUnless), (22, sFirst)]) ⟨h57, h82, h81, trivial⟩ (nt := 32) Try.func35 rfl rfl rfl rfl (by kernel_rfl) (by kernel_rfl) (fun x => [fun _ => { σ := Nat, pat := fun k => [sI 22 k], inv := fun k => k ≤ List.length (α := LD) x.1 ∧ lpErrK x.1 k = 0, meas := fun k => List.length (α := LD) x.1 - k }]) ?_
  rintro ⟨(l : List LD), _⟩ _
  repeat' (intro hzz; (try (rename Two => hq; cases hq)); (try dsimp only at hzz); (try simp only [resTy, argTy, eqD, inR, big, wantOf, Bool.not_true, Bool.not_false, Bool.true_eq, decide_eq_true_eq, decide_eq_false_iff_not, Bool.not_eq_true', Bool.not_eq_false', Bool.and_eq_true, Prod.mk.injEq, and_true, true_and, Int.not_lt, Int.not_le, gt_iff_lt, ge_iff_le] at hzz); (try simp only [resTy, argTy, eqD, inR, big, wantOf, Bool.not_true, Bool.not_false, Bool.true_eq, decide_eq_true_eq, decide_eq_false_iff_not, Bool.not_eq_true', Bool.not_eq_false', Bool.and_eq_true, Prod.mk.injEq, and_true, true_and, Int.not_lt, Int.not_le, gt_iff_lt, ge_iff_le, first2, getD_p, lp_cond] at hzz); (try (revert hzz; intro _)))
  all_goals try (rename Unit => hq; clear hq)
  all_goals try ((with_reducible refine Held.mk ?_); (with_reducible (first | refine Frz.mk ?_ | refine And.intro (Frz.mk ?_) ?_ | refine And.intro ?_ (Frz.mk ?_))); repeat' first | exact True.intro | (change _ = _; with_reducible rfl) | refine And.intro ?_ ?_ | (with_reducible refine Frz.mk ?_))
  all_goals try (refine Held.mk ?_; (try dsimp only at *); (try simp only [resTy, argTy, eqD, inR, big, wantOf, Bool.not_true, Bool.not_false, Bool.true_eq, decide_eq_true_eq, decide_eq_false_iff_not, Bool.not_eq_true', Bool.not_eq_false', Bool.and_eq_true, Prod.mk.injEq, and_true, true_and, Int.not_lt, Int.not_le, gt_iff_lt, ge_iff_le] at *); (try simp only [resTy, argTy, eqD, inR, big, wantOf, Bool.not_true, Bool.not_false, Bool.true_eq, decide_eq_true_eq, decide_eq_false_iff_not, Bool.not_eq_true', Bool.not_eq_false', Bool.and_eq_true, Prod.mk.injEq, and_true, true_and, Int.not_lt, Int.not_le, gt_iff_lt, ge_iff_le, first2, getD_p, lp_cond] at *))
  all_goals try omega
  · exact pLen2 (by simp)
  · rename_i h
    by_cases h0 : l.length = 0
    · simp only [lpErr]; rw [if_pos h0, if_pos h0]
    · by_cases h1 : 16 < l.length
      · simp only [lpErr]; rw [if_neg h0, if_pos h1, if_neg h0, if_pos h1]
      · rw [if_neg h0, if_neg h1] at h; exact absurd rfl h
  ·
    refine GHeld.mk ?_
    refine Exists.intro (0 : Nat) ?_
    refine And.intro (Leaf.mk ?_) ?_
    · repeat' first | exact True.intro | refine And.intro ?_ ?_
      all_goals try ((change _ = _ <;> try dsimp only) <;> try with_reducible rfl)
      all_goals try omega
      all_goals (rfl)
    exact ⟨Nat.zero_le _, rfl⟩
  · rename_i h k h2 h3 h4
    have hlen := lp_ok h
    have e := lpErrK_first l.length (by omega) h2.2 h4
    simp only [lpErr]; rw [if_neg (by omega), if_neg (by omega), e]
  all_goals try
    (rename_i h k h2 h3 h4
     have hlen := lp_ok h
     omega)
  · rename_i h k h2 h3 h4
    refine GHeld.mk ?_
    refine Exists.intro (k + 1) ?_
    refine And.intro (Leaf.mk ?_) ?_
    · repeat' first | exact True.intro | refine And.intro ?_ ?_
      all_goals try ((change _ = _ <;> try dsimp only) <;> try with_reducible rfl)
      all_goals try omega
      all_goals (rfl)
    exact ⟨⟨(show k + 1 ≤ l.length by omega), by simp only [lpErrK]; rw [if_pos h2.2]; exact h4⟩, (show l.length - (k + 1) < l.length - k by omega)⟩
  · rename_i h k h2 h3
    have hlen := lp_ok h
    obtain rfl : k = l.length := by omega
    simp only [lpErr]; rw [if_neg (by omega), if_neg (by omega)]; exact h2.2.symm

def frE (l : List LD) : Int × Int := if findNo (fun x => yesB x.1 x.2.1) l 0 < 0 then (0, 12) else (findNo (fun x => yesB x.1 x.2.1) l 0, 0)
@[reducible] def sFirstR : Spec := { pats := [.dat (.sl LoopT)], res := [{ t := I64 }, { t := I64 }], pre := fun x => goodAll x.1, f := fun x => ((frE x.1).1, (frE x.1).2, ()) }
/-- Whether a loop, scaled, is right and never rings. -/
def nxB (n : Int) (x : LD) : Bool := decide (scGain x.2.1 n ≤ 10000) && yesB x.1 (scGain x.2.1 n)
def safeB (l : List LD) (n : Int) : Bool := decide (∀ j, j < l.length → nxB n (l.getD j ([], 0, ())) = true)

theorem scaled_good {x : LD} {n : Int} (h : okG x) (hn : 0 ≤ n) (hs : scGain x.2.1 n ≤ 10000) : GoodLoop x.1 (scGain x.2.1 n) := by
  have h0 := Int.mul_nonneg h.gain0 hn
  exact ⟨h.pos, h.le, h.zero, h.val, by simp only [scGain, fCeil]; omega, hs⟩

theorem scR_ok {x : LD} {n : Int} (_ : okG x) (he : (fScaledR x.1 x.2.1 n).2 = 0) : (fScaledR x.1 x.2.1 n).1 = (x.1, scGain x.2.1 n) ∧ scGain x.2.1 n ≤ 10000 := by
  simp only [fScaledR] at he ⊢
  by_cases e : scErrR x.2.1 n = 0
  · rw [if_pos e]
    refine ⟨rfl, ?_⟩
    simp only [scErrR] at e
    split at e
    · split at e
      · assumption
      · omega
    · omega
  · rw [if_neg e] at he; exact absurd he e

@[reducible] def sSafe : Spec := { pats := [.dat (.sl LoopT), .dat I64], res := [{ t := .bool }], pre := fun x => goodAll x.1 ∧ 0 ≤ x.2.1 ∧ x.2.1 ≤ 4000, f := fun x => (safeB x.1 x.2.1, ()) }
def marK (p : Int → Bool) : Nat → Int → Int
  | 0, n => n
  | f + 1, n => if n < 4000 ∧ p (n + 100) = true then marK p f (n + 100) else n
def marI (l : List LD) : Int := marK (safeB l) 40 0

theorem marK_step {p : Int → Bool} : ∀ k : Nat, k ≤ 40 → (∀ j : Nat, j < k → p (100 * j + 100) = true) → marK p 40 0 = marK p (40 - k) (100 * k)
  | 0, _, _ => rfl
  | k + 1, hk, h => by
    rw [marK_step k (by omega) (fun j hj => h j (by omega)), show 40 - k = (40 - (k + 1)) + 1 by omega]
    simp only [marK]
    rw [if_pos ⟨by omega, h k (by omega)⟩]
    congr 1

theorem marK_end {p : Int → Bool} {k : Nat} (hk : k ≤ 40) (h : ∀ j : Nat, j < k → p (100 * j + 100) = true) (he : k = 40 ∨ p (100 * k + 100) = false) : marK p 40 0 = 100 * k := by
  rw [marK_step k hk h]
  by_cases e : k = 40
  · subst e; rfl
  · have he := he.resolve_left e
    rw [show 40 - k = (40 - (k + 1)) + 1 by omega]
    simp only [marK]
    rw [if_neg (by rw [he]; simp)]

def marAnn (l : List LD) : LoopAnn := { σ := Nat, pat := fun k => [sI 3 (100 * k)], inv := fun k => k ≤ 40 ∧ ∀ j : Nat, j < k → safeB l (100 * j + 100) = true, meas := fun k => 40 - k }
@[reducible] def sMarR : Spec := { pats := [.dat (.sl LoopT)], res := [{ t := I64 }], pre := fun x => goodAll x.1, f := fun x => (marI x.1, ()) }
end Go.Eng.Lp
