/- Contracts: the primes of a number; equal lists. Conditions: each contract's own. -/
import Derived.Test.YtcoimlnplaidiaaDoorQ16
import Derived.Test.YtcoimlnplaidiaaDoorQ18
namespace Go.Eng.Pu
open Go.Eng Go.Proofs
set_option linter.all false
set_option maxRecDepth 100000
set_option maxHeartbeats 8000000

/-- A number without its factors d. -/
def strip (d : Int) : Nat → Int → Int
  | 0, n => n
  | f + 1, n => if n % d = 0 then strip d f (n / d) else n

theorem strip_in {d : Int} (hd : 2 ≤ d) : ∀ (f : Nat) {n : Int}, 1 ≤ n → 1 ≤ strip d f n ∧ strip d f n ≤ n
  | 0, n, h => ⟨h, Int.le_refl _⟩
  | f + 1, n, h => by
    simp only [strip]
    split
    · rename_i hz
      have h1 := Int.mul_ediv_add_emod n d
      have hq : 1 ≤ n / d := by
        have : 0 ≤ n / d := Int.ediv_nonneg (by omega) (by omega)
        rcases (show n / d = 0 ∨ 1 ≤ n / d from by omega) with h0 | h0
        · rw [h0, hz] at h1; omega
        · exact h0
      have := strip_in hd f hq
      have := Int.ediv_le_self d (show 0 ≤ n by omega)
      omega
    · exact ⟨h, Int.le_refl _⟩

/-- The number that is left, and the primes found, behind k steps. -/
def rs (n : Int) : Nat → Int × List Int
  | 0 => (n, [])
  | k + 1 => (strip (k + 2 : Int) 11 (rs n k).1, if (rs n k).1 % (k + 2 : Int) = 0 then (rs n k).2 ++ [(k + 2 : Int)] else (rs n k).2)

theorem rs_in {n : Int} (h : 1 ≤ n) : ∀ k, 1 ≤ (rs n k).1 ∧ (rs n k).1 ≤ n
  | 0 => ⟨h, Int.le_refl _⟩
  | k + 1 => by
    have ih := rs_in h k
    have := strip_in (d := (k + 2 : Int)) (by omega) 11 ih.1
    simp only [rs]
    omega

theorem rs_len {n : Int} : ∀ k, (rs n k).2.length ≤ k
  | 0 => Nat.le_refl _
  | k + 1 => by
    have ih := rs_len (n := n) k
    simp only [rs]
    split
    · rw [List.length_append, List.length_singleton]; omega
    · omega

/-- At how many steps the program is done. -/
def prK (n : Int) : Nat := firstAt (fun k => decide ((rs n k).1 < (k + 2 : Int) * (k + 2 : Int))) 50 0
def prO (n : Int) : List Int := if 1 < (rs n (prK n)).1 then (rs n (prK n)).2 ++ [(rs n (prK n)).1] else (rs n (prK n)).2

@[reducible] def sPrimes : Spec := { pats := [.dat I64], res := [{ t := .sl I64 }], pre := fun x => 1 ≤ x.1 ∧ x.1 ≤ (2000 : Int), f := fun x => (prO x.1, ()) }

def going (n : Int) (k : Nat) : Prop := ∀ m : Nat, m < k → (m + 2 : Int) * (m + 2 : Int) ≤ (rs n m).1

theorem sq_big {k : Nat} (h : 43 ≤ k) : (2000 : Int) < (k + 2 : Int) * (k + 2 : Int) := by
  have := Int.mul_le_mul (show (45 : Int) ≤ (k + 2 : Int) by omega) (show (45 : Int) ≤ (k + 2 : Int) by omega) (by omega) (by omega)
  omega

theorem going_lt {n : Int} (h0 : 1 ≤ n) (h1 : n ≤ 2000) {k : Nat} (h : going n k) : k ≤ 43 := by
  by_cases hk : k ≤ 43
  · exact hk
  · have := h 43 (by omega)
    have := sq_big (k := 43) (Nat.le_refl _)
    have := rs_in h0 43
    omega

theorem prK_eq {n : Int} (h0 : 1 ≤ n) (h1 : n ≤ 2000) {k : Nat} (h : going n k) (hs : (rs n k).1 < (k + 2 : Int) * (k + 2 : Int)) : prK n = k := by
  have hk := going_lt h0 h1 h
  obtain ⟨q1, q2, q3, q4⟩ := firstAt_spec (p := fun k => decide ((rs n k).1 < (k + 2 : Int) * (k + 2 : Int))) (k := 50) (i := 0) (j := k) (Nat.zero_le _) (by omega) (decide_eq_true hs)
  have q1 : (rs n (prK n)).1 < (prK n + 2 : Int) * (prK n + 2 : Int) := of_decide_eq_true q1
  have q3 : prK n ≤ k := q3
  by_cases he : prK n = k
  · exact he
  · have := h (prK n) (by omega)
    omega

theorem two_pow_half {m d : Int} {f : Nat} (hm : m < 2 ^ (f + 1)) (hd : 2 ≤ d) (h0 : 1 ≤ m) : m / d < 2 ^ f := by
  have h1 : m / d ≤ m / 2 := by
    have e1 := Int.mul_ediv_add_emod m d
    have e2 := Int.emod_nonneg m (show d ≠ 0 by omega)
    have e3 : 0 ≤ m / d := Int.ediv_nonneg (by omega) (by omega)
    have e4 : 2 * (m / d) ≤ d * (m / d) := Int.mul_le_mul_of_nonneg_right hd e3
    omega
  rw [Int.pow_succ] at hm
  omega

/-- The inner loop's data: the factors left, what is left. -/
def inS (d n : Int) (s : Nat × Int) : Prop := s.1 ≤ 11 ∧ 1 ≤ s.2 ∧ s.2 < 2 ^ s.1 ∧ strip d s.1 s.2 = strip d 11 n

theorem inS_next {d n : Int} (hd : 2 ≤ d) {s : Nat × Int} (h : inS d n s) (hz : s.2 % d = 0) : ∃ f, s.1 = f + 1 ∧ inS d n (f, s.2 / d) := by
  obtain ⟨f, m⟩ := s
  obtain ⟨h1, h2, h3, h4⟩ := h
  simp only at h1 h2 h3 h4 hz
  cases f with
  | zero => rw [Int.pow_zero] at h3; omega
  | succ f =>
    refine ⟨f, rfl, by show f ≤ 11; omega, ?_, two_pow_half h3 hd h2, ?_⟩
    · show 1 ≤ m / d
      have e1 := Int.mul_ediv_add_emod m d
      have e3 : 0 ≤ m / d := Int.ediv_nonneg (by omega) (by omega)
      rcases (show m / d = 0 ∨ 1 ≤ m / d from by omega) with h0 | h0
      · rw [h0, hz] at e1; omega
      · exact h0
    · rw [← h4]
      simp only [strip, if_pos hz]

theorem inS_end {d n : Int} {s : Nat × Int} (h : inS d n s) (hz : ¬ s.2 % d = 0) : s.2 = strip d 11 n := by
  obtain ⟨f, m⟩ := s
  obtain ⟨h1, h2, h3, h4⟩ := h
  simp only at h1 h2 h3 h4 hz
  rw [← h4]
  cases f with
  | zero => rfl
  | succ f => simp only [strip, if_neg hz]

theorem p11 {f : Nat} (h : f ≤ 11) : (2 : Int) ^ f ≤ 2048 := by
  have := Nat.pow_le_pow_right (n := 2) (by decide) h
  exact_mod_cast this

/-- primesOf -/
theorem h129 : Ok 55 sPrimes := by
  refine mk (ctr := []) trivial (nt := 34) Tryd.func55 rfl rfl rfl rfl (by kernel_rfl) (by kernel_rfl) (fun x => [fun _ => { σ := Nat, pat := fun k => [sI 4 (k + 2 : Int), sI 0 (rs x.1 k).1] ++ sOwn 3 60003 3 (rs x.1 k).2, inv := fun k => going x.1 k, meas := fun k => 50 - k }, fun st => withI 4 st fun d => withI 0 st fun n => { σ := Nat × Int, pat := fun s => [sI 0 s.2], inv := fun s => inS d n s, meas := fun s => s.1 }]) ?_
  rintro ⟨(n : Int), _⟩ ⟨(h0 : 1 ≤ n), (h1 : n ≤ 2000)⟩
  have hin := rs_in h0
  have hl := rs_len (n := n)
  repeat' (intro hzz; (try (rename Two => hq; cases hq)); (try dsimp only at hzz); (try simp only [resTy, argTy, eqD, inR, big, wantOf, Bool.not_true, Bool.not_false, Bool.true_eq, decide_eq_true_eq, decide_eq_false_iff_not, Bool.not_eq_true', Bool.not_eq_false', Bool.and_eq_true, Prod.mk.injEq, and_true, true_and, Int.not_lt, Int.not_le, gt_iff_lt, ge_iff_le] at hzz); (try (first | contradiction | (exfalso; omega))); (try (revert hzz; intro _)))
  all_goals try (rename Unit => hq; clear hq)
  all_goals try ((with_reducible refine Held.mk ?_); (with_reducible (first | refine Frz.mk ?_ | refine And.intro (Frz.mk ?_) ?_ | refine And.intro ?_ (Frz.mk ?_))); repeat' first | exact True.intro | (change _ = _; with_reducible rfl) | refine And.intro ?_ ?_ | (with_reducible refine Frz.mk ?_))
  all_goals try (refine Held.mk ?_; (try dsimp only at *); (try simp only [resTy, argTy, eqD, inR, big, wantOf, Bool.not_true, Bool.not_false, Bool.true_eq, decide_eq_true_eq, decide_eq_false_iff_not, Bool.not_eq_true', Bool.not_eq_false', Bool.and_eq_true, Prod.mk.injEq, and_true, true_and, Int.not_lt, Int.not_le, gt_iff_lt, ge_iff_le] at *))
  all_goals try omega
  · 
    refine GHeld.mk ?_
    refine Exists.intro 0 ?_
    refine And.intro (Leaf.mk ?_) ?_
    · repeat' first | exact True.intro | refine And.intro ?_ ?_
      all_goals try ((change _ = _ <;> try dsimp only) <;> try with_reducible rfl)
      all_goals try omega
      all_goals (rfl)
    exact fun m hm => by omega
  · rename_i k hk
    have hk43 := going_lt h0 h1 hk
    have := Int.mul_le_mul (show (k + 2 : Int) ≤ 45 by omega) (show (k + 2 : Int) ≤ 45 by omega) (by omega) (by omega)
    have := Int.mul_nonneg (show 0 ≤ (k + 2 : Int) by omega) (show 0 ≤ (k + 2 : Int) by omega)
    omega
  · rename_i k hk hg hz
    have hk43 := going_lt h0 h1 hk
    have := hl k
    show (rs n k).2.length + 1 ≤ 2147483648
    omega
  · rename_i k hk hg hz
    refine GHeld.mk ?_
    refine Exists.intro (11, (rs n k).1) ?_
    refine And.intro (Leaf.mk ?_) ?_
    · repeat' first | exact True.intro | refine And.intro ?_ ?_
      all_goals try ((change _ = _ <;> try dsimp only) <;> try with_reducible rfl)
      all_goals try omega
      all_goals (rfl)
    exact ⟨Nat.le_refl _, (hin k).1, by have := hin k; show (rs n k).1 < 2048; omega, rfl⟩
  · rename_i k hk hg hz t ht hz'
    have hz' : t.2 % (k + 2 : Int) = 0 := by rw [← Int.tmod_eq_emod_of_nonneg (by have := ht.2.1; omega)]; exact hz'
    have e := Int.tdiv_eq_ediv_of_nonneg (a := t.2) (b := (k + 2 : Int)) (by have := ht.2.1; omega)
    have hk43 := going_lt h0 h1 hk
    have := ht.2.1
    have : t.2 < 2048 := Int.lt_of_lt_of_le ht.2.2.1 (p11 ht.1)
    have := Int.ediv_le_self (k + 2 : Int) (show 0 ≤ t.2 by omega)
    have : 0 ≤ t.2 / (k + 2 : Int) := Int.ediv_nonneg (by omega) (by omega)
    rw [e]
    omega
  · rename_i k hk hg hz t ht hz'
    have hz' : t.2 % (k + 2 : Int) = 0 := by rw [← Int.tmod_eq_emod_of_nonneg (by have := ht.2.1; omega)]; exact hz'
    have e := Int.tdiv_eq_ediv_of_nonneg (a := t.2) (b := (k + 2 : Int)) (by have := ht.2.1; omega)
    obtain ⟨f, hf, hin'⟩ := inS_next (d := (k + 2 : Int)) (by omega) ht hz'
    refine GHeld.mk ?_
    refine Exists.intro (f, t.2 / (k + 2 : Int)) ?_
    refine And.intro (Leaf.mk ?_) ?_
    · repeat' first | exact True.intro | refine And.intro ?_ ?_
      all_goals try ((change _ = _ <;> try dsimp only) <;> try with_reducible rfl)
      all_goals try omega
      all_goals (exact e)
    exact ⟨hin', by show f < t.1; omega⟩
  · rename_i k hk hg hz t ht hz'
    have hk43 := going_lt h0 h1 hk
    omega
  · rename_i k hk hg hz t ht hz'
    have hz' : ¬ t.2 % (k + 2 : Int) = 0 := by rw [← Int.tmod_eq_emod_of_nonneg (by have := ht.2.1; omega)]; exact hz'
    have e1 : t.2 = (rs n (k + 1)).1 := inS_end ht hz'
    have e2 : (rs n k).2 ++ [(k + 2 : Int)] = (rs n (k + 1)).2 := by
      show _ = if (rs n k).1 % (k + 2 : Int) = 0 then (rs n k).2 ++ [(k + 2 : Int)] else (rs n k).2
      rw [if_pos (by rw [← Int.tmod_eq_emod_of_nonneg (by have := hin k; omega)]; exact hz)]
    have hk43 := going_lt h0 h1 hk
    refine GHeld.mk ?_
    refine Exists.intro (k + 1) ?_
    refine And.intro (Leaf.mk ?_) ?_
    · repeat' first | exact True.intro | refine And.intro ?_ ?_
      all_goals try ((change _ = _ <;> try dsimp only) <;> try with_reducible rfl)
      all_goals try omega
      all_goals (first | exact e1 | exact e2 | exact congrArg List.length e2 | (show (k : Int) + 2 + 1 = ((k + 1 : Nat) : Int) + 2; omega))
    refine ⟨fun m hm => ?_, by show 50 - (k + 1) < 50 - k; omega⟩
    by_cases he : m = k
    · subst he; exact hg
    · exact hk m (by omega)
  · rename_i k hk hg hz
    refine GHeld.mk ?_
    refine Exists.intro (11, (rs n k).1) ?_
    refine And.intro (Leaf.mk ?_) ?_
    · repeat' first | exact True.intro | refine And.intro ?_ ?_
      all_goals try ((change _ = _ <;> try dsimp only) <;> try with_reducible rfl)
      all_goals try omega
      all_goals (rfl)
    exact ⟨Nat.le_refl _, (hin k).1, by have := hin k; show (rs n k).1 < 2048; omega, rfl⟩
  · rename_i k hk hg hz t ht hz'
    have hz' : t.2 % (k + 2 : Int) = 0 := by rw [← Int.tmod_eq_emod_of_nonneg (by have := ht.2.1; omega)]; exact hz'
    have e := Int.tdiv_eq_ediv_of_nonneg (a := t.2) (b := (k + 2 : Int)) (by have := ht.2.1; omega)
    have hk43 := going_lt h0 h1 hk
    have := ht.2.1
    have : t.2 < 2048 := Int.lt_of_lt_of_le ht.2.2.1 (p11 ht.1)
    have := Int.ediv_le_self (k + 2 : Int) (show 0 ≤ t.2 by omega)
    have : 0 ≤ t.2 / (k + 2 : Int) := Int.ediv_nonneg (by omega) (by omega)
    rw [e]
    omega
  · rename_i k hk hg hz t ht hz'
    have hz' : t.2 % (k + 2 : Int) = 0 := by rw [← Int.tmod_eq_emod_of_nonneg (by have := ht.2.1; omega)]; exact hz'
    have e := Int.tdiv_eq_ediv_of_nonneg (a := t.2) (b := (k + 2 : Int)) (by have := ht.2.1; omega)
    obtain ⟨f, hf, hin'⟩ := inS_next (d := (k + 2 : Int)) (by omega) ht hz'
    refine GHeld.mk ?_
    refine Exists.intro (f, t.2 / (k + 2 : Int)) ?_
    refine And.intro (Leaf.mk ?_) ?_
    · repeat' first | exact True.intro | refine And.intro ?_ ?_
      all_goals try ((change _ = _ <;> try dsimp only) <;> try with_reducible rfl)
      all_goals try omega
      all_goals (exact e)
    exact ⟨hin', by show f < t.1; omega⟩
  · rename_i k hk hg hz t ht hz'
    have hk43 := going_lt h0 h1 hk
    omega
  · rename_i k hk hg hz t ht hz'
    have hz' : ¬ t.2 % (k + 2 : Int) = 0 := by rw [← Int.tmod_eq_emod_of_nonneg (by have := ht.2.1; omega)]; exact hz'
    have e1 : t.2 = (rs n (k + 1)).1 := inS_end ht hz'
    have e2 : (rs n k).2 = (rs n (k + 1)).2 := by
      show _ = if (rs n k).1 % (k + 2 : Int) = 0 then (rs n k).2 ++ [(k + 2 : Int)] else (rs n k).2
      rw [if_neg (by rw [← Int.tmod_eq_emod_of_nonneg (by have := hin k; omega)]; exact hz)]
    have hk43 := going_lt h0 h1 hk
    refine GHeld.mk ?_
    refine Exists.intro (k + 1) ?_
    refine And.intro (Leaf.mk ?_) ?_
    · repeat' first | exact True.intro | refine And.intro ?_ ?_
      all_goals try ((change _ = _ <;> try dsimp only) <;> try with_reducible rfl)
      all_goals try omega
      all_goals (first | exact e1 | exact e2 | exact congrArg List.length e2 | (show (k : Int) + 2 + 1 = ((k + 1 : Nat) : Int) + 2; omega))
    refine ⟨fun m hm => ?_, by show 50 - (k + 1) < 50 - k; omega⟩
    by_cases he : m = k
    · subst he; exact hg
    · exact hk m (by omega)
  · rename_i k hk hg hz
    have hk43 := going_lt h0 h1 hk
    have := hl k
    show (rs n k).2.length + 1 ≤ 2147483648
    omega
  · rename_i k hk hg hz
    have e := prK_eq h0 h1 hk hg
    unfold prO
    rw [e, if_pos hz]
  · rename_i k hk hg hz
    have e := prK_eq h0 h1 hk hg
    unfold prO
    rw [e, if_neg (by omega)]

end Go.Eng.Pu
