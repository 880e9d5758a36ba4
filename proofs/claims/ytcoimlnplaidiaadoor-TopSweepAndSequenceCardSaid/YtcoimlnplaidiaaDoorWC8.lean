/- Contracts: Bits, Period, IsMaximal; the reference's bits, next state and period. Conditions: each contract's own. Contracts of the reference: bits, next state, period. Conditions: the register is right, the start a state. Contracts: the state at a number of steps, the signs of a start. Conditions: the register is right, the start a state. Contracts: lists turned: sums with signs, of the program and of the reference. Conditions: each contract's own. The examples of the document are so: awake returns true. Conditions: none. -/
import Derived.Test.YtcoimlnplaidiaaDoorWC6
import Derived.Test.YtcoimlnplaidiaaDoorWC7
namespace Go.Eng.Pu
open Go.Eng Go.Proofs
set_option linter.all false
set_option maxRecDepth 100000
set_option maxHeartbeats 8000000

theorem op_pSt {L : Int} {xs : List Int} {s : Int} (hl : pLen xs.length) (h : opErr L xs s = 0) : pSt L xs s ∧ 1 ≤ s := by
  unfold opErr at h
  split at h
  · rename_i hc
    unfold stErr at h
    split at h
    · rename_i h1
      unfold most at h1
      exact ⟨⟨hc, hl, by omega, by omega⟩, h1.1⟩
    · cases h
  · rename_i hc; exact absurd h hc

theorem first2 (a b : Int) : firstI [a, b] = if a = 0 then b else a := by
  simp only [firstI]
  by_cases h : a = 0 <;> by_cases h2 : b = 0 <;> simp [h, h2]

def bitsErr (L : Int) (xs : List Int) (s n : Int) : Int := if opErr L xs s = 0 then (if 0 ≤ n ∧ n ≤ 1024 then 0 else 2) else opErr L xs s
def bitsL (L : Int) (xs : List Int) (s n : Int) : List Int := if bitsErr L xs s n = 0 then tab (bitI L xs s) n.toNat else []

@[reducible] def sPBits : Spec := { pats := [.dat Reg0, .dat I64, .dat I64], res := [{ t := .sl I64 }, { t := I64 }], pre := fun x => pLen (List.length (α := Int) x.1.2.1), f := fun x => (bitsL x.1.1 x.1.2.1 x.2.1 x.2.2.1, bitsErr x.1.1 x.1.2.1 x.2.1 x.2.2.1, ()) }

theorem bitsErr_eq (L : Int) (xs : List Int) (s n : Int) : firstI [opErr L xs s, cond (decide (0 ≤ n ∧ n ≤ 1024)) 0 2] = bitsErr L xs s n := by
  rw [first2]
  unfold bitsErr
  by_cases h : opErr L xs s = 0 <;> by_cases h2 : 0 ≤ n ∧ n ≤ 1024 <;> simp [h, h2]

theorem bitsErr_zero {L : Int} {xs : List Int} {s n : Int} (h : bitsErr L xs s n = 0) : opErr L xs s = 0 ∧ 0 ≤ n ∧ n ≤ 1024 := by
  unfold bitsErr at h
  split at h
  · rename_i h1
    split at h
    · rename_i h2; exact ⟨h1, h2⟩
    · cases h
  · rename_i h1; exact absurd h h1

/-- pulse.Bits -/
theorem h18 : Ok 22 sPBits := by
  refine mk (ctr := [(44, sOpen), (51, sFirst), (52, sUnless), (29, sWithin), (53, sBits)]) ⟨h83, h84, h85, h86, h87, trivial⟩ (nt := 29) Tryd.func22 rfl rfl rfl rfl (by kernel_rfl) (by kernel_rfl) (fun _ => []) ?_
  rintro ⟨⟨(L : Int), (xs : List Int), _⟩, (s : Int), (n : Int), _⟩ (hl : pLen xs.length)
  have e := bitsErr_eq L xs s n
  repeat' (intro hzz; (try (rename Two => hq; cases hq)); (try dsimp only at hzz); (try simp only [resTy, argTy, eqD, inR, big, wantOf, Bool.not_true, Bool.not_false, Bool.true_eq, decide_eq_true_eq, decide_eq_false_iff_not, Bool.not_eq_true', Bool.not_eq_false', Bool.and_eq_true, Prod.mk.injEq, and_true, true_and, Int.not_lt, Int.not_le, gt_iff_lt, ge_iff_le] at hzz); (try simp only [resTy, argTy, eqD, inR, big, wantOf, Bool.not_true, Bool.not_false, Bool.true_eq, decide_eq_true_eq, decide_eq_false_iff_not, Bool.not_eq_true', Bool.not_eq_false', Bool.and_eq_true, Prod.mk.injEq, and_true, true_and, Int.not_lt, Int.not_le, gt_iff_lt, ge_iff_le, fWithin] at hzz); (try (first | contradiction | (exfalso; omega))); (try (revert hzz; intro _)))
  all_goals try (rename Unit => hq; clear hq)
  all_goals try ((with_reducible refine Held.mk ?_); (with_reducible (first | refine Frz.mk ?_ | refine And.intro (Frz.mk ?_) ?_ | refine And.intro ?_ (Frz.mk ?_))); repeat' first | exact True.intro | (change _ = _; with_reducible rfl) | refine And.intro ?_ ?_ | (with_reducible refine Frz.mk ?_))
  all_goals try (refine Held.mk ?_; (try dsimp only at *); (try simp only [resTy, argTy, eqD, inR, big, wantOf, Bool.not_true, Bool.not_false, Bool.true_eq, decide_eq_true_eq, decide_eq_false_iff_not, Bool.not_eq_true', Bool.not_eq_false', Bool.and_eq_true, Prod.mk.injEq, and_true, true_and, Int.not_lt, Int.not_le, gt_iff_lt, ge_iff_le] at *); (try simp only [resTy, argTy, eqD, inR, big, wantOf, Bool.not_true, Bool.not_false, Bool.true_eq, decide_eq_true_eq, decide_eq_false_iff_not, Bool.not_eq_true', Bool.not_eq_false', Bool.and_eq_true, Prod.mk.injEq, and_true, true_and, Int.not_lt, Int.not_le, gt_iff_lt, ge_iff_le, fWithin] at *))
  all_goals try omega
  · simp [pLen]
  · rename_i h
    have h : ¬ bitsErr L xs s n = 0 := by rw [← e]; exact h
    refine ⟨(if_neg h).symm, ?_⟩
    exact e
  · rename_i h
    have h : bitsErr L xs s n = 0 := by rw [← e]; exact h
    obtain ⟨h1, h2⟩ := bitsErr_zero h
    exact ⟨(op_pSt hl h1).1, h2⟩
  · rename_i h
    have h : bitsErr L xs s n = 0 := by rw [← e]; exact h
    exact ⟨(if_pos h).symm, h.symm⟩

@[reducible] def sPPer : Spec := { pats := [.dat Reg0, .dat I64], res := [{ t := I64 }, { t := I64 }], pre := fun x => pLen (List.length (α := Int) x.1.2.1), f := fun x => ((if opErr x.1.1 x.1.2.1 x.2.1 = 0 then (per x.1.1 x.1.2.1 x.2.1 : Int) else 0), opErr x.1.1 x.1.2.1 x.2.1, ()) }

/-! ### The bits, as the reference makes them -/

theorem div_mid {a M : Int} {k m : Nat} (h0 : 0 ≤ a) (p : Int) : (a + p * 2 ^ (k + 1 + m)) / 2 ^ k % 2 = a / 2 ^ k % 2 := by
  have hk : (0 : Int) < 2 ^ k := Int.pow_pos (by omega)
  have e : p * 2 ^ (k + 1 + m) = 2 ^ k * (2 * (p * 2 ^ m)) := by
    rw [Nat.add_assoc, Int.pow_add, Int.pow_add, Int.pow_one]
    rw [show p * (2 ^ k * (2 * 2 ^ m)) = 2 ^ k * (2 * (p * 2 ^ m)) from by
      rw [Int.mul_left_comm p, Int.mul_left_comm p]]
  rw [e, Int.add_mul_ediv_left _ _ (by omega), Int.add_mul_emod_self_left]

/-- The bit k of the state behind t steps is the bit t + k of the sequence. -/
theorem st_bit {L : Int} {xs : List Int} {s : Int} (h : pSt L xs s) : ∀ (k t : Nat), (k : Int) < L → stI L xs s t / 2 ^ k % 2 = bitI L xs s (t + k)
  | 0, t, _ => by rw [Int.pow_zero, Int.ediv_one]; rfl
  | k + 1, t, hk => by
    have hs := stI_pSt h t
    have ih := st_bit h k (t + 1) (by omega)
    rw [show t + 1 + k = t + (k + 1) from by omega] at ih
    rw [← ih]
    simp only [stI, nxt]
    obtain ⟨m, hm⟩ : ∃ m, (L - 1).toNat = k + 1 + m := ⟨(L - 1).toNat - (k + 1), by omega⟩
    rw [hm, div_mid (M := 0) (Int.ediv_nonneg hs.2.2.1 (by omega)), Int.pow_succ, Int.mul_comm, ← Int.ediv_ediv_of_nonneg (by omega)]

def tapSum (L : Int) (xs : List Int) (s : Int) (t : Nat) : Nat → Int := sm (fun j => bitI L xs s (t - (xs.getD j 0).toNat))

theorem parK_sum {L : Int} {xs : List Int} {s : Int} (h : pSt L xs s) (t : Nat) : ∀ k, k ≤ xs.length → parK L xs (stI L xs s t) k = tapSum L xs s (t + L.toNat) k % 2
  | 0, _ => rfl
  | k + 1, hk => by
    obtain ⟨hL, hlen, hz, hlast⟩ := chk_zero h.1
    have hz := regE_zero hz k (by omega) (by omega)
    have ih := parK_sum h t k (by omega)
    have e : tapBit L (stI L xs s t) (xs.getD k 0) = bitI L xs s (t + L.toNat - (xs.getD k 0).toNat) := by
      rw [show t + L.toNat - (xs.getD k 0).toNat = t + (L - xs.getD k 0).toNat from by omega]
      exact st_bit h _ t (by omega)
    simp only [parK, ih, e, tapSum, sm]
    omega

/-- A bit behind the first ones is the sum of those that the taps tell. -/
theorem bit_tail {L : Int} {xs : List Int} {s : Int} (h : pSt L xs s) {t : Nat} (ht : L ≤ t) : bitI L xs s t = tapSum L xs s t xs.length % 2 := by
  have hL := (chk_zero h.1).1
  obtain ⟨u, hu⟩ : ∃ u, t = u + L.toNat := ⟨t - L.toNat, by omega⟩
  subst hu
  rw [← parK_sum h u xs.length (Nat.le_refl _)]
  have hs := (stI_pSt h u).2.2
  have e := st_bit h (L - 1).toNat (u + 1) (by omega)
  rw [show u + 1 + (L - 1).toNat = u + L.toNat from by omega] at e
  rw [← e]
  simp only [stI, nxt]
  have hp := pow_half hL
  have hpos : (0 : Int) < 2 ^ (L - 1).toNat := Int.pow_pos (by omega)
  rw [Int.add_mul_ediv_right _ _ (by omega), Int.ediv_eq_zero_of_lt (by omega) (by omega)]
  have := parK_01 L xs (stI L xs s u) xs.length
  omega

theorem bit_head {L : Int} {xs : List Int} {s : Int} (h : pSt L xs s) {t : Nat} (ht : (t : Int) < L) : bitI L xs s t = s / 2 ^ t % 2 := by
  have := st_bit h t 0 ht
  rw [Nat.zero_add] at this
  exact this.symm

theorem bit_01 {L : Int} {xs : List Int} {s : Int} (t : Nat) : 0 ≤ bitI L xs s t ∧ bitI L xs s t ≤ 1 := by unfold bitI; omega

end Go.Eng.Pu

namespace Go.Eng.Pu
open Go.Eng Go.Proofs
set_option linter.all false
set_option maxRecDepth 100000
set_option maxHeartbeats 8000000

abbrev sOwn (t k el : Nat) (xs : List Int) : St := [.slot t (.one (.o k xs.length)), .row k el I64 xs]

@[reducible] def sRBits : Spec := { pats := [.dat Reg0, .dat I64, .dat I64], res := [{ own := some 3, t := .sl I64 }], pre := fun x => pSt x.1.1 x.1.2.1 x.2.1 ∧ 0 ≤ x.2.2.1 ∧ x.2.2.1 ≤ (1024 : Int), f := fun x => (tab (bitI x.1.1 x.1.2.1 x.2.1) (Int.toNat x.2.2.1), ()) }

/-- The start, as it is when k bits are made. -/
def shS (L s : Int) (k : Nat) : Int := s / 2 ^ min k L.toNat

theorem shS_in {L s : Int} (h : 0 ≤ s) (k : Nat) : 0 ≤ shS L s k ∧ shS L s k ≤ s :=
  ⟨Int.ediv_nonneg h (Int.pow_nonneg (by omega)), Int.ediv_le_self _ h⟩

theorem shS_bit {L : Int} {xs : List Int} {s : Int} (h : pSt L xs s) {k : Nat} (hk : (k : Int) < L) : (shS L s k).tmod 2 = bitI L xs s k := by
  have := (shS_in (L := L) h.2.2.1 k).1
  rw [Int.tmod_eq_emod_of_nonneg this, bit_head h hk, shS, Nat.min_eq_left (by omega)]

theorem shS_step {L : Int} {s : Int} (h : 0 ≤ s) {k : Nat} (hk : (k : Int) < L) : (shS L s k).tdiv 2 = shS L s (k + 1) := by
  have := (shS_in (L := L) h k).1
  rw [Int.tdiv_eq_ediv_of_nonneg this, shS, shS, Nat.min_eq_left (by omega), Nat.min_eq_left (by omega), Int.ediv_ediv_of_nonneg (Int.pow_nonneg (by omega)), Int.pow_succ]

theorem shS_stay {L : Int} {s : Int} {k : Nat} (hk : L ≤ (k : Int)) : shS L s k = shS L s (k + 1) := by
  rw [shS, shS, Nat.min_eq_right (by omega), Nat.min_eq_right (by omega)]

theorem tapSum_in (L : Int) (xs : List Int) (s : Int) (t : Nat) : ∀ j : Nat, 0 ≤ tapSum L xs s t j ∧ tapSum L xs s t j ≤ j
  | 0 => by simp [tapSum, sm]
  | j + 1 => by
    have ih := tapSum_in L xs s t j
    have := bit_01 (L := L) (xs := xs) (s := s) (t - (xs.getD j 0).toNat)
    have e : tapSum L xs s t (j + 1) = tapSum L xs s t j + bitI L xs s (t - (xs.getD j 0).toNat) := rfl
    rw [e]; omega

theorem tab_at {L : Int} {xs : List Int} {s x : Int} {t : Nat} (h1 : 1 ≤ x) (h2 : x ≤ t) : (tab (bitI L xs s) t).getD ((t : Int) - x).toNat (Ty.dflt I64) = bitI L xs s (t - x.toNat) := by
  rw [show ((t : Int) - x).toNat = t - x.toNat from by omega]
  exact tab_get _ _ _ _ (by omega)

/-- ref.Bits -/
theorem h27 : Ok 86 sRBits := by
  refine mk (ctr := []) trivial (nt := 52) Tryd.func86 rfl rfl rfl rfl (by kernel_rfl) (by kernel_rfl) (fun x => [fun _ => { σ := Nat, pat := fun k => [sI 8 k, sI 1 (shS x.1.1 x.2.1 k)] ++ sOwn 7 60007 3 (tab (bitI x.1.1 x.1.2.1 x.2.1) k), inv := fun k => (k : Int) ≤ x.2.2.1, meas := fun k => Int.toNat x.2.2.1 - k }, fun st => withI 8 st fun t => { σ := Nat, pat := fun j => [sI 10 j, sI 9 (tapSum x.1.1 x.1.2.1 x.2.1 t.toNat j)], inv := fun j => j ≤ List.length (α := Int) x.1.2.1, meas := fun j => List.length (α := Int) x.1.2.1 - j }]) ?_
  rintro ⟨⟨(L : Int), (xs : List Int), _⟩, (s : Int), (n : Int), _⟩ ⟨(hp : pSt L xs s), (h0 : 0 ≤ n), (h1 : n ≤ 1024)⟩
  obtain ⟨hL, hlen, hz, hlast⟩ := chk_zero hp.1
  have hz := regE_zero hz
  have := hp.2.1.out
  have hs := hp.2.2
  have hP := P2_in hL
  repeat' (intro hzz; (try (rename Two => hq; cases hq)); (try dsimp only at hzz); (try simp only [resTy, argTy, eqD, inR, big, wantOf, Bool.not_true, Bool.not_false, Bool.true_eq, decide_eq_true_eq, decide_eq_false_iff_not, Bool.not_eq_true', Bool.not_eq_false', Bool.and_eq_true, Prod.mk.injEq, and_true, true_and, Int.not_lt, Int.not_le, gt_iff_lt, ge_iff_le] at hzz); (try simp only [resTy, argTy, eqD, inR, big, wantOf, Bool.not_true, Bool.not_false, Bool.true_eq, decide_eq_true_eq, decide_eq_false_iff_not, Bool.not_eq_true', Bool.not_eq_false', Bool.and_eq_true, Prod.mk.injEq, and_true, true_and, Int.not_lt, Int.not_le, gt_iff_lt, ge_iff_le, tab_len, getD_i] at hzz); (try (first | contradiction | (exfalso; omega))); (try (revert hzz; intro _)))
  all_goals try (rename Unit => hq; clear hq)
  all_goals try ((with_reducible refine Held.mk ?_); (with_reducible (first | refine Frz.mk ?_ | refine And.intro (Frz.mk ?_) ?_ | refine And.intro ?_ (Frz.mk ?_))); repeat' first | exact True.intro | (change _ = _; with_reducible rfl) | refine And.intro ?_ ?_ | (with_reducible refine Frz.mk ?_))
  all_goals try (refine Held.mk ?_; (try dsimp only at *); (try simp only [resTy, argTy, eqD, inR, big, wantOf, Bool.not_true, Bool.not_false, Bool.true_eq, decide_eq_true_eq, decide_eq_false_iff_not, Bool.not_eq_true', Bool.not_eq_false', Bool.and_eq_true, Prod.mk.injEq, and_true, true_and, Int.not_lt, Int.not_le, gt_iff_lt, ge_iff_le] at *); (try simp only [resTy, argTy, eqD, inR, big, wantOf, Bool.not_true, Bool.not_false, Bool.true_eq, decide_eq_true_eq, decide_eq_false_iff_not, Bool.not_eq_true', Bool.not_eq_false', Bool.and_eq_true, Prod.mk.injEq, and_true, true_and, Int.not_lt, Int.not_le, gt_iff_lt, ge_iff_le, tab_len, getD_i] at *))
  all_goals try omega
  · 
    refine GHeld.mk ?_
    refine Exists.intro 0 ?_
    refine And.intro (Leaf.mk ?_) ?_
    · repeat' first | exact True.intro | refine And.intro ?_ ?_
      all_goals try ((change _ = _ <;> try dsimp only) <;> try with_reducible rfl)
      all_goals try omega
      all_goals (first | rfl | (show s = s / 2 ^ min 0 L.toNat; rw [Nat.min_eq_left (Nat.zero_le _), Int.pow_zero, Int.ediv_one]))
    exact h0
  · show _ + 1 ≤ 2147483648
    omega
  · rename_i k hk hg h
    have := shS_in (L := L) hs.1 k
    rw [shS_step hs.1 h]
    have := shS_in (L := L) hs.1 (k + 1)
    omega
  · rename_i k hk hg h
    have e1 : tab (bitI L xs s) k ++ [(shS L s k).tmod 2] = tab (bitI L xs s) (k + 1) := by rw [shS_bit hp h]; rfl
    have e2 := shS_step hs.1 h
    rw [e1]
    refine GHeld.mk ?_
    refine Exists.intro (k + 1) ?_
    refine And.intro (Leaf.mk ?_) ?_
    · repeat' first | exact True.intro | refine And.intro ?_ ?_
      all_goals try ((change _ = _ <;> try dsimp only) <;> try with_reducible rfl)
      all_goals try omega
      all_goals (first | rfl | exact e2 | (rw [tab_len]; rfl))
    exact ⟨by show ((k + 1 : Nat) : Int) ≤ n; omega, by show n.toNat - (k + 1) < n.toNat - k; omega⟩
  · rename_i k hk hg h
    refine GHeld.mk ?_
    refine Exists.intro 0 ?_
    refine And.intro (Leaf.mk ?_) ?_
    · repeat' first | exact True.intro | refine And.intro ?_ ?_
      all_goals try ((change _ = _ <;> try dsimp only) <;> try with_reducible rfl)
      all_goals try omega
      all_goals (rfl)
    exact Nat.zero_le _
  · rename_i k hk hg h j hj hg'
    have := hz j (by omega) (by omega)
    omega
  · rename_i k hk hg h j hj hg'
    have := hz j (by omega) (by omega)
    omega
  · rename_i k hk hg h j hj hg'
    have := hz j (by omega) (by omega)
    omega
  · rename_i k hk hg h j hj hg'
    have h3 := hz j (by omega) (by omega)
    rw [tab_at h3.1 (by omega)]
    have := tapSum_in L xs s (k : Int).toNat j
    have := bit_01 (L := L) (xs := xs) (s := s) (k - (xs.getD j 0).toNat)
    omega
  · rename_i k hk hg h j hj hg'
    have h3 := hz j (by omega) (by omega)
    have e : tapSum L xs s (k : Int).toNat j + (tab (bitI L xs s) k).getD ((k : Int) - xs.getD j 0).toNat (Ty.dflt I64) = tapSum L xs s (k : Int).toNat (j + 1) := by
      rw [tab_at h3.1 (by omega)]; rfl
    refine GHeld.mk ?_
    refine Exists.intro (j + 1) ?_
    refine And.intro (Leaf.mk ?_) ?_
    · repeat' first | exact True.intro | refine And.intro ?_ ?_
      all_goals try ((change _ = _ <;> try dsimp only) <;> try with_reducible rfl)
      all_goals try omega
      all_goals (exact e)
    exact ⟨by show j + 1 ≤ xs.length; omega, by show xs.length - (j + 1) < xs.length - j; omega⟩
  · show _ + 1 ≤ 2147483648
    omega
  · rename_i k hk hg h j hj hg'
    have hj : j = xs.length := by omega
    subst hj
    have e0 : (tapSum L xs s (k : Int).toNat xs.length).tmod 2 = bitI L xs s k := by
      rw [Int.tmod_eq_emod_of_nonneg (tapSum_in L xs s _ _).1, bit_tail hp h]; rfl
    have e1 : tab (bitI L xs s) k ++ [(tapSum L xs s (k : Int).toNat xs.length).tmod 2] = tab (bitI L xs s) (k + 1) := by rw [e0]; rfl
    have e2 := shS_stay (L := L) (s := s) h
    rw [e1]
    refine GHeld.mk ?_
    refine Exists.intro (k + 1) ?_
    refine And.intro (Leaf.mk ?_) ?_
    · repeat' first | exact True.intro | refine And.intro ?_ ?_
      all_goals try ((change _ = _ <;> try dsimp only) <;> try with_reducible rfl)
      all_goals try omega
      all_goals (first | rfl | exact e2 | (rw [tab_len]; rfl))
    exact ⟨by show ((k + 1 : Nat) : Int) ≤ n; omega, by show n.toNat - (k + 1) < n.toNat - k; omega⟩
  · rename_i k hk hg
    rw [show n.toNat = k from by omega]

@[reducible] def sRNext : Spec := { pats := [.dat Reg0, .dat I64], res := [{ t := I64 }], pre := fun x => pSt x.1.1 x.1.2.1 x.2.1, f := fun x => (nxt x.1.1 x.1.2.1 x.2.1, ()) }

/-- ref.Next -/
theorem h90 : Ok 79 sRNext := by
  refine mk (ctr := [(86, sRBits)]) ⟨h27, trivial⟩ (nt := 28) Tryd.func79 rfl rfl rfl rfl (by kernel_rfl) (by kernel_rfl) (fun x => [fun _ => { σ := Nat, pat := fun k => [sI 7 k, sI 6 (nxt x.1.1 x.1.2.1 x.2.1 / 2 ^ k)], inv := fun k => (k : Int) ≤ x.1.1, meas := fun k => k }]) ?_
  rintro ⟨⟨(L : Int), (xs : List Int), _⟩, (s : Int), _⟩ (hp : pSt L xs s)
  have hL := (chk_zero hp.1).1
  have hP := P2_in hL
  have hn : 0 ≤ nxt L xs s ∧ nxt L xs s < P2 L := (stI_pSt hp 1).2.2
  have hle : ∀ k : Nat, 0 ≤ nxt L xs s / 2 ^ k ∧ nxt L xs s / 2 ^ k ≤ nxt L xs s := fun k => ⟨Int.ediv_nonneg hn.1 (Int.pow_nonneg (by omega)), Int.ediv_le_self _ hn.1⟩
  have hget : ∀ k : Nat, (k : Int) ≤ L → (tab (bitI L xs s) (L + 1).toNat).getD k 0 = bitI L xs s k := fun k hk => tab_get _ _ _ _ (by omega)
  have hstep : ∀ k : Nat, 1 ≤ (k : Int) → (k : Int) ≤ L → 2 * (nxt L xs s / 2 ^ k) + bitI L xs s k = nxt L xs s / 2 ^ (k - 1) := by
    intro k h1 h2
    obtain ⟨m, rfl⟩ : ∃ m, k = m + 1 := ⟨k - 1, by omega⟩
    have h3 := st_bit hp m 1 (by omega)
    rw [show 1 + m = m + 1 from by omega] at h3
    have h3 : nxt L xs s / 2 ^ m % 2 = bitI L xs s (m + 1) := h3
    rw [Nat.add_sub_cancel, Int.pow_succ, ← Int.ediv_ediv_of_nonneg (Int.pow_nonneg (by omega)), ← h3]
    omega
  repeat' (intro hzz; (try (rename Two => hq; cases hq)); (try dsimp only at hzz); (try simp only [resTy, argTy, eqD, inR, big, wantOf, Bool.not_true, Bool.not_false, Bool.true_eq, decide_eq_true_eq, decide_eq_false_iff_not, Bool.not_eq_true', Bool.not_eq_false', Bool.and_eq_true, Prod.mk.injEq, and_true, true_and, Int.not_lt, Int.not_le, gt_iff_lt, ge_iff_le] at hzz); (try simp only [resTy, argTy, eqD, inR, big, wantOf, Bool.not_true, Bool.not_false, Bool.true_eq, decide_eq_true_eq, decide_eq_false_iff_not, Bool.not_eq_true', Bool.not_eq_false', Bool.and_eq_true, Prod.mk.injEq, and_true, true_and, Int.not_lt, Int.not_le, gt_iff_lt, ge_iff_le, tab_len, getD_i] at hzz); (try (first | contradiction | (exfalso; omega))); (try (revert hzz; intro _)))
  all_goals try (rename Unit => hq; clear hq)
  all_goals try ((with_reducible refine Held.mk ?_); (with_reducible (first | refine Frz.mk ?_ | refine And.intro (Frz.mk ?_) ?_ | refine And.intro ?_ (Frz.mk ?_))); repeat' first | exact True.intro | (change _ = _; with_reducible rfl) | refine And.intro ?_ ?_ | (with_reducible refine Frz.mk ?_))
  all_goals try (refine Held.mk ?_; (try dsimp only at *); (try simp only [resTy, argTy, eqD, inR, big, wantOf, Bool.not_true, Bool.not_false, Bool.true_eq, decide_eq_true_eq, decide_eq_false_iff_not, Bool.not_eq_true', Bool.not_eq_false', Bool.and_eq_true, Prod.mk.injEq, and_true, true_and, Int.not_lt, Int.not_le, gt_iff_lt, ge_iff_le] at *); (try simp only [resTy, argTy, eqD, inR, big, wantOf, Bool.not_true, Bool.not_false, Bool.true_eq, decide_eq_true_eq, decide_eq_false_iff_not, Bool.not_eq_true', Bool.not_eq_false', Bool.and_eq_true, Prod.mk.injEq, and_true, true_and, Int.not_lt, Int.not_le, gt_iff_lt, ge_iff_le, tab_len, getD_i] at *))
  all_goals try omega
  · exact ⟨hp, (show (0 : Int) ≤ L + 1 by omega), (show L + 1 ≤ (1024 : Int) by omega)⟩
  · have e0 : nxt L xs s / 2 ^ L.toNat = 0 := Int.ediv_eq_zero_of_lt hn.1 hn.2
    have e1 : (L.toNat : Int) = L := Int.toNat_of_nonneg (by omega)
    refine GHeld.mk ?_
    refine Exists.intro L.toNat ?_
    refine And.intro (Leaf.mk ?_) ?_
    · repeat' first | exact True.intro | refine And.intro ?_ ?_
      all_goals try ((change _ = _ <;> try dsimp only) <;> try with_reducible rfl)
      all_goals try omega
      all_goals (first | exact e0.symm | exact e1.symm)
    show (L.toNat : Int) ≤ L
    omega
  · rename_i k hk hg
    have := hle k
    omega
  · rename_i k hk hg
    have := hle k
    have := bit_01 (L := L) (xs := xs) (s := s) k
    rw [hget k hk]
    omega
  · rename_i k hk hg
    have e := hstep k hg hk
    rw [← hget k hk] at e
    obtain ⟨m, hm⟩ : ∃ m, k = m + 1 := ⟨k - 1, by omega⟩
    subst hm
    rw [Nat.add_sub_cancel] at e
    refine GHeld.mk ?_
    refine Exists.intro m ?_
    refine And.intro (Leaf.mk ?_) ?_
    · repeat' first | exact True.intro | refine And.intro ?_ ?_
      all_goals try ((change _ = _ <;> try dsimp only) <;> try with_reducible rfl)
      all_goals try omega
      all_goals (first | exact e | (show ((m + 1 : Nat) : Int) - 1 = m; omega))
    exact ⟨by show (m : Int) ≤ L; omega, by show m < m + 1; omega⟩
  · rename_i k hk hg
    have hk0 : k = 0 := by omega
    subst hk0
    rw [Int.pow_zero, Int.ediv_one]

@[reducible] def sRPer : Spec := { pats := [.dat Reg0, .dat I64], res := [{ t := I64 }], pre := fun x => pSt x.1.1 x.1.2.1 x.2.1, f := fun x => ((per x.1.1 x.1.2.1 x.2.1 : Int), ()) }

/-- ref.Period -/
theorem h24 : Ok 62 sRPer := by
  refine mk (ctr := [(79, sRNext)]) ⟨h90, trivial⟩ (nt := 19) Tryd.func62 rfl rfl rfl rfl (by kernel_rfl) (by kernel_rfl) (fun x => [fun _ => { σ := Nat, pat := fun k => [sI 5 (k + 1 : Int), sI 6 (stI x.1.1 x.1.2.1 x.2.1 (k + 1))], inv := fun k => nyet x.1.1 x.1.2.1 x.2.1 k, meas := fun k => per x.1.1 x.1.2.1 x.2.1 - k }]) ?_
  rintro ⟨⟨(L : Int), (xs : List Int), _⟩, (s : Int), _⟩ (hp : pSt L xs s)
  have hper := per_spec hp
  have hP := P2_in (chk_zero hp.1).1
  repeat' (intro hzz; (try (rename Two => hq; cases hq)); (try dsimp only at hzz); (try simp only [resTy, argTy, eqD, inR, big, wantOf, Bool.not_true, Bool.not_false, Bool.true_eq, decide_eq_true_eq, decide_eq_false_iff_not, Bool.not_eq_true', Bool.not_eq_false', Bool.and_eq_true, Prod.mk.injEq, and_true, true_and, Int.not_lt, Int.not_le, gt_iff_lt, ge_iff_le] at hzz); (try (first | contradiction | (exfalso; omega))); (try (revert hzz; intro _)))
  all_goals try (rename Unit => hq; clear hq)
  all_goals try ((with_reducible refine Held.mk ?_); (with_reducible (first | refine Frz.mk ?_ | refine And.intro (Frz.mk ?_) ?_ | refine And.intro ?_ (Frz.mk ?_))); repeat' first | exact True.intro | (change _ = _; with_reducible rfl) | refine And.intro ?_ ?_ | (with_reducible refine Frz.mk ?_))
  all_goals try (refine Held.mk ?_; (try dsimp only at *); (try simp only [resTy, argTy, eqD, inR, big, wantOf, Bool.not_true, Bool.not_false, Bool.true_eq, decide_eq_true_eq, decide_eq_false_iff_not, Bool.not_eq_true', Bool.not_eq_false', Bool.and_eq_true, Prod.mk.injEq, and_true, true_and, Int.not_lt, Int.not_le, gt_iff_lt, ge_iff_le] at *))
  all_goals try omega
  · 
    refine GHeld.mk ?_
    refine Exists.intro 0 ?_
    refine And.intro (Leaf.mk ?_) ?_
    · repeat' first | exact True.intro | refine And.intro ?_ ?_
      all_goals try ((change _ = _ <;> try dsimp only) <;> try with_reducible rfl)
      all_goals try omega
      all_goals (rfl)
    exact fun m h1 h2 => by omega
  · rename_i k hk h
    have := nyet_lt hp hk
    omega
  · rename_i k hk h
    exact stI_pSt hp (k + 1)
  · rename_i k hk h
    have hlt := nyet_lt hp hk
    refine GHeld.mk ?_
    refine Exists.intro (k + 1) ?_
    refine And.intro (Leaf.mk ?_) ?_
    · repeat' first | exact True.intro | refine And.intro ?_ ?_
      all_goals try ((change _ = _ <;> try dsimp only) <;> try with_reducible rfl)
      all_goals try omega
      all_goals (rfl)
    have hn : nyet L xs s (k + 1) := fun m h1 h2 => by
      by_cases hm : m = k + 1
      · subst hm; exact h
      · exact hk m h1 (by omega)
    exact ⟨hn, by show per L xs s - (k + 1) < per L xs s - k; omega⟩
  · rename_i k hk h
    have := nyet_per hp hk h
    omega

end Go.Eng.Pu

namespace Go.Eng.Pu
open Go.Eng Go.Proofs
set_option linter.all false
set_option maxRecDepth 100000
set_option maxHeartbeats 8000000

/-- The state at n steps. -/
def atI (L : Int) (xs : List Int) (s n : Int) : Int := stI L xs s (n % (per L xs s : Int)).toNat

@[reducible] def sAt : Spec := { pats := [.dat Reg, .dat I64, .dat I64], res := [{ t := I64 }], pre := fun x => pSt x.1.1.1 x.1.1.2.1 x.2.1 ∧ 0 ≤ x.2.2.1 ∧ x.2.2.1 ≤ (1000000000 : Int), f := fun x => (atI x.1.1.1 x.1.1.2.1 x.2.1 x.2.2.1, ()) }

def mixT (f g : Nat → Int) (n k : Nat) : List Int := tab (fun i => if i < k then f i else g i) n

def sgI (L : Int) (xs : List Int) (s : Int) (i : Nat) : Int := 1 - 2 * bitI L xs s i

@[reducible] def sSigns : Spec := { pats := [.dat Reg, .dat I64], res := [{ own := some 3, t := .sl I64 }], pre := fun x => pSt x.1.1.1 x.1.1.2.1 x.2.1, f := fun x => (tab (sgI x.1.1.1 x.1.1.2.1 x.2.1) (most x.1.1.1).toNat, ()) }

theorem mixT_len (f g : Nat → Int) (n k : Nat) : (mixT f g n k).length = n := tab_len _ _
theorem mixT_get {f g : Nat → Int} {n k : Nat} (h : k < n) : (mixT f g n k).getD k 0 = g k := by
  rw [mixT, tab_get _ _ _ _ h]; simp

theorem mixT_set {f g : Nat → Int} {n k : Nat} (h : k < n) : (mixT f g n k).set k (f k) = mixT f g n (k + 1) := by
  apply List.ext_getElem
  · rw [List.length_set, mixT_len, mixT_len]
  · intro i h1 h2
    have hi : i < n := by rw [mixT_len] at h2; exact h2
    have g1 : (mixT f g n k).getD i 0 = if i < k then f i else g i := tab_get _ _ _ _ hi
    have g2 : (mixT f g n (k + 1)).getD i 0 = if i < k + 1 then f i else g i := tab_get _ _ _ _ hi
    rw [List.getElem_set]
    simp only [List.getD, List.getElem?_eq_getElem h2, List.getElem?_eq_getElem (show i < (mixT f g n k).length by rw [mixT_len]; exact hi), Option.getD_some] at g1 g2
    rw [g2]
    by_cases he : k = i
    · subst he; simp
    · rw [if_neg he, g1]
      by_cases hik : i < k
      · rw [if_pos hik, if_pos (by omega)]
      · rw [if_neg hik, if_neg (by omega)]
theorem mixT_zero (f g : Nat → Int) (n : Nat) : mixT f g n 0 = tab g n := tab_congr n fun i _ => by simp
theorem mixT_all (f g : Nat → Int) (n : Nat) : mixT f g n n = tab f n := tab_congr n fun i hi => by simp [hi]

theorem toNat_k (k : Nat) : ((k : Int)).toNat = k := rfl

/-- register.signs -/
theorem h95 : Ok 47 sSigns := by
  refine mk (ctr := [(46, sFull), (53, sBits)]) ⟨h94, h87, trivial⟩ (nt := 28) Tryd.func47 rfl rfl rfl rfl (by kernel_rfl) (by kernel_rfl) (fun x => [fun _ => { σ := Nat, pat := fun k => [sI 15 k, .row 12 3 I64 (mixT (sgI x.1.1.1 x.1.1.2.1 x.2.1) (bitI x.1.1.1 x.1.1.2.1 x.2.1) (most x.1.1.1).toNat k)], inv := fun k => k ≤ (most x.1.1.1).toNat, meas := fun k => (most x.1.1.1).toNat - k }]) ?_
  rintro ⟨⟨⟨(L : Int), (xs : List Int), _⟩, _⟩, (s : Int), _⟩ (hp : pSt L xs s)
  have hL := (chk_zero hp.1).1
  have hP := P2_in hL
  repeat' (intro hzz; (try (rename Two => hq; cases hq)); (try dsimp only at hzz); (try simp only [resTy, argTy, eqD, inR, big, wantOf, Bool.not_true, Bool.not_false, Bool.true_eq, decide_eq_true_eq, decide_eq_false_iff_not, Bool.not_eq_true', Bool.not_eq_false', Bool.and_eq_true, Prod.mk.injEq, and_true, true_and, Int.not_lt, Int.not_le, gt_iff_lt, ge_iff_le] at hzz); (try simp only [resTy, argTy, eqD, inR, big, wantOf, Bool.not_true, Bool.not_false, Bool.true_eq, decide_eq_true_eq, decide_eq_false_iff_not, Bool.not_eq_true', Bool.not_eq_false', Bool.and_eq_true, Prod.mk.injEq, and_true, true_and, Int.not_lt, Int.not_le, gt_iff_lt, ge_iff_le, tab_len, getD_i, mixT_len] at hzz); (try (first | contradiction | (exfalso; omega))); (try (revert hzz; intro _)))
  all_goals try (rename Unit => hq; clear hq)
  all_goals try ((with_reducible refine Held.mk ?_); (with_reducible (first | refine Frz.mk ?_ | refine And.intro (Frz.mk ?_) ?_ | refine And.intro ?_ (Frz.mk ?_))); repeat' first | exact True.intro | (change _ = _; with_reducible rfl) | refine And.intro ?_ ?_ | (with_reducible refine Frz.mk ?_))
  all_goals try (refine Held.mk ?_; (try dsimp only at *); (try simp only [resTy, argTy, eqD, inR, big, wantOf, Bool.not_true, Bool.not_false, Bool.true_eq, decide_eq_true_eq, decide_eq_false_iff_not, Bool.not_eq_true', Bool.not_eq_false', Bool.and_eq_true, Prod.mk.injEq, and_true, true_and, Int.not_lt, Int.not_le, gt_iff_lt, ge_iff_le] at *); (try simp only [resTy, argTy, eqD, inR, big, wantOf, Bool.not_true, Bool.not_false, Bool.true_eq, decide_eq_true_eq, decide_eq_false_iff_not, Bool.not_eq_true', Bool.not_eq_false', Bool.and_eq_true, Prod.mk.injEq, and_true, true_and, Int.not_lt, Int.not_le, gt_iff_lt, ge_iff_le, tab_len, getD_i, mixT_len] at *))
  all_goals try omega
  · exact ⟨hp, (show (0 : Int) ≤ most L by unfold most; omega), (show most L ≤ (1024 : Int) by unfold most; omega)⟩
  · 
    refine GHeld.mk ?_
    refine Exists.intro 0 ?_
    refine And.intro (Leaf.mk ?_) ?_
    · repeat' first | exact True.intro | refine And.intro ?_ ?_
      all_goals try ((change _ = _ <;> try dsimp only) <;> try with_reducible rfl)
      all_goals try omega
      all_goals (first | exact (mixT_zero _ _ _).symm | rfl | (rw [tab_len]))
    exact Nat.zero_le _
  · rename_i k hk hg
    rw [mixT_get (by omega)]
    have := bit_01 (L := L) (xs := xs) (s := s) k
    omega
  · rename_i k hk hg
    rw [mixT_get (by omega)]
    have := bit_01 (L := L) (xs := xs) (s := s) k
    omega
  · rename_i k hk hg
    unfold most at hg
    omega
  · rename_i k hk hg
    have e : (mixT (sgI L xs s) (bitI L xs s) (most L).toNat k).set k (1 - 2 * (mixT (sgI L xs s) (bitI L xs s) (most L).toNat k).getD k 0) = mixT (sgI L xs s) (bitI L xs s) (most L).toNat (k + 1) := by
      rw [mixT_get (by omega)]
      exact mixT_set (by omega)
    refine GHeld.mk ?_
    refine Exists.intro (k + 1) ?_
    refine And.intro (Leaf.mk ?_) ?_
    · repeat' first | exact True.intro | refine And.intro ?_ ?_
      all_goals try ((change _ = _ <;> try dsimp only) <;> try with_reducible rfl)
      all_goals try omega
      all_goals (exact e)
    exact ⟨by show k + 1 ≤ (most L).toNat; omega, by show (most L).toNat - (k + 1) < (most L).toNat - k; omega⟩
  · rename_i k hk hg
    rw [show k = (most L).toNat from by omega, mixT_all]

/-- ref.Signs -/
@[reducible] def sRSigns : Spec := { pats := [.dat Reg0, .dat I64], res := [{ own := some 3, t := .sl I64 }], pre := fun x => pSt x.1.1 x.1.2.1 x.2.1, f := fun x => (tab (sgI x.1.1 x.1.2.1 x.2.1) (most x.1.1).toNat, ()) }
/-- ref.StateAt -/
@[reducible] def sRAt : Spec := { pats := [.dat Reg0, .dat I64, .dat I64], res := [{ t := I64 }], pre := fun x => pSt x.1.1 x.1.2.1 x.2.1 ∧ 0 ≤ x.2.2.1 ∧ x.2.2.1 ≤ (1000000000 : Int), f := fun x => (atI x.1.1 x.1.2.1 x.2.1 x.2.2.1, ()) }
end Go.Eng.Pu

namespace Go.Eng.Pu
open Go.Eng Go.Proofs
set_option linter.all false
set_option maxRecDepth 100000
set_option maxHeartbeats 8000000

def byP (a : IP) (n : Int) : IP := (a.1 * n, a.2.1 * n, ())
/-- The sign at a distance. -/
def sgA (sg : List Int) (m : Int) : Int := sg.getD (fMod m sg.length).toNat 0
/-- The sum of a list with signs. -/
def trV (ps : List IP) (sg : List Int) (a way : Int) : Nat → IP
  | 0 => (0, 0, ())
  | k + 1 => plusP (trV ps sg a way k) (byP (ps.getD k (0, 0, ())) (sgA sg (way * (a - k))))

def okS (sg : List Int) : Prop := ∀ i : Nat, -1 ≤ sg.getD i 0 ∧ sg.getD i 0 ≤ 1

theorem by_in {n s B : Int} (h1 : -B ≤ n) (h2 : n ≤ B) (h3 : -1 ≤ s) (h4 : s ≤ 1) : -B ≤ n * s ∧ n * s ≤ B := by
  rcases (show s = -1 ∨ s = 0 ∨ s = 1 by omega) with rfl | rfl | rfl
  · rw [Int.mul_neg, Int.mul_one]; omega
  · rw [Int.mul_zero]; omega
  · rw [Int.mul_one]; omega

theorem trV_in {ps : List IP} {sg : List Int} {a way : Int} (h : okL 16777216 ps) (hs : okS sg) : ∀ k : Nat, (-(k * 16777216) ≤ (trV ps sg a way k).1 ∧ (trV ps sg a way k).1 ≤ k * 16777216) ∧ (-(k * 16777216) ≤ (trV ps sg a way k).2.1 ∧ (trV ps sg a way k).2.1 ≤ k * 16777216)
  | 0 => by simp [trV]
  | k + 1 => by
    have ih := trV_in (a := a) (way := way) h hs k
    have hk := h k
    have hsk := hs (fMod (way * (a - k)) sg.length).toNat
    have b1 := by_in hk.1.1 hk.1.2 hsk.1 hsk.2
    have b2 := by_in hk.2.1 hk.2.2 hsk.1 hsk.2
    show (_ ≤ (trV ps sg a way k).1 + (ps.getD k (0, 0, ())).1 * sg.getD (fMod (way * (a - k)) sg.length).toNat 0 ∧ (trV ps sg a way k).1 + (ps.getD k (0, 0, ())).1 * sg.getD (fMod (way * (a - k)) sg.length).toNat 0 ≤ _) ∧ (_ ≤ (trV ps sg a way k).2.1 + (ps.getD k (0, 0, ())).2.1 * sg.getD (fMod (way * (a - k)) sg.length).toNat 0 ∧ (trV ps sg a way k).2.1 + (ps.getD k (0, 0, ())).2.1 * sg.getD (fMod (way * (a - k)) sg.length).toNat 0 ≤ _)
    omega

theorem fMod_in {m n : Int} (h : 0 < n) : 0 ≤ fMod m n ∧ fMod m n < n := ⟨Int.emod_nonneg _ (by omega), Int.emod_lt_of_pos _ h⟩

@[reducible] def sTurned : Spec := { pats := [.dat (.sl PairT), .dat (.sl I64), .dat I64, .dat I64], res := [{ t := PairT }], pre := fun x => List.length (α := IP) x.1 ≤ 1024 ∧ okL 16777216 x.1 ∧ (1 ≤ List.length (α := Int) x.2.1 ∧ List.length (α := Int) x.2.1 ≤ 1024) ∧ okS x.2.1 ∧ (0 ≤ x.2.2.1 ∧ x.2.2.1 ≤ (1024 : Int)) ∧ (x.2.2.2.1 = (1 : Int) ∨ x.2.2.2.1 = (-1 : Int)), f := fun x => (trV x.1 x.2.1 x.2.2.1 x.2.2.2.1 (List.length (α := IP) x.1), ()) }

/-- turned -/
theorem h96n : Ok 48 sTurned := by
  refine mk (ctr := [(68, sMod), (67, sBy), (37, sPlus)]) ⟨h109, h149, h122, trivial⟩ (nt := 36) Tryd.func48 rfl rfl rfl rfl (by kernel_rfl) (by kernel_rfl) (fun x => [fun _ => { σ := Nat, pat := fun k => [sI 14 k, .cell 9 0 (.d I64 (trV x.1 x.2.1 x.2.2.1 x.2.2.2.1 k).1), .cell 9 1 (.d I64 (trV x.1 x.2.1 x.2.2.1 x.2.2.2.1 k).2.1)], inv := fun k => k ≤ List.length (α := IP) x.1, meas := fun k => List.length (α := IP) x.1 - k }]) ?_
  rintro ⟨(ps : List IP), (sg : List Int), (a : Int), (way : Int), _⟩ ⟨(hl : ps.length ≤ 1024), (hp : okL 16777216 ps), ⟨(hs1 : 1 ≤ sg.length), (hs2 : sg.length ≤ 1024)⟩, (hs : okS sg), ⟨(ha : 0 ≤ a), (ha2 : a ≤ 1024)⟩, (hw : way = 1 ∨ way = -1)⟩
  have hwm : ∀ k : Nat, k < 1024 → -2000 ≤ way * (a - k) ∧ way * (a - k) ≤ 2000 := fun k hk => by
    rcases hw with rfl | rfl
    · rw [Int.one_mul]; omega
    · rw [Int.neg_mul, Int.one_mul]; omega
  repeat' (intro hzz; (try (rename Two => hq; cases hq)); (try dsimp only at hzz); (try simp only [resTy, argTy, eqD, inR, big, wantOf, Bool.not_true, Bool.not_false, Bool.true_eq, decide_eq_true_eq, decide_eq_false_iff_not, Bool.not_eq_true', Bool.not_eq_false', Bool.and_eq_true, Prod.mk.injEq, and_true, true_and, Int.not_lt, Int.not_le, gt_iff_lt, ge_iff_le] at hzz); (try simp only [resTy, argTy, eqD, inR, big, wantOf, Bool.not_true, Bool.not_false, Bool.true_eq, decide_eq_true_eq, decide_eq_false_iff_not, Bool.not_eq_true', Bool.not_eq_false', Bool.and_eq_true, Prod.mk.injEq, and_true, true_and, Int.not_lt, Int.not_le, gt_iff_lt, ge_iff_le, getD_p] at hzz); (try (first | contradiction | (exfalso; omega))); (try (revert hzz; intro _)))
  all_goals try (rename Unit => hq; clear hq)
  all_goals try ((with_reducible refine Held.mk ?_); (with_reducible (first | refine Frz.mk ?_ | refine And.intro (Frz.mk ?_) ?_ | refine And.intro ?_ (Frz.mk ?_))); repeat' first | exact True.intro | (change _ = _; with_reducible rfl) | refine And.intro ?_ ?_ | (with_reducible refine Frz.mk ?_))
  all_goals try (refine Held.mk ?_; (try dsimp only at *); (try simp only [resTy, argTy, eqD, inR, big, wantOf, Bool.not_true, Bool.not_false, Bool.true_eq, decide_eq_true_eq, decide_eq_false_iff_not, Bool.not_eq_true', Bool.not_eq_false', Bool.and_eq_true, Prod.mk.injEq, and_true, true_and, Int.not_lt, Int.not_le, gt_iff_lt, ge_iff_le] at *); (try simp only [resTy, argTy, eqD, inR, big, wantOf, Bool.not_true, Bool.not_false, Bool.true_eq, decide_eq_true_eq, decide_eq_false_iff_not, Bool.not_eq_true', Bool.not_eq_false', Bool.and_eq_true, Prod.mk.injEq, and_true, true_and, Int.not_lt, Int.not_le, gt_iff_lt, ge_iff_le, getD_p] at *))
  all_goals try omega
  · 
    refine GHeld.mk ?_
    refine Exists.intro 0 ?_
    refine And.intro (Leaf.mk ?_) ?_
    · repeat' first | exact True.intro | refine And.intro ?_ ?_
      all_goals try ((change _ = _ <;> try dsimp only) <;> try with_reducible rfl)
      all_goals try omega
      all_goals (rfl)
    exact Nat.zero_le _
  · rename_i k hk hlt
    have := hwm k (by omega)
    omega
  · exact ⟨(show (0 : Int) < sg.length by omega), (show (sg.length : Int) ≤ 2000000000000000000 by omega)⟩
  · exact fMod_in (by omega)
  · rename_i k hk hlt
    have hk := hp k
    have hsk := hs (fMod (way * (a - k)) sg.length).toNat
    exact ⟨by unfold okP; omega, by unfold okP; omega, (show okP (sg.getD (fMod (way * (a - k)) sg.length).toNat 0) by unfold okP; omega)⟩
  · rename_i k hk hlt
    have hk2 := hp k
    have hsk := hs (fMod (way * (a - k)) sg.length).toNat
    have b1 := by_in hk2.1.1 hk2.1.2 hsk.1 hsk.2
    have b2 := by_in hk2.2.1 hk2.2.2 hsk.1 hsk.2
    have hv := trV_in (a := a) (way := way) hp hs k
    exact ⟨by unfold okI; omega, by unfold okI; omega, (show okI ((ps.getD k (0, 0, ())).1 * sg.getD (fMod (way * (a - k)) sg.length).toNat 0) by unfold okI; omega), (show okI ((ps.getD k (0, 0, ())).2.1 * sg.getD (fMod (way * (a - k)) sg.length).toNat 0) by unfold okI; omega)⟩
  · rename_i k hk hlt
    refine GHeld.mk ?_
    refine Exists.intro (k + 1) ?_
    refine And.intro (Leaf.mk ?_) ?_
    · repeat' first | exact True.intro | refine And.intro ?_ ?_
      all_goals try ((change _ = _ <;> try dsimp only) <;> try with_reducible rfl)
      all_goals try omega
      all_goals (rfl)
    exact ⟨by show k + 1 ≤ ps.length; omega, by show ps.length - (k + 1) < ps.length - k; omega⟩
  · rename_i k hk hge
    rw [show k = ps.length by omega]
    exact ⟨rfl, rfl⟩

/-! ### The reference's -/

/-- The rows when the loops have come to t and k. -/
def gF (ps : List IP) (sg : List Int) (n : Nat) (t k i : Nat) : IP := if i < t then trV ps sg i 1 n else if i = t then trV ps sg i 1 k else (0, 0, ())
def gB (ps : List IP) (sg : List Int) (t k i : Nat) : IP := if i < k then trV ps sg i (-1) (t + 1) else trV ps sg i (-1) t

theorem gF_zero (ps : List IP) (sg : List Int) (n : Nat) : repl (n : Int) (0, 0, ()) = tab (gF ps sg n 0 0) n := by
  rw [repl_tab]
  refine tab_congr n fun i _ => ?_
  unfold gF
  rw [if_neg (by omega)]
  split <;> rfl
theorem gF_step {ps : List IP} {sg : List Int} {n t k : Nat} (ht : t < n) : (tab (gF ps sg n t k) n).set t (plusP ((tab (gF ps sg n t k) n).getD t (0, 0, ())) (byP (ps.getD k (0, 0, ())) (sgA sg ((t : Int) - k)))) = tab (gF ps sg n t (k + 1)) n := by
  rw [tab_set, tab_get _ _ _ _ ht]
  refine tab_congr n fun i _ => ?_
  unfold gF
  by_cases h : i = t
  · subst h
    rw [if_pos rfl, if_neg (by omega), if_pos rfl, if_neg (by omega), if_pos rfl]
    show _ = plusP (trV ps sg i 1 k) (byP (ps.getD k (0, 0, ())) (sgA sg (1 * ((i : Int) - k))))
    rw [Int.one_mul]
  · rw [if_neg h, if_neg h, if_neg h]
theorem gF_next (ps : List IP) (sg : List Int) (n t : Nat) : tab (gF ps sg n t n) n = tab (gF ps sg n (t + 1) 0) n := tab_congr n fun i _ => by
  unfold gF
  by_cases h : i = t
  · subst h; rw [if_neg (by omega), if_pos rfl, if_pos (by omega)]
  · by_cases h2 : i < t
    · rw [if_pos h2, if_pos (by omega)]
    · rw [if_neg h2, if_neg h, if_neg (by omega)]; split <;> rfl
theorem gF_all (ps : List IP) (sg : List Int) (n : Nat) : tab (gF ps sg n n 0) n = tab (fun i => trV ps sg i 1 n) n := tab_congr n fun i hi => by
  unfold gF; rw [if_pos hi]

theorem gB_zero (ps : List IP) (sg : List Int) (n : Nat) : repl (n : Int) (0, 0, ()) = tab (gB ps sg 0 0) n := by
  rw [repl_tab]
  refine tab_congr n fun i _ => ?_
  unfold gB
  rw [if_neg (by omega)]; rfl
theorem gB_step {ps : List IP} {sg : List Int} {n t k : Nat} (hk : k < n) : (tab (gB ps sg t k) n).set k (plusP ((tab (gB ps sg t k) n).getD k (0, 0, ())) (byP (ps.getD t (0, 0, ())) (sgA sg ((t : Int) - k)))) = tab (gB ps sg t (k + 1)) n := by
  rw [tab_set, tab_get _ _ _ _ hk]
  refine tab_congr n fun i _ => ?_
  unfold gB
  by_cases h : i = k
  · subst h
    rw [if_pos rfl, if_neg (by omega), if_pos (by omega)]
    show _ = plusP (trV ps sg i (-1) t) (byP (ps.getD t (0, 0, ())) (sgA sg (-1 * ((i : Int) - t))))
    rw [show -1 * ((i : Int) - t) = (t : Int) - i by omega]
  · rw [if_neg h]
    by_cases h2 : i < k
    · rw [if_pos h2, if_pos (by omega)]
    · rw [if_neg h2, if_neg (by omega)]
theorem gB_next (ps : List IP) (sg : List Int) (n t : Nat) : tab (gB ps sg t n) n = tab (gB ps sg (t + 1) 0) n := tab_congr n fun i hi => by
  unfold gB; rw [if_pos hi, if_neg (by omega)]
theorem gB_all (ps : List IP) (sg : List Int) (n : Nat) : tab (gB ps sg n 0) n = tab (fun i => trV ps sg i (-1) n) n := tab_congr n fun i hi => by
  unfold gB; rw [if_neg (by omega)]

theorem okL_tab {B : Int} {f : Nat → IP} {n : Nat} (hB : 0 ≤ B) (h : ∀ i, i < n → (-B ≤ (f i).1 ∧ (f i).1 ≤ B) ∧ (-B ≤ (f i).2.1 ∧ (f i).2.1 ≤ B)) : okL B (tab f n) := fun i => by
  by_cases hi : i < n
  · rw [tab_get _ _ _ _ hi]; exact h i hi
  · have : (tab f n).getD i (0, 0, ()) = (0, 0, ()) := by
      simp only [List.getD]
      rw [List.getElem?_eq_none (by rw [tab_len]; omega)]; rfl
    rw [this]
    exact ⟨⟨(show -B ≤ 0 by omega), hB⟩, ⟨(show -B ≤ 0 by omega), hB⟩⟩

theorem gF_ok {ps : List IP} {sg : List Int} {n t k : Nat} (h : okL 16777216 ps) (hs : okS sg) (hn : n ≤ 1024) (hk : k ≤ 1024) : okL 17179869184 (tab (gF ps sg n t k) n) := okL_tab (by omega) fun i _ => by
  unfold gF
  have a := trV_in (a := i) (way := 1) h hs n
  have b := trV_in (a := i) (way := 1) h hs k
  split
  · omega
  · split
    · omega
    · exact ⟨⟨by show (-17179869184 : Int) ≤ 0; omega, by show (0 : Int) ≤ 17179869184; omega⟩, ⟨by show (-17179869184 : Int) ≤ 0; omega, by show (0 : Int) ≤ 17179869184; omega⟩⟩
theorem gB_ok {ps : List IP} {sg : List Int} {n t k : Nat} (h : okL 16777216 ps) (hs : okS sg) (hn : t < 1024) : okL 17179869184 (tab (gB ps sg t k) n) := okL_tab (by omega) fun i _ => by
  unfold gB
  have a := trV_in (a := i) (way := -1) h hs (t + 1)
  have b := trV_in (a := i) (way := -1) h hs t
  split <;> omega

theorem set2_at {xs : List IP} {j : Nat} {v : Int} (h : j < xs.length) : ((xs.set j (setI PairT (xs.getD j (Ty.dflt PairT)) (0 * i3.size) v)).getD j (Ty.dflt PairT)).2.1 = (xs.getD j (0, 0, ())).2.1 :=
  (congrArg (fun z : IP => z.2.1) (getD_set_self (xs := xs) (j := j) (v := setI PairT (xs.getD j (Ty.dflt PairT)) (0 * i3.size) v) (d := (0, 0, ())) h)).trans rfl

theorem lt_repl {α : Type} {n t : Nat} {x : α} (h : t < n) : 0 ≤ (t : Int) ∧ (t : Int) < ((repl (n : Int) x).length : Int) := by
  rw [repl_len]; omega
theorem rep_len {α : Type} (n : Nat) (x : α) : (repl (n : Int) x).length = n := by rw [repl_len]; omega

@[reducible] def sRTurnF : Spec := { pats := [.dat (.sl PairT), .dat (.sl I64), .dat .bool], res := [{ own := some 37, t := .sl PairT }], pre := fun x => (List.length (α := IP) x.1 = List.length (α := Int) x.2.1 ∧ List.length (α := Int) x.2.1 ≤ 1024) ∧ okL 16777216 x.1 ∧ okS x.2.1 ∧ x.2.2.1 = false, f := fun x => (tab (fun i => trV x.1 x.2.1 i 1 (List.length (α := Int) x.2.1)) (List.length (α := Int) x.2.1), ()) }

@[reducible] def sRTurnB : Spec := { pats := [.dat (.sl PairT), .dat (.sl I64), .dat .bool], res := [{ own := some 37, t := .sl PairT }], pre := fun x => (List.length (α := IP) x.1 = List.length (α := Int) x.2.1 ∧ List.length (α := Int) x.2.1 ≤ 1024) ∧ okL 16777216 x.1 ∧ okS x.2.1 ∧ x.2.2.1 = true, f := fun x => (tab (fun i => trV x.1 x.2.1 i (-1) (List.length (α := Int) x.2.1)) (List.length (α := Int) x.2.1), ()) }

end Go.Eng.Pu

namespace Go.Eng.Pu
open Go.Eng Go.Proofs
set_option linter.all false
set_option maxRecDepth 100000
set_option maxHeartbeats 8000000

def eqAt (xs ys : List Int) : Nat → Nat → Bool
  | 0, _ => true
  | k + 1, i => if xs.getD i 0 = ys.getD i 0 then eqAt xs ys k (i + 1) else false

theorem eqAt_step {xs ys : List Int} {n i : Nat} (h : i < n) : eqAt xs ys (n - i) i = if xs.getD i 0 = ys.getD i 0 then eqAt xs ys (n - (i + 1)) (i + 1) else false := by
  obtain ⟨k, hk⟩ : ∃ k, n - i = k + 1 := ⟨n - i - 1, by omega⟩
  rw [hk, show n - (i + 1) = k from by omega]
  rfl

theorem eqAt_iff {xs ys : List Int} : ∀ (k i : Nat), eqAt xs ys k i = true ↔ ∀ j, i ≤ j → j < i + k → xs.getD j 0 = ys.getD j 0
  | 0, i => by simp [eqAt]; omega
  | k + 1, i => by
    simp only [eqAt]
    split
    · rename_i h
      rw [eqAt_iff k (i + 1)]
      constructor
      · intro H j h1 h2
        by_cases hj : j = i
        · subst hj; exact h
        · exact H j (by omega) (by omega)
      · intro H j h1 h2
        exact H j (by omega) (by omega)
    · rename_i h
      constructor
      · intro hf; cases hf
      · intro H; exact absurd (H i (Nat.le_refl _) (by omega)) h

theorem eqAt_list {xs ys : List Int} (h : xs.length = ys.length) : eqAt xs ys xs.length 0 = decide (xs = ys) := by
  rw [Bool.eq_iff_iff, eqAt_iff, decide_eq_true_eq]
  constructor
  · intro H
    apply List.ext_getElem h
    intro i h1 h2
    have := H i (by omega) (by omega)
    simpa [List.getD, List.getElem?_eq_getElem h1, List.getElem?_eq_getElem h2] using this
  · rintro rfl j _ _; rfl

@[reducible] def sInts : Spec := { pats := [.dat (.sl I64), .dat (.sl I64)], res := [{ t := .bool }], pre := fun x => pLen (List.length (α := Int) x.1) ∧ pLen (List.length (α := Int) x.2.1), f := fun x => (decide ((show List Int from x.1) = x.2.1), ()) }

/-- base.Ints -/
theorem h26 : Ok 27 sInts := by
  refine mk (ctr := []) trivial (nt := 26) Tryd.func27 rfl rfl rfl rfl (by kernel_rfl) (by kernel_rfl) (fun x => [fun _ => { σ := Nat, pat := fun k => [sI 5 k], inv := fun k => k ≤ List.length (α := Int) x.1 ∧ eqAt x.1 x.2.1 (List.length (α := Int) x.1 - k) k = eqAt x.1 x.2.1 (List.length (α := Int) x.1) 0, meas := fun k => List.length (α := Int) x.1 - k }]) ?_
  rintro ⟨(xs : List Int), (ys : List Int), _⟩ ⟨(h1 : pLen xs.length), (h2 : pLen ys.length)⟩
  have := h1.out
  have := h2.out
  repeat' (intro hzz; (try (rename Two => hq; cases hq)); (try dsimp only at hzz); (try simp only [resTy, argTy, eqD, inR, big, wantOf, Bool.not_true, Bool.not_false, Bool.true_eq, decide_eq_true_eq, decide_eq_false_iff_not, Bool.not_eq_true', Bool.not_eq_false', Bool.and_eq_true, Prod.mk.injEq, and_true, true_and, Int.not_lt, Int.not_le, gt_iff_lt, ge_iff_le] at hzz); (try simp only [resTy, argTy, eqD, inR, big, wantOf, Bool.not_true, Bool.not_false, Bool.true_eq, decide_eq_true_eq, decide_eq_false_iff_not, Bool.not_eq_true', Bool.not_eq_false', Bool.and_eq_true, Prod.mk.injEq, and_true, true_and, Int.not_lt, Int.not_le, gt_iff_lt, ge_iff_le, getD_i] at hzz); (try (first | contradiction | (exfalso; omega))); (try (revert hzz; intro _)))
  all_goals try (rename Unit => hq; clear hq)
  all_goals try ((with_reducible refine Held.mk ?_); (with_reducible (first | refine Frz.mk ?_ | refine And.intro (Frz.mk ?_) ?_ | refine And.intro ?_ (Frz.mk ?_))); repeat' first | exact True.intro | (change _ = _; with_reducible rfl) | refine And.intro ?_ ?_ | (with_reducible refine Frz.mk ?_))
  all_goals try (refine Held.mk ?_; (try dsimp only at *); (try simp only [resTy, argTy, eqD, inR, big, wantOf, Bool.not_true, Bool.not_false, Bool.true_eq, decide_eq_true_eq, decide_eq_false_iff_not, Bool.not_eq_true', Bool.not_eq_false', Bool.and_eq_true, Prod.mk.injEq, and_true, true_and, Int.not_lt, Int.not_le, gt_iff_lt, ge_iff_le] at *); (try simp only [resTy, argTy, eqD, inR, big, wantOf, Bool.not_true, Bool.not_false, Bool.true_eq, decide_eq_true_eq, decide_eq_false_iff_not, Bool.not_eq_true', Bool.not_eq_false', Bool.and_eq_true, Prod.mk.injEq, and_true, true_and, Int.not_lt, Int.not_le, gt_iff_lt, ge_iff_le, getD_i] at *))
  all_goals try omega
  · rename_i h
    symm
    rw [decide_eq_false_iff_not]
    rintro rfl
    exact h rfl
  · rename_i h
    refine GHeld.mk ?_
    refine Exists.intro 0 ?_
    refine And.intro (Leaf.mk ?_) ?_
    · repeat' first | exact True.intro | refine And.intro ?_ ?_
      all_goals try ((change _ = _ <;> try dsimp only) <;> try with_reducible rfl)
      all_goals try omega
    exact ⟨Nat.zero_le _, rfl⟩
  · rename_i h k hk hg h'
    have e := hk.2
    rw [eqAt_step (by omega), if_neg h', eqAt_list (by omega)] at e
    exact e
  · rename_i h k hk hg h'
    have e := hk.2
    rw [eqAt_step (by omega), if_pos h'] at e
    refine GHeld.mk ?_
    refine Exists.intro (k + 1) ?_
    refine And.intro (Leaf.mk ?_) ?_
    · repeat' first | exact True.intro | refine And.intro ?_ ?_
      all_goals try ((change _ = _ <;> try dsimp only) <;> try with_reducible rfl)
      all_goals try omega
    exact ⟨⟨by show k + 1 ≤ xs.length; omega, e⟩, by show xs.length - (k + 1) < xs.length - k; omega⟩
  · rename_i h k hk hg
    have e := hk.2
    rw [show xs.length - k = 0 from by omega, eqAt_list (by omega)] at e
    exact of_decide_eq_true e.symm

@[reducible] def sAwake : Spec := { pats := [], res := [{ t := .bool }], pre := fun _ => True, f := fun _ => (true, ()) }

/-- awake -/
theorem h17 : Ok 6 sAwake := by
  refine mkX (X := xF4) (hX := xF4_ok) (ctr := [(23, sTwo), (22, sPBits), (24, sListC), (18, sExcC), (25, sFirstC), (26, sTrfC), (27, sInts), (9, sSamesC)]) ⟨h82, h18, h30c, h31c, h62c, h35c, h26, h34c, trivial⟩ (nt := 79) Tryd.func6 rfl rfl rfl rfl (by kernel_rfl) (by kernel_rfl) (fun _ => []) ?_
  rintro ⟨⟩ _
  (try (rename Two => hq; cases hq))
  repeat' (intro hzz; (try (rename Two => hq; cases hq)); (try (first | exact absurd hzz (by decide) | exact absurd hzz (by decide +kernel))); (try (revert hzz; intro _)))
  all_goals (try (rename Unit => hq; clear hq))
  all_goals (with_reducible refine Held.mk ?_)
  all_goals (repeat' first | exact True.intro | (with_reducible refine Frz.mk ?_) | refine And.intro ?_ ?_ | (change _ = _; kernel_rfl) | decide | decide +kernel)

end Go.Eng.Pu
