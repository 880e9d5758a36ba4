/- Contracts of the reference: bits, next state, period. Conditions: the register is right, the start a state. -/
import Derived.Test.YtcoimlnplaidiaaDoorQ9
namespace Go.Eng.Pu
open Go.Eng Go.Proofs
set_option linter.all false
set_option maxRecDepth 100000
set_option maxHeartbeats 8000000

abbrev sOwn (t k el : Nat) (xs : List Int) : St := [.slot t (.one (.o k xs.length)), .row k el I64 xs]

@[reducible] def sRBits : Spec := { pats := [.dat Reg0, .dat I64, .dat I64], res := [{ own := some 3, t := .sl I64 }], pre := fun x => pSt x.1.1 x.1.2.1 x.2.1 ∧ 0 ≤ x.2.2.1 ∧ x.2.2.1 ≤ (1024 : Int), f := fun x => (tab (bitI x.1.1 x.1.2.1 x.2.1) (Int.toNat x.2.2.1), ()) }

/-- The start, as it is when k bits are made. -/
def shS (L s : Int) (k : Nat) : Int := s / 2 ^ min k L.toNat

theorem shS_in {L s : Int} (h : 0 ≤ s) (k : Nat) : 0 ≤ shS L s k ∧ shS L s k ≤ s :=
  ⟨Int.ediv_nonneg h (Int.pow_nonneg (by omega)), Int.ediv_le_self _ h⟩

theorem shS_bit {L : Int} {xs : List Int} {s : Int} (h : pSt L xs s) {k : Nat} (hk : (k : Int) < L) : (shS L s k).tmod 2 = bitI L xs s k := by
  have := (shS_in (L := L) h.2.2.1 k).1
  rw [Int.tmod_eq_emod_of_nonneg this, bit_head h hk, shS, Nat.min_eq_left (by omega)]

theorem shS_step {L : Int} {s : Int} (h : 0 ≤ s) {k : Nat} (hk : (k : Int) < L) : (shS L s k).tdiv 2 = shS L s (k + 1) := by
  have := (shS_in (L := L) h k).1
  rw [Int.tdiv_eq_ediv_of_nonneg this, shS, shS, Nat.min_eq_left (by omega), Nat.min_eq_left (by omega), Int.ediv_ediv_of_nonneg (Int.pow_nonneg (by omega)), Int.pow_succ]

theorem shS_stay {L : Int} {s : Int} {k : Nat} (hk : L ≤ (k : Int)) : shS L s k = shS L s (k + 1) := by
  rw [shS, shS, Nat.min_eq_right (by omega), Nat.min_eq_right (by omega)]

theorem tapSum_in (L : Int) (xs : List Int) (s : Int) (t : Nat) : ∀ j : Nat, 0 ≤ tapSum L xs s t j ∧ tapSum L xs s t j ≤ j
  | 0 => by simp [tapSum, sm]
  | j + 1 => by
    have ih := tapSum_in L xs s t j
    have := bit_01 (L := L) (xs := xs) (s := s) (t - (xs.getD j 0).toNat)
    have e : tapSum L xs s t (j + 1) = tapSum L xs s t j + bitI L xs s (t - (xs.getD j 0).toNat) := rfl
    rw [e]; omega

theorem tab_at {L : Int} {xs : List Int} {s x : Int} {t : Nat} (h1 : 1 ≤ x) (h2 : x ≤ t) : (tab (bitI L xs s) t).getD ((t : Int) - x).toNat (Ty.dflt I64) = bitI L xs s (t - x.toNat) := by
  rw [show ((t : Int) - x).toNat = t - x.toNat from by omega]
  exact tab_get _ _ _ _ (by omega)

/-- ref.Bits -/
theorem h27 : Ok 86 sRBits := by
  refine mk (ctr := []) trivial (nt := 52) Tryd.func86 rfl rfl rfl rfl (by kernel_rfl) (by kernel_rfl) (fun x => [fun _ => { σ := Nat, pat := fun k => [sI 8 k, sI 1 (shS x.1.1 x.2.1 k)] ++ sOwn 7 60007 3 (tab (bitI x.1.1 x.1.2.1 x.2.1) k), inv := fun k => (k : Int) ≤ x.2.2.1, meas := fun k => Int.toNat x.2.2.1 - k }, fun st => withI 8 st fun t => { σ := Nat, pat := fun j => [sI 10 j, sI 9 (tapSum x.1.1 x.1.2.1 x.2.1 t.toNat j)], inv := fun j => j ≤ List.length (α := Int) x.1.2.1, meas := fun j => List.length (α := Int) x.1.2.1 - j }]) ?_
  rintro ⟨⟨(L : Int), (xs : List Int), _⟩, (s : Int), (n : Int), _⟩ ⟨(hp : pSt L xs s), (h0 : 0 ≤ n), (h1 : n ≤ 1024)⟩
  obtain ⟨hL, hlen, hz, hlast⟩ := chk_zero hp.1
  have hz := regE_zero hz
  have := hp.2.1.out
  have hs := hp.2.2
  have hP := P2_in hL
  repeat' (intro hzz; (try (rename Two => hq; cases hq)); (try dsimp only at hzz); (try simp only [resTy, argTy, eqD, inR, big, wantOf, Bool.not_true, Bool.not_false, Bool.true_eq, decide_eq_true_eq, decide_eq_false_iff_not, Bool.not_eq_true', Bool.not_eq_false', Bool.and_eq_true, Prod.mk.injEq, and_true, true_and, Int.not_lt, Int.not_le, gt_iff_lt, ge_iff_le] at hzz); (try simp only [resTy, argTy, eqD, inR, big, wantOf, Bool.not_true, Bool.not_false, Bool.true_eq, decide_eq_true_eq, decide_eq_false_iff_not, Bool.not_eq_true', Bool.not_eq_false', Bool.and_eq_true, Prod.mk.injEq, and_true, true_and, Int.not_lt, Int.not_le, gt_iff_lt, ge_iff_le, tab_len, getD_i] at hzz); (try (first | contradiction | (exfalso; omega))); (try (revert hzz; intro _)))
  all_goals try (rename Unit => hq; clear hq)
  all_goals try ((with_reducible refine Held.mk ?_); (with_reducible (first | refine Frz.mk ?_ | refine And.intro (Frz.mk ?_) ?_ | refine And.intro ?_ (Frz.mk ?_))); repeat' first | exact True.intro | (change _ = _; with_reducible rfl) | refine And.intro ?_ ?_ | (with_reducible refine Frz.mk ?_))
  all_goals try (refine Held.mk ?_; (try dsimp only at *); (try simp only [resTy, argTy, eqD, inR, big, wantOf, Bool.not_true, Bool.not_false, Bool.true_eq, decide_eq_true_eq, decide_eq_false_iff_not, Bool.not_eq_true', Bool.not_eq_false', Bool.and_eq_true, Prod.mk.injEq, and_true, true_and, Int.not_lt, Int.not_le, gt_iff_lt, ge_iff_le] at *); (try simp only [resTy, argTy, eqD, inR, big, wantOf, Bool.not_true, Bool.not_false, Bool.true_eq, decide_eq_true_eq, decide_eq_false_iff_not, Bool.not_eq_true', Bool.not_eq_false', Bool.and_eq_true, Prod.mk.injEq, and_true, true_and, Int.not_lt, Int.not_le, gt_iff_lt, ge_iff_le, tab_len, getD_i] at *))
  all_goals try omega
  · 
    refine GHeld.mk ?_
    refine Exists.intro 0 ?_
    refine And.intro (Leaf.mk ?_) ?_
    · repeat' first | exact True.intro | refine And.intro ?_ ?_
      all_goals try ((change _ = _ <;> try dsimp only) <;> try with_reducible rfl)
      all_goals try omega
      all_goals (first | rfl | (show s = s / 2 ^ min 0 L.toNat; rw [Nat.min_eq_left (Nat.zero_le _), Int.pow_zero, Int.ediv_one]))
    exact h0
  · show _ + 1 ≤ 2147483648
    omega
  · rename_i k hk hg h
    have := shS_in (L := L) hs.1 k
    rw [shS_step hs.1 h]
    have := shS_in (L := L) hs.1 (k + 1)
    omega
  · rename_i k hk hg h
    have e1 : tab (bitI L xs s) k ++ [(shS L s k).tmod 2] = tab (bitI L xs s) (k + 1) := by rw [shS_bit hp h]; rfl
    have e2 := shS_step hs.1 h
    rw [e1]
    refine GHeld.mk ?_
    refine Exists.intro (k + 1) ?_
    refine And.intro (Leaf.mk ?_) ?_
    · repeat' first | exact True.intro | refine And.intro ?_ ?_
      all_goals try ((change _ = _ <;> try dsimp only) <;> try with_reducible rfl)
      all_goals try omega
      all_goals (first | rfl | exact e2 | (rw [tab_len]; rfl))
    exact ⟨by show ((k + 1 : Nat) : Int) ≤ n; omega, by show n.toNat - (k + 1) < n.toNat - k; omega⟩
  · rename_i k hk hg h
    refine GHeld.mk ?_
    refine Exists.intro 0 ?_
    refine And.intro (Leaf.mk ?_) ?_
    · repeat' first | exact True.intro | refine And.intro ?_ ?_
      all_goals try ((change _ = _ <;> try dsimp only) <;> try with_reducible rfl)
      all_goals try omega
      all_goals (rfl)
    exact Nat.zero_le _
  · rename_i k hk hg h j hj hg'
    have := hz j (by omega) (by omega)
    omega
  · rename_i k hk hg h j hj hg'
    have := hz j (by omega) (by omega)
    omega
  · rename_i k hk hg h j hj hg'
    have := hz j (by omega) (by omega)
    omega
  · rename_i k hk hg h j hj hg'
    have h3 := hz j (by omega) (by omega)
    rw [tab_at h3.1 (by omega)]
    have := tapSum_in L xs s (k : Int).toNat j
    have := bit_01 (L := L) (xs := xs) (s := s) (k - (xs.getD j 0).toNat)
    omega
  · rename_i k hk hg h j hj hg'
    have h3 := hz j (by omega) (by omega)
    have e : tapSum L xs s (k : Int).toNat j + (tab (bitI L xs s) k).getD ((k : Int) - xs.getD j 0).toNat (Ty.dflt I64) = tapSum L xs s (k : Int).toNat (j + 1) := by
      rw [tab_at h3.1 (by omega)]; rfl
    refine GHeld.mk ?_
    refine Exists.intro (j + 1) ?_
    refine And.intro (Leaf.mk ?_) ?_
    · repeat' first | exact True.intro | refine And.intro ?_ ?_
      all_goals try ((change _ = _ <;> try dsimp only) <;> try with_reducible rfl)
      all_goals try omega
      all_goals (exact e)
    exact ⟨by show j + 1 ≤ xs.length; omega, by show xs.length - (j + 1) < xs.length - j; omega⟩
  · show _ + 1 ≤ 2147483648
    omega
  · rename_i k hk hg h j hj hg'
    have hj : j = xs.length := by omega
    subst hj
    have e0 : (tapSum L xs s (k : Int).toNat xs.length).tmod 2 = bitI L xs s k := by
      rw [Int.tmod_eq_emod_of_nonneg (tapSum_in L xs s _ _).1, bit_tail hp h]; rfl
    have e1 : tab (bitI L xs s) k ++ [(tapSum L xs s (k : Int).toNat xs.length).tmod 2] = tab (bitI L xs s) (k + 1) := by rw [e0]; rfl
    have e2 := shS_stay (L := L) (s := s) h
    rw [e1]
    refine GHeld.mk ?_
    refine Exists.intro (k + 1) ?_
    refine And.intro (Leaf.mk ?_) ?_
    · repeat' first | exact True.intro | refine And.intro ?_ ?_
      all_goals try ((change _ = _ <;> try dsimp only) <;> try with_reducible rfl)
      all_goals try omega
      all_goals (first | rfl | exact e2 | (rw [tab_len]; rfl))
    exact ⟨by show ((k + 1 : Nat) : Int) ≤ n; omega, by show n.toNat - (k + 1) < n.toNat - k; omega⟩
  · rename_i k hk hg
    rw [show n.toNat = k from by omega]

@[reducible] def sRNext : Spec := { pats := [.dat Reg0, .dat I64], res := [{ t := I64 }], pre := fun x => pSt x.1.1 x.1.2.1 x.2.1, f := fun x => (nxt x.1.1 x.1.2.1 x.2.1, ()) }

/-- ref.Next -/
theorem h90 : Ok 79 sRNext := by
  refine mk (ctr := [(86, sRBits)]) ⟨h27, trivial⟩ (nt := 28) Tryd.func79 rfl rfl rfl rfl (by kernel_rfl) (by kernel_rfl) (fun x => [fun _ => { σ := Nat, pat := fun k => [sI 7 k, sI 6 (nxt x.1.1 x.1.2.1 x.2.1 / 2 ^ k)], inv := fun k => (k : Int) ≤ x.1.1, meas := fun k => k }]) ?_
  rintro ⟨⟨(L : Int), (xs : List Int), _⟩, (s : Int), _⟩ (hp : pSt L xs s)
  have hL := (chk_zero hp.1).1
  have hP := P2_in hL
  have hn : 0 ≤ nxt L xs s ∧ nxt L xs s < P2 L := (stI_pSt hp 1).2.2
  have hle : ∀ k : Nat, 0 ≤ nxt L xs s / 2 ^ k ∧ nxt L xs s / 2 ^ k ≤ nxt L xs s := fun k => ⟨Int.ediv_nonneg hn.1 (Int.pow_nonneg (by omega)), Int.ediv_le_self _ hn.1⟩
  have hget : ∀ k : Nat, (k : Int) ≤ L → (tab (bitI L xs s) (L + 1).toNat).getD k 0 = bitI L xs s k := fun k hk => tab_get _ _ _ _ (by omega)
  have hstep : ∀ k : Nat, 1 ≤ (k : Int) → (k : Int) ≤ L → 2 * (nxt L xs s / 2 ^ k) + bitI L xs s k = nxt L xs s / 2 ^ (k - 1) := by
    intro k h1 h2
    obtain ⟨m, rfl⟩ : ∃ m, k = m + 1 := ⟨k - 1, by omega⟩
    have h3 := st_bit hp m 1 (by omega)
    rw [show 1 + m = m + 1 from by omega] at h3
    have h3 : nxt L xs s / 2 ^ m % 2 = bitI L xs s (m + 1) := h3
    rw [Nat.add_sub_cancel, Int.pow_succ, ← Int.ediv_ediv_of_nonneg (Int.pow_nonneg (by omega)), ← h3]
    omega
  repeat' (intro hzz; (try (rename Two => hq; cases hq)); (try dsimp only at hzz); (try simp only [resTy, argTy, eqD, inR, big, wantOf, Bool.not_true, Bool.not_false, Bool.true_eq, decide_eq_true_eq, decide_eq_false_iff_not, Bool.not_eq_true', Bool.not_eq_false', Bool.and_eq_true, Prod.mk.injEq, and_true, true_and, Int.not_lt, Int.not_le, gt_iff_lt, ge_iff_le] at hzz); (try simp only [resTy, argTy, eqD, inR, big, wantOf, Bool.not_true, Bool.not_false, Bool.true_eq, decide_eq_true_eq, decide_eq_false_iff_not, Bool.not_eq_true', Bool.not_eq_false', Bool.and_eq_true, Prod.mk.injEq, and_true, true_and, Int.not_lt, Int.not_le, gt_iff_lt, ge_iff_le, tab_len, getD_i] at hzz); (try (first | contradiction | (exfalso; omega))); (try (revert hzz; intro _)))
  all_goals try (rename Unit => hq; clear hq)
  all_goals try ((with_reducible refine Held.mk ?_); (with_reducible (first | refine Frz.mk ?_ | refine And.intro (Frz.mk ?_) ?_ | refine And.intro ?_ (Frz.mk ?_))); repeat' first | exact True.intro | (change _ = _; with_reducible rfl) | refine And.intro ?_ ?_ | (with_reducible refine Frz.mk ?_))
  all_goals try (refine Held.mk ?_; (try dsimp only at *); (try simp only [resTy, argTy, eqD, inR, big, wantOf, Bool.not_true, Bool.not_false, Bool.true_eq, decide_eq_true_eq, decide_eq_false_iff_not, Bool.not_eq_true', Bool.not_eq_false', Bool.and_eq_true, Prod.mk.injEq, and_true, true_and, Int.not_lt, Int.not_le, gt_iff_lt, ge_iff_le] at *); (try simp only [resTy, argTy, eqD, inR, big, wantOf, Bool.not_true, Bool.not_false, Bool.true_eq, decide_eq_true_eq, decide_eq_false_iff_not, Bool.not_eq_true', Bool.not_eq_false', Bool.and_eq_true, Prod.mk.injEq, and_true, true_and, Int.not_lt, Int.not_le, gt_iff_lt, ge_iff_le, tab_len, getD_i] at *))
  all_goals try omega
  · exact ⟨hp, (show (0 : Int) ≤ L + 1 by omega), (show L + 1 ≤ (1024 : Int) by omega)⟩
  · have e0 : nxt L xs s / 2 ^ L.toNat = 0 := Int.ediv_eq_zero_of_lt hn.1 hn.2
    have e1 : (L.toNat : Int) = L := Int.toNat_of_nonneg (by omega)
    refine GHeld.mk ?_
    refine Exists.intro L.toNat ?_
    refine And.intro (Leaf.mk ?_) ?_
    · repeat' first | exact True.intro | refine And.intro ?_ ?_
      all_goals try ((change _ = _ <;> try dsimp only) <;> try with_reducible rfl)
      all_goals try omega
      all_goals (first | exact e0.symm | exact e1.symm)
    show (L.toNat : Int) ≤ L
    omega
  · rename_i k hk hg
    have := hle k
    omega
  · rename_i k hk hg
    have := hle k
    have := bit_01 (L := L) (xs := xs) (s := s) k
    rw [hget k hk]
    omega
  · rename_i k hk hg
    have e := hstep k hg hk
    rw [← hget k hk] at e
    obtain ⟨m, hm⟩ : ∃ m, k = m + 1 := ⟨k - 1, by omega⟩
    subst hm
    rw [Nat.add_sub_cancel] at e
    refine GHeld.mk ?_
    refine Exists.intro m ?_
    refine And.intro (Leaf.mk ?_) ?_
    · repeat' first | exact True.intro | refine And.intro ?_ ?_
      all_goals try ((change _ = _ <;> try dsimp only) <;> try with_reducible rfl)
      all_goals try omega
      all_goals (first | exact e | (show ((m + 1 : Nat) : Int) - 1 = m; omega))
    exact ⟨by show (m : Int) ≤ L; omega, by show m < m + 1; omega⟩
  · rename_i k hk hg
    have hk0 : k = 0 := by omega
    subst hk0
    rw [Int.pow_zero, Int.ediv_one]

@[reducible] def sRPer : Spec := { pats := [.dat Reg0, .dat I64], res := [{ t := I64 }], pre := fun x => pSt x.1.1 x.1.2.1 x.2.1, f := fun x => ((per x.1.1 x.1.2.1 x.2.1 : Int), ()) }

/-- ref.Period -/
theorem h24 : Ok 62 sRPer := by
  refine mk (ctr := [(79, sRNext)]) ⟨h90, trivial⟩ (nt := 19) Tryd.func62 rfl rfl rfl rfl (by kernel_rfl) (by kernel_rfl) (fun x => [fun _ => { σ := Nat, pat := fun k => [sI 5 (k + 1 : Int), sI 6 (stI x.1.1 x.1.2.1 x.2.1 (k + 1))], inv := fun k => nyet x.1.1 x.1.2.1 x.2.1 k, meas := fun k => per x.1.1 x.1.2.1 x.2.1 - k }]) ?_
  rintro ⟨⟨(L : Int), (xs : List Int), _⟩, (s : Int), _⟩ (hp : pSt L xs s)
  have hper := per_spec hp
  have hP := P2_in (chk_zero hp.1).1
  repeat' (intro hzz; (try (rename Two => hq; cases hq)); (try dsimp only at hzz); (try simp only [resTy, argTy, eqD, inR, big, wantOf, Bool.not_true, Bool.not_false, Bool.true_eq, decide_eq_true_eq, decide_eq_false_iff_not, Bool.not_eq_true', Bool.not_eq_false', Bool.and_eq_true, Prod.mk.injEq, and_true, true_and, Int.not_lt, Int.not_le, gt_iff_lt, ge_iff_le] at hzz); (try (first | contradiction | (exfalso; omega))); (try (revert hzz; intro _)))
  all_goals try (rename Unit => hq; clear hq)
  all_goals try ((with_reducible refine Held.mk ?_); (with_reducible (first | refine Frz.mk ?_ | refine And.intro (Frz.mk ?_) ?_ | refine And.intro ?_ (Frz.mk ?_))); repeat' first | exact True.intro | (change _ = _; with_reducible rfl) | refine And.intro ?_ ?_ | (with_reducible refine Frz.mk ?_))
  all_goals try (refine Held.mk ?_; (try dsimp only at *); (try simp only [resTy, argTy, eqD, inR, big, wantOf, Bool.not_true, Bool.not_false, Bool.true_eq, decide_eq_true_eq, decide_eq_false_iff_not, Bool.not_eq_true', Bool.not_eq_false', Bool.and_eq_true, Prod.mk.injEq, and_true, true_and, Int.not_lt, Int.not_le, gt_iff_lt, ge_iff_le] at *))
  all_goals try omega
  · 
    refine GHeld.mk ?_
    refine Exists.intro 0 ?_
    refine And.intro (Leaf.mk ?_) ?_
    · repeat' first | exact True.intro | refine And.intro ?_ ?_
      all_goals try ((change _ = _ <;> try dsimp only) <;> try with_reducible rfl)
      all_goals try omega
      all_goals (rfl)
    exact fun m h1 h2 => by omega
  · rename_i k hk h
    have := nyet_lt hp hk
    omega
  · rename_i k hk h
    exact stI_pSt hp (k + 1)
  · rename_i k hk h
    have hlt := nyet_lt hp hk
    refine GHeld.mk ?_
    refine Exists.intro (k + 1) ?_
    refine And.intro (Leaf.mk ?_) ?_
    · repeat' first | exact True.intro | refine And.intro ?_ ?_
      all_goals try ((change _ = _ <;> try dsimp only) <;> try with_reducible rfl)
      all_goals try omega
      all_goals (rfl)
    have hn : nyet L xs s (k + 1) := fun m h1 h2 => by
      by_cases hm : m = k + 1
      · subst hm; exact h
      · exact hk m h1 (by omega)
    exact ⟨hn, by show per L xs s - (k + 1) < per L xs s - k; omega⟩
  · rename_i k hk h
    have := nyet_per hp hk h
    omega

end Go.Eng.Pu
