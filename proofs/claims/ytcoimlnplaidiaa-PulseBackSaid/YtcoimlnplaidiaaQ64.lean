/- Fields of the periods of registers are there; what is excited, unfolded by transforms. Plain laws. Conditions: each lemma's own. -/
import Derived.Test.YtcoimlnplaidiaaQ63
import Derived.Test.YtcoimlnplaidiaaQ38
namespace Go.Eng.Pu
open Go.Eng Go.Proofs
set_option linter.all false
set_option maxRecDepth 100000

/-! ### Primes, by trial -/

/-- No one of the 2 ^ k numbers from d on divides n. -/
def ckP (n : Nat) : Nat → Nat → Bool
  | d, 0 => n % d != 0
  | d, k + 1 => ckP n d k && ckP n (d + 2 ^ k) k

theorem ckP_all {n : Nat} : ∀ {k d : Nat}, ckP n d k = true → ∀ e, d ≤ e → e < d + 2 ^ k → n % e ≠ 0
  | 0, d, h, e, h1, h2 => by
    have : e = d := by omega
    rw [this]
    simpa [ckP] using h
  | k + 1, d, h, e, h1, h2 => by
    unfold ckP at h
    rw [Bool.and_eq_true] at h
    rw [Nat.pow_succ] at h2
    by_cases he : e < d + 2 ^ k
    · exact ckP_all h.1 e h1 he
    · exact ckP_all h.2 e (by omega) (by omega)

theorem pr_of {n : Nat} (h2 : 2 ≤ n) (k : Nat) (hn : n < (2 ^ k + 2) * (2 ^ k + 2)) (h : ckP n 2 k = true) : Pr (n : Int) := tr_pr (by omega) fun d hd hdd => by
  obtain ⟨e, rfl⟩ : ∃ e : Nat, d = (e : Int) := ⟨d.toNat, by omega⟩
  have h3 : e * e ≤ n := by
    have : ((e * e : Nat) : Int) ≤ n := by rw [Int.natCast_mul]; exact hdd
    omega
  have h4 : e < 2 ^ k + 2 := by
    rcases Nat.lt_or_ge e (2 ^ k + 2) with h | h
    · exact h
    · have := Nat.mul_le_mul h h; omega
  have := ckP_all h e (by omega) (by omega)
  intro hz
  apply this
  rw [← Int.natCast_emod] at hz
  exact Int.ofNat_inj.1 hz

theorem primes_big : ckP 1000000009 2 15 = true ∧ ckP 1000000021 2 15 = true ∧ ckP 1000001969 2 15 = true ∧ ckP 1000000033 2 15 = true ∧ ckP 1000000861 2 15 = true := by decide +kernel
theorem primes_mid : ckP 16000057 2 12 = true ∧ ckP 16000097 2 12 = true ∧ ckP 16000081 2 12 = true ∧ ckP 16000403 2 12 = true := by decide +kernel

theorem most_val {L : Int} (h : 2 ≤ L ∧ L ≤ 8) : most L = 3 ∨ most L = 7 ∨ most L = 15 ∨ most L = 31 ∨ most L = 63 ∨ most L = 127 ∨ most L = 255 := by
  have : L = 2 ∨ L = 3 ∨ L = 4 ∨ L = 5 ∨ L = 6 ∨ L = 7 ∨ L = 8 := by omega
  rcases this with rfl | rfl | rfl | rfl | rfl | rfl | rfl <;> decide

theorem most_val5 {L : Int} (h : 2 ≤ L ∧ L ≤ 5) : most L = 3 ∨ most L = 7 ∨ most L = 15 ∨ most L = 31 := by
  have : L = 2 ∨ L = 3 ∨ L = 4 ∨ L = 5 := by omega
  rcases this with rfl | rfl | rfl | rfl <;> decide

/-- A prime is there. -/
theorem prime_big {L : Int} (h : 2 ≤ L ∧ L ≤ 8) : ∃ q : Int, 1000000000 ≤ q ∧ q ≤ 1000001969 ∧ Pr q ∧ (q - 1) % most L = 0 := by
  obtain ⟨h1, h2, h3, h4, h5⟩ := primes_big
  rcases most_val h with e | e | e | e | e | e | e <;> rw [e]
  · exact ⟨_, by decide, by decide, pr_of (n := 1000000009) (by decide) 15 (by decide) h1, by decide⟩
  · exact ⟨_, by decide, by decide, pr_of (n := 1000000009) (by decide) 15 (by decide) h1, by decide⟩
  · exact ⟨_, by decide, by decide, pr_of (n := 1000000021) (by decide) 15 (by decide) h2, by decide⟩
  · exact ⟨_, by decide, by decide, pr_of (n := 1000001969) (by decide) 15 (by decide) h3, by decide⟩
  · exact ⟨_, by decide, by decide, pr_of (n := 1000000009) (by decide) 15 (by decide) h1, by decide⟩
  · exact ⟨_, by decide, by decide, pr_of (n := 1000000033) (by decide) 15 (by decide) h4, by decide⟩
  · exact ⟨_, by decide, by decide, pr_of (n := 1000000861) (by decide) 15 (by decide) h5, by decide⟩

theorem prime_mid {L : Int} (h : 2 ≤ L ∧ L ≤ 5) : ∃ q : Int, 16000000 ≤ q ∧ q ≤ 16000403 ∧ Pr q ∧ (q - 1) % most L = 0 := by
  obtain ⟨h1, h2, h3, h4⟩ := primes_mid
  rcases most_val5 h with e | e | e | e <;> rw [e]
  · exact ⟨_, by decide, by decide, pr_of (n := 16000057) (by decide) 12 (by decide) h1, by decide⟩
  · exact ⟨_, by decide, by decide, pr_of (n := 16000097) (by decide) 12 (by decide) h2, by decide⟩
  · exact ⟨_, by decide, by decide, pr_of (n := 16000081) (by decide) 12 (by decide) h3, by decide⟩
  · exact ⟨_, by decide, by decide, pr_of (n := 16000403) (by decide) 12 (by decide) h4, by decide⟩

theorem first_of {P : Nat → Prop} : ∀ n : Nat, P n → ∃ k, k ≤ n ∧ P k ∧ ∀ j, j < k → ¬ P j := by
  intro n
  induction n using Nat.strongRecOn with
  | ind n ih =>
    intro h
    by_cases hx : ∃ j, j < n ∧ P j
    · obtain ⟨j, hj, hp⟩ := hx
      obtain ⟨k, h1, h2, h3⟩ := ih j hj hp
      exact ⟨k, by omega, h2, h3⟩
    · exact ⟨n, Nat.le_refl _, h, fun j hj hp => hx ⟨j, hj, hp⟩⟩

/-- The field of a period is found where a prime is there. -/
theorem fo_ok {n lo q : Int} (h1 : 1 ≤ n) (h2 : n ≤ 1024) (h3 : 2 ≤ lo) (hq : lo ≤ q) (hq2 : q ≤ 2147483647) (hp : Pr q) (hm : (q - 1) % n = 0) :
    foE n lo = 0 ∧ cfE (foP n lo) (foW n lo) (foN n lo) = 0 ∧ lo ≤ foP n lo ∧ foP n lo ≤ q ∧ foN n lo = n := by
  have hr : (1 ≤ n ∧ n ≤ 1024) ∧ (2 ≤ lo ∧ lo ≤ 2147483647) := ⟨⟨h1, h2⟩, h3, by omega⟩
  have h0 : fpK n lo 0 = lo + (1 - lo) % n := fp0_eq n lo
  have hm0 := Int.emod_nonneg (1 - lo) (show n ≠ 0 by omega)
  have hm1 := Int.emod_lt_of_pos (1 - lo) (show 0 < n by omega)
  have hk0 : ∀ k : Nat, fpK n lo k = fpK n lo 0 + k * n := fun k => by unfold fpK; omega
  -- q stands on the way
  obtain ⟨kq, hkq⟩ : ∃ kq : Nat, fpK n lo kq = q := by
    have ha := fpK_mod (n := n) (lo := lo) h1 0
    have hd : n ∣ q - fpK n lo 0 := by
      have := Int.dvd_sub (Int.dvd_of_emod_eq_zero hm) (Int.dvd_of_emod_eq_zero ha)
      rwa [show q - 1 - (fpK n lo 0 - 1) = q - fpK n lo 0 by omega] at this
    obtain ⟨c, hc⟩ := hd
    have hc0 : 0 ≤ c := by
      rcases Int.lt_or_le c 0 with h | h
      · have : n * c ≤ n * -1 := Int.mul_le_mul_of_nonneg_left (by omega) (by omega)
        omega
      · exact h
    refine ⟨c.toNat, ?_⟩
    rw [hk0, show ((c.toNat : Nat) : Int) = c by omega, Int.mul_comm]; omega
  have hstop : ¬ fpOn n lo kq := fun h => by have := h.2; rw [hkq, isP_yes hp] at this; cases this
  obtain ⟨k, hkk, hk1, hk2⟩ := first_of (P := fun k => ¬ fpOn n lo k) kq hstop
  have hl : ∀ j, j < k → fpOn n lo j := fun j hj => Classical.not_not.1 (hk2 j hj)
  have hle : fpK n lo k ≤ q := by
    rw [← hkq, hk0 k, hk0 kq]
    have : (k : Int) * n ≤ (kq : Int) * n := Int.mul_le_mul_of_nonneg_right (by omega) (by omega)
    omega
  have hisP : isP (fpK n lo k) = true := by
    cases hb : isP (fpK n lo k) with
    | true => rfl
    | false => exact absurd ⟨by omega, hb⟩ hk1
  have hpr := isP_pr hisP
  have hmod := fpK_mod (n := n) (lo := lo) h1 k
  obtain ⟨g0, _, hg0⟩ := gen_k hpr h1 h2 hmod
  obtain ⟨g, _, hg1, hg2⟩ := first_of (P := fun g => rootB (fpK n lo k) (gW (fpK n lo k) n g) n = true) g0 hg0
  obtain ⟨e1, e2, e3, e4⟩ := fo_yes hr hl (by omega) hisP hg1 hg2
  have hlo : lo ≤ fpK n lo k := by
    rw [hk0, h0]
    have : 0 ≤ (k : Int) * n := Int.mul_nonneg (by omega) (by omega)
    omega
  have hgw := gW_in (p := fpK n lo k) (n := n) hpr.1 g
  have hw1 : 1 ≤ gW (fpK n lo k) n g := by
    rcases Int.lt_or_le 0 (gW (fpK n lo k) n g) with h | h
    · omega
    · exfalso
      have hz : gW (fpK n lo k) n g = 0 := by omega
      rw [hz] at hg1
      unfold rootB at hg1
      rw [Bool.and_eq_true] at hg1
      have := of_decide_eq_true hg1.1
      unfold pw at this
      rw [Int.zero_pow (by omega), Int.zero_emod] at this
      cases this
  refine ⟨e1, ?_, by omega, by omega, e4⟩
  rw [e2, e3, e4]
  unfold cfE
  rw [if_pos ⟨⟨hpr.1, by omega⟩, ⟨h1, h2⟩, hw1, by omega⟩, if_pos hisP, if_pos hmod, if_pos hg1]

/-! ### Unfolded by transforms -/

theorem getD_prt (ps : List IP) (i : Int) {k : Nat} (h : k < ps.length) : (prtL ps i).getD k 0 = prtF ps i k := tab_get _ _ _ _ h

/-- One part of what is excited, unfolded by transforms, is that part of the response. -/
theorem ui_exact {p w : Int} {L : Int} {ts : List Int} {s : Int} (m : Mx L ts s) (hfo : FOk p w (most L)) (hlt : most L + 1 < p) (hs ys : List Int) (hl : hs.length = (most L).toNat) (hyl : ys.length = (most L).toNat)
    (hy : ∀ t, t < (most L).toNat → ys.getD t 0 = sm (fun j => hs.getD j 0 * sgA (sgL L ts s) ((t : Int) - j)) (most L).toNat) (hb : ∀ k, k < (most L).toNat → -p < 2 * hs.getD k 0 ∧ 2 * hs.getD k 0 < p) {i : Nat} (hi : i < (most L).toNat) :
    uiF p w (most L) ys (dftL p w (sgL L ts s)) i = hs.getD i 0 := by
  have hpos := m.pos
  have hw : Cg p (w ^ (most L).toNat) 1 := hfo.rt.1
  have hp := hfo.pr
  have hq : quL p w ys (dftL p w (sgL L ts s)) = dftL p w hs := by
    unfold quL dftL
    rw [hyl, hl]
    refine tab_congr _ fun k hk => ?_
    have hA : (dftL p w (sgL L ts s)).getD k 0 = sgT L ts s w k % p := by
      rw [at_dftL (by rw [sgL_len]; exact hk)]
      unfold dft
      rw [sgL_len]
      refine congrArg (· % p) (sm_congr _ fun t ht => ?_)
      show (sgL L ts s).getD t 0 * _ = _
      unfold sgL
      rw [tab_get _ _ _ _ ht]
    have hY : dft p w (at0 ys) (most L).toNat k = sm (fun t => sm (fun j => hs.getD j 0 * sgA (sgL L ts s) ((t : Int) - j)) (most L).toNat * w ^ (t * k)) (most L).toNat % p := by
      unfold dft
      refine congrArg (· % p) (sm_congr _ fun t ht => ?_)
      show ys.getD t 0 * _ = _
      rw [hy t ht]
    have hunit := sgT_unit m hp hw hlt k
    have hc := conv m hw (fun j => hs.getD j 0) k
    unfold quF
    rw [hyl]
    show dft p w (at0 ys) (most L).toNat k * inv ((tab (dft p w (at0 (sgL L ts s)) (sgL L ts s).length) (sgL L ts s).length).getD k 0) p % p = dft p w (at0 hs) (most L).toNat k
    rw [show (tab (dft p w (at0 (sgL L ts s)) (sgL L ts s).length) (sgL L ts s).length).getD k 0 = sgT L ts s w k % p from hA, inv_mod, hY]
    have hfin : Cg p (sm (fun t => sm (fun j => hs.getD j 0 * sgA (sgL L ts s) ((t : Int) - j)) (most L).toNat * w ^ (t * k)) (most L).toNat % p * inv (sgT L ts s w k) p) (sm (fun j => hs.getD j 0 * w ^ (j * k)) (most L).toNat) := by
      have a := ((Cg.mod p _).trans hc).mul (Cg.refl p (inv (sgT L ts s w k) p))
      refine a.trans ?_
      rw [Int.mul_assoc]
      have b := (Cg.refl p (sm (fun j => hs.getD j 0 * w ^ (j * k)) (most L).toNat)).mul (inv_mul hp hunit)
      rwa [Int.mul_one] at b
    exact hfin
  have hbk := back_ok (xs := hs) hfo (by omega) (i := i) (by omega)
  have hback : backF p w (most L) (dftL p w hs) i = hs.getD i 0 % p := by
    unfold backL at hbk
    rwa [tab_get _ _ _ _ (by rw [dftL_len]; omega)] at hbk
  unfold uiF
  rw [hq, hback]
  have hbi := hb i hi
  have hpp := hp.1
  unfold hfc
  rcases Int.lt_or_le (hs.getD i 0) 0 with hn | hn
  · have e : hs.getD i 0 % p = hs.getD i 0 + p := by
      rw [← Int.add_emod_right]; exact Int.emod_eq_of_lt (by omega) (by omega)
    rw [e, if_pos (by omega)]; omega
  · have e : hs.getD i 0 % p = hs.getD i 0 := Int.emod_eq_of_lt hn (by omega)
    rw [e, if_neg (by omega)]

/-- What is excited, unfolded by transforms, is the response, folded. -/
theorem uw_exact {xs : CL} {L : Int} {ts : List Int} {s p w : Int} (m : Mx L ts s) (hfo : FOk p w (most L)) (hlt : most L + 1 < p) (hb : ∀ k, k < (most L).toNat → (-p < 2 * ((exf xs L).getD k (0, 0, ())).1 ∧ 2 * ((exf xs L).getD k (0, 0, ())).1 < p) ∧ (-p < 2 * ((exf xs L).getD k (0, 0, ())).2.1 ∧ 2 * ((exf xs L).getD k (0, 0, ())).2.1 < p)) :
    uwL p w (most L) (exL xs L ts s) (sgL L ts s) = exf xs L := by
  have hl : (exL xs L ts s).length = (most L).toNat := tab_len _ _
  have hg : ∀ t, t < (most L).toNat → (exL xs L ts s).getD t (0, 0, ()) = exF xs L ts s t := fun t ht => tab_get _ _ _ _ ht
  unfold uwL
  rw [hl]
  refine Eq.trans (tab_congr _ fun k hk => ?_) (Eq.trans (congrArg (tab fun i => (exf xs L).getD i (0, 0, ())) (exf_len xs L).symm) (tab_getD (0, 0, ()) (exf xs L)))
  have hfl := exf_len xs L
  have a := ui_exact m hfo hlt (prtL (exf xs L) 0) (prtL (exL xs L ts s) 0) (by rw [prtL_len]; exact hfl) (by rw [prtL_len]; exact hl) (fun t ht => by
    rw [getD_prt _ _ (by omega)]
    show ((exL xs L ts s).getD t (0, 0, ())).1 = _
    rw [hg t ht, exF_1]
    exact sm_congr _ fun j hj => by rw [getD_prt _ _ (by omega)]; rfl) (fun k hk => by rw [getD_prt _ _ (by omega)]; exact (hb k hk).1) hk
  have b := ui_exact m hfo hlt (prtL (exf xs L) 1) (prtL (exL xs L ts s) 1) (by rw [prtL_len]; exact hfl) (by rw [prtL_len]; exact hl) (fun t ht => by
    rw [getD_prt _ _ (by omega)]
    show ((exL xs L ts s).getD t (0, 0, ())).2.1 = _
    rw [hg t ht, exF_2]
    exact sm_congr _ fun j hj => by rw [getD_prt _ _ (by omega)]; rfl) (fun k hk => by rw [getD_prt _ _ (by omega)]; exact (hb k hk).2) hk
  show (uiF p w (most L) (prtL (exL xs L ts s) 0) _ k, uiF p w (most L) (prtL (exL xs L ts s) 1) _ k, ()) = _
  rw [a, b, getD_prt _ _ (by omega), getD_prt _ _ (by omega)]
  rfl

end Go.Eng.Pu
