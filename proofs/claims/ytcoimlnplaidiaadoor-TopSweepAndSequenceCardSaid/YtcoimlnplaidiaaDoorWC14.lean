/- Fields of the periods of registers are there; what is excited, unfolded by transforms. Plain laws. Conditions: each lemma's own. Contracts: a start, copied; what is unfolded by transforms. Conditions: each contract's own. Contracts: equal samples, numbers of lists, for the laws on two ways of unfolding; plain laws on these. Conditions: each contract's own. Maximal registers: a recording that is unfolded is what is excited of the result. Plain laws. Conditions: the register is right and maximal. What a sweep by a chirp has recorded, divided by it, is the response; sums of floats that stand for whole numbers. Plain laws. -/
import Derived.Test.YtcoimlnplaidiaaDoorWC13
import Derived.Test.YtcoimlnplaidiaaDoorWC9
import Derived.Test.YtcoimlnplaidiaaDoorWC11
namespace Go.Eng.Pu
open Go.Eng Go.Proofs
set_option linter.all false
set_option maxRecDepth 100000

/-! ### Primes, by trial -/

/-- No one of the 2 ^ k numbers from d on divides n. -/
def ckP (n : Nat) : Nat → Nat → Bool
  | d, 0 => n % d != 0
  | d, k + 1 => ckP n d k && ckP n (d + 2 ^ k) k

theorem ckP_all {n : Nat} : ∀ {k d : Nat}, ckP n d k = true → ∀ e, d ≤ e → e < d + 2 ^ k → n % e ≠ 0
  | 0, d, h, e, h1, h2 => by
    have : e = d := by omega
    rw [this]
    simpa [ckP] using h
  | k + 1, d, h, e, h1, h2 => by
    unfold ckP at h
    rw [Bool.and_eq_true] at h
    rw [Nat.pow_succ] at h2
    by_cases he : e < d + 2 ^ k
    · exact ckP_all h.1 e h1 he
    · exact ckP_all h.2 e (by omega) (by omega)

theorem pr_of {n : Nat} (h2 : 2 ≤ n) (k : Nat) (hn : n < (2 ^ k + 2) * (2 ^ k + 2)) (h : ckP n 2 k = true) : Pr (n : Int) := tr_pr (by omega) fun d hd hdd => by
  obtain ⟨e, rfl⟩ : ∃ e : Nat, d = (e : Int) := ⟨d.toNat, by omega⟩
  have h3 : e * e ≤ n := by
    have : ((e * e : Nat) : Int) ≤ n := by rw [Int.natCast_mul]; exact hdd
    omega
  have h4 : e < 2 ^ k + 2 := by
    rcases Nat.lt_or_ge e (2 ^ k + 2) with h | h
    · exact h
    · have := Nat.mul_le_mul h h; omega
  have := ckP_all h e (by omega) (by omega)
  intro hz
  apply this
  rw [← Int.natCast_emod] at hz
  exact Int.ofNat_inj.1 hz

theorem primes_big : ckP 1000000009 2 15 = true ∧ ckP 1000000021 2 15 = true ∧ ckP 1000001969 2 15 = true ∧ ckP 1000000033 2 15 = true ∧ ckP 1000000861 2 15 = true := by decide +kernel
theorem primes_mid : ckP 16000057 2 12 = true ∧ ckP 16000097 2 12 = true ∧ ckP 16000081 2 12 = true ∧ ckP 16000403 2 12 = true := by decide +kernel

theorem most_val {L : Int} (h : 2 ≤ L ∧ L ≤ 8) : most L = 3 ∨ most L = 7 ∨ most L = 15 ∨ most L = 31 ∨ most L = 63 ∨ most L = 127 ∨ most L = 255 := by
  have : L = 2 ∨ L = 3 ∨ L = 4 ∨ L = 5 ∨ L = 6 ∨ L = 7 ∨ L = 8 := by omega
  rcases this with rfl | rfl | rfl | rfl | rfl | rfl | rfl <;> decide

theorem most_val5 {L : Int} (h : 2 ≤ L ∧ L ≤ 5) : most L = 3 ∨ most L = 7 ∨ most L = 15 ∨ most L = 31 := by
  have : L = 2 ∨ L = 3 ∨ L = 4 ∨ L = 5 := by omega
  rcases this with rfl | rfl | rfl | rfl <;> decide

/-- A prime is there. -/
theorem prime_big {L : Int} (h : 2 ≤ L ∧ L ≤ 8) : ∃ q : Int, 1000000000 ≤ q ∧ q ≤ 1000001969 ∧ Pr q ∧ (q - 1) % most L = 0 := by
  obtain ⟨h1, h2, h3, h4, h5⟩ := primes_big
  rcases most_val h with e | e | e | e | e | e | e <;> rw [e]
  · exact ⟨_, by decide, by decide, pr_of (n := 1000000009) (by decide) 15 (by decide) h1, by decide⟩
  · exact ⟨_, by decide, by decide, pr_of (n := 1000000009) (by decide) 15 (by decide) h1, by decide⟩
  · exact ⟨_, by decide, by decide, pr_of (n := 1000000021) (by decide) 15 (by decide) h2, by decide⟩
  · exact ⟨_, by decide, by decide, pr_of (n := 1000001969) (by decide) 15 (by decide) h3, by decide⟩
  · exact ⟨_, by decide, by decide, pr_of (n := 1000000009) (by decide) 15 (by decide) h1, by decide⟩
  · exact ⟨_, by decide, by decide, pr_of (n := 1000000033) (by decide) 15 (by decide) h4, by decide⟩
  · exact ⟨_, by decide, by decide, pr_of (n := 1000000861) (by decide) 15 (by decide) h5, by decide⟩

theorem prime_mid {L : Int} (h : 2 ≤ L ∧ L ≤ 5) : ∃ q : Int, 16000000 ≤ q ∧ q ≤ 16000403 ∧ Pr q ∧ (q - 1) % most L = 0 := by
  obtain ⟨h1, h2, h3, h4⟩ := primes_mid
  rcases most_val5 h with e | e | e | e <;> rw [e]
  · exact ⟨_, by decide, by decide, pr_of (n := 16000057) (by decide) 12 (by decide) h1, by decide⟩
  · exact ⟨_, by decide, by decide, pr_of (n := 16000097) (by decide) 12 (by decide) h2, by decide⟩
  · exact ⟨_, by decide, by decide, pr_of (n := 16000081) (by decide) 12 (by decide) h3, by decide⟩
  · exact ⟨_, by decide, by decide, pr_of (n := 16000403) (by decide) 12 (by decide) h4, by decide⟩

theorem first_of {P : Nat → Prop} : ∀ n : Nat, P n → ∃ k, k ≤ n ∧ P k ∧ ∀ j, j < k → ¬ P j := by
  intro n
  induction n using Nat.strongRecOn with
  | ind n ih =>
    intro h
    by_cases hx : ∃ j, j < n ∧ P j
    · obtain ⟨j, hj, hp⟩ := hx
      obtain ⟨k, h1, h2, h3⟩ := ih j hj hp
      exact ⟨k, by omega, h2, h3⟩
    · exact ⟨n, Nat.le_refl _, h, fun j hj hp => hx ⟨j, hj, hp⟩⟩

/-- The field of a period is found where a prime is there. -/
theorem fo_ok {n lo q : Int} (h1 : 1 ≤ n) (h2 : n ≤ 1024) (h3 : 2 ≤ lo) (hq : lo ≤ q) (hq2 : q ≤ 2147483647) (hp : Pr q) (hm : (q - 1) % n = 0) :
    foE n lo = 0 ∧ cfE (foP n lo) (foW n lo) (foN n lo) = 0 ∧ lo ≤ foP n lo ∧ foP n lo ≤ q ∧ foN n lo = n := by
  have hr : (1 ≤ n ∧ n ≤ 1024) ∧ (2 ≤ lo ∧ lo ≤ 2147483647) := ⟨⟨h1, h2⟩, h3, by omega⟩
  have h0 : fpK n lo 0 = lo + (1 - lo) % n := fp0_eq n lo
  have hm0 := Int.emod_nonneg (1 - lo) (show n ≠ 0 by omega)
  have hm1 := Int.emod_lt_of_pos (1 - lo) (show 0 < n by omega)
  have hk0 : ∀ k : Nat, fpK n lo k = fpK n lo 0 + k * n := fun k => by unfold fpK; omega
  -- q stands on the way
  obtain ⟨kq, hkq⟩ : ∃ kq : Nat, fpK n lo kq = q := by
    have ha := fpK_mod (n := n) (lo := lo) h1 0
    have hd : n ∣ q - fpK n lo 0 := by
      have := Int.dvd_sub (Int.dvd_of_emod_eq_zero hm) (Int.dvd_of_emod_eq_zero ha)
      rwa [show q - 1 - (fpK n lo 0 - 1) = q - fpK n lo 0 by omega] at this
    obtain ⟨c, hc⟩ := hd
    have hc0 : 0 ≤ c := by
      rcases Int.lt_or_le c 0 with h | h
      · have : n * c ≤ n * -1 := Int.mul_le_mul_of_nonneg_left (by omega) (by omega)
        omega
      · exact h
    refine ⟨c.toNat, ?_⟩
    rw [hk0, show ((c.toNat : Nat) : Int) = c by omega, Int.mul_comm]; omega
  have hstop : ¬ fpOn n lo kq := fun h => by have := h.2; rw [hkq, isP_yes hp] at this; cases this
  obtain ⟨k, hkk, hk1, hk2⟩ := first_of (P := fun k => ¬ fpOn n lo k) kq hstop
  have hl : ∀ j, j < k → fpOn n lo j := fun j hj => Classical.not_not.1 (hk2 j hj)
  have hle : fpK n lo k ≤ q := by
    rw [← hkq, hk0 k, hk0 kq]
    have : (k : Int) * n ≤ (kq : Int) * n := Int.mul_le_mul_of_nonneg_right (by omega) (by omega)
    omega
  have hisP : isP (fpK n lo k) = true := by
    cases hb : isP (fpK n lo k) with
    | true => rfl
    | false => exact absurd ⟨by omega, hb⟩ hk1
  have hpr := isP_pr hisP
  have hmod := fpK_mod (n := n) (lo := lo) h1 k
  obtain ⟨g0, _, hg0⟩ := gen_k hpr h1 h2 hmod
  obtain ⟨g, _, hg1, hg2⟩ := first_of (P := fun g => rootB (fpK n lo k) (gW (fpK n lo k) n g) n = true) g0 hg0
  obtain ⟨e1, e2, e3, e4⟩ := fo_yes hr hl (by omega) hisP hg1 hg2
  have hlo : lo ≤ fpK n lo k := by
    rw [hk0, h0]
    have : 0 ≤ (k : Int) * n := Int.mul_nonneg (by omega) (by omega)
    omega
  have hgw := gW_in (p := fpK n lo k) (n := n) hpr.1 g
  have hw1 : 1 ≤ gW (fpK n lo k) n g := by
    rcases Int.lt_or_le 0 (gW (fpK n lo k) n g) with h | h
    · omega
    · exfalso
      have hz : gW (fpK n lo k) n g = 0 := by omega
      rw [hz] at hg1
      unfold rootB at hg1
      rw [Bool.and_eq_true] at hg1
      have := of_decide_eq_true hg1.1
      unfold pw at this
      rw [Int.zero_pow (by omega), Int.zero_emod] at this
      cases this
  refine ⟨e1, ?_, by omega, by omega, e4⟩
  rw [e2, e3, e4]
  unfold cfE
  rw [if_pos ⟨⟨hpr.1, by omega⟩, ⟨h1, h2⟩, hw1, by omega⟩, if_pos hisP, if_pos hmod, if_pos hg1]

/-! ### Unfolded by transforms -/

theorem getD_prt (ps : List IP) (i : Int) {k : Nat} (h : k < ps.length) : (prtL ps i).getD k 0 = prtF ps i k := tab_get _ _ _ _ h

/-- One part of what is excited, unfolded by transforms, is that part of the response. -/
theorem ui_exact {p w : Int} {L : Int} {ts : List Int} {s : Int} (m : Mx L ts s) (hfo : FOk p w (most L)) (hlt : most L + 1 < p) (hs ys : List Int) (hl : hs.length = (most L).toNat) (hyl : ys.length = (most L).toNat)
    (hy : ∀ t, t < (most L).toNat → ys.getD t 0 = sm (fun j => hs.getD j 0 * sgA (sgL L ts s) ((t : Int) - j)) (most L).toNat) (hb : ∀ k, k < (most L).toNat → -p < 2 * hs.getD k 0 ∧ 2 * hs.getD k 0 < p) {i : Nat} (hi : i < (most L).toNat) :
    uiF p w (most L) ys (dftL p w (sgL L ts s)) i = hs.getD i 0 := by
  have hpos := m.pos
  have hw : Cg p (w ^ (most L).toNat) 1 := hfo.rt.1
  have hp := hfo.pr
  have hq : quL p w ys (dftL p w (sgL L ts s)) = dftL p w hs := by
    unfold quL dftL
    rw [hyl, hl]
    refine tab_congr _ fun k hk => ?_
    have hA : (dftL p w (sgL L ts s)).getD k 0 = sgT L ts s w k % p := by
      rw [at_dftL (by rw [sgL_len]; exact hk)]
      unfold dft
      rw [sgL_len]
      refine congrArg (· % p) (sm_congr _ fun t ht => ?_)
      show (sgL L ts s).getD t 0 * _ = _
      unfold sgL
      rw [tab_get _ _ _ _ ht]
    have hY : dft p w (at0 ys) (most L).toNat k = sm (fun t => sm (fun j => hs.getD j 0 * sgA (sgL L ts s) ((t : Int) - j)) (most L).toNat * w ^ (t * k)) (most L).toNat % p := by
      unfold dft
      refine congrArg (· % p) (sm_congr _ fun t ht => ?_)
      show ys.getD t 0 * _ = _
      rw [hy t ht]
    have hunit := sgT_unit m hp hw hlt k
    have hc := conv m hw (fun j => hs.getD j 0) k
    unfold quF
    rw [hyl]
    show dft p w (at0 ys) (most L).toNat k * inv ((tab (dft p w (at0 (sgL L ts s)) (sgL L ts s).length) (sgL L ts s).length).getD k 0) p % p = dft p w (at0 hs) (most L).toNat k
    rw [show (tab (dft p w (at0 (sgL L ts s)) (sgL L ts s).length) (sgL L ts s).length).getD k 0 = sgT L ts s w k % p from hA, inv_mod, hY]
    have hfin : Cg p (sm (fun t => sm (fun j => hs.getD j 0 * sgA (sgL L ts s) ((t : Int) - j)) (most L).toNat * w ^ (t * k)) (most L).toNat % p * inv (sgT L ts s w k) p) (sm (fun j => hs.getD j 0 * w ^ (j * k)) (most L).toNat) := by
      have a := ((Cg.mod p _).trans hc).mul (Cg.refl p (inv (sgT L ts s w k) p))
      refine a.trans ?_
      rw [Int.mul_assoc]
      have b := (Cg.refl p (sm (fun j => hs.getD j 0 * w ^ (j * k)) (most L).toNat)).mul (inv_mul hp hunit)
      rwa [Int.mul_one] at b
    exact hfin
  have hbk := back_ok (xs := hs) hfo (by omega) (i := i) (by omega)
  have hback : backF p w (most L) (dftL p w hs) i = hs.getD i 0 % p := by
    unfold backL at hbk
    rwa [tab_get _ _ _ _ (by rw [dftL_len]; omega)] at hbk
  unfold uiF
  rw [hq, hback]
  have hbi := hb i hi
  have hpp := hp.1
  unfold hfc
  rcases Int.lt_or_le (hs.getD i 0) 0 with hn | hn
  · have e : hs.getD i 0 % p = hs.getD i 0 + p := by
      rw [← Int.add_emod_right]; exact Int.emod_eq_of_lt (by omega) (by omega)
    rw [e, if_pos (by omega)]; omega
  · have e : hs.getD i 0 % p = hs.getD i 0 := Int.emod_eq_of_lt hn (by omega)
    rw [e, if_neg (by omega)]

/-- What is excited, unfolded by transforms, is the response, folded. -/
theorem uw_exact {xs : CL} {L : Int} {ts : List Int} {s p w : Int} (m : Mx L ts s) (hfo : FOk p w (most L)) (hlt : most L + 1 < p) (hb : ∀ k, k < (most L).toNat → (-p < 2 * ((exf xs L).getD k (0, 0, ())).1 ∧ 2 * ((exf xs L).getD k (0, 0, ())).1 < p) ∧ (-p < 2 * ((exf xs L).getD k (0, 0, ())).2.1 ∧ 2 * ((exf xs L).getD k (0, 0, ())).2.1 < p)) :
    uwL p w (most L) (exL xs L ts s) (sgL L ts s) = exf xs L := by
  have hl : (exL xs L ts s).length = (most L).toNat := tab_len _ _
  have hg : ∀ t, t < (most L).toNat → (exL xs L ts s).getD t (0, 0, ()) = exF xs L ts s t := fun t ht => tab_get _ _ _ _ ht
  unfold uwL
  rw [hl]
  refine Eq.trans (tab_congr _ fun k hk => ?_) (Eq.trans (congrArg (tab fun i => (exf xs L).getD i (0, 0, ())) (exf_len xs L).symm) (tab_getD (0, 0, ()) (exf xs L)))
  have hfl := exf_len xs L
  have a := ui_exact m hfo hlt (prtL (exf xs L) 0) (prtL (exL xs L ts s) 0) (by rw [prtL_len]; exact hfl) (by rw [prtL_len]; exact hl) (fun t ht => by
    rw [getD_prt _ _ (by omega)]
    show ((exL xs L ts s).getD t (0, 0, ())).1 = _
    rw [hg t ht, exF_1]
    exact sm_congr _ fun j hj => by rw [getD_prt _ _ (by omega)]; rfl) (fun k hk => by rw [getD_prt _ _ (by omega)]; exact (hb k hk).1) hk
  have b := ui_exact m hfo hlt (prtL (exf xs L) 1) (prtL (exL xs L ts s) 1) (by rw [prtL_len]; exact hfl) (by rw [prtL_len]; exact hl) (fun t ht => by
    rw [getD_prt _ _ (by omega)]
    show ((exL xs L ts s).getD t (0, 0, ())).2.1 = _
    rw [hg t ht, exF_2]
    exact sm_congr _ fun j hj => by rw [getD_prt _ _ (by omega)]; rfl) (fun k hk => by rw [getD_prt _ _ (by omega)]; exact (hb k hk).2) hk
  show (uiF p w (most L) (prtL (exL xs L ts s) 0) _ k, uiF p w (most L) (prtL (exL xs L ts s) 1) _ k, ()) = _
  rw [a, b, getD_prt _ _ (by omega), getD_prt _ _ (by omega)]
  rfl

end Go.Eng.Pu

namespace Go.Eng.Pu
open Go.Eng Go.Proofs
set_option linter.all false
set_option maxRecDepth 100000
set_option maxHeartbeats 8000000

@[reducible] def sStartL : Spec := { pats := [.dat StartT'], res := [{ t := StartT' }], pre := fun x => pLen (List.length (α := Int) x.1.1.2.1) ∧ List.length (α := Int) x.1.1.2.1 ≤ 2000000000, f := fun x => (x.1, ()) }

theorem uwR_ok (xs : CL) (L : Int) (ts : List Int) (s p w n : Int) : okC (uwR xs L ts s p w n) := by
  unfold uwR
  repeat' split
  all_goals first | exact tL_ok _ | exact okC_nil

theorem uwR_len (xs : CL) (L : Int) (ts : List Int) (s p w n : Int) : (uwR xs L ts s p w n).length ≤ 1024 := by
  unfold uwR
  split
  · rename_i h
    repeat' split
    all_goals first | exact Nat.zero_le _ | skip
    have a := tL_len (uwL p w n (lP xs) (sgL L ts s))
    have b : (uwL p w n (lP xs) (sgL L ts s)).length = (lP xs).length := tab_len _ _
    have c := lP_len h
    have d := (lE_ok h).2.1
    omega
  · exact Nat.zero_le _

end Go.Eng.Pu

namespace Go.Eng.Pu
open Go.Eng Go.Proofs
set_option linter.all false
set_option maxRecDepth 100000
set_option maxHeartbeats 8000000

/-- Both parts as float64. -/
def wdC (z : Nat × Nat) : Nat × Nat := ((f2f .f32 z.1 .f64).getD 0, (f2f .f32 z.2 .f64).getD 0)
def smF (x y : Nat × Nat) : Bool := fSame (wdC x) (wdC y)
def sameL (xs ys : CL) : Bool := decide (xs.length = ys.length) && (tab (fun i => smF (xs.getD i (0, 0)) (ys.getD i (0, 0))) xs.length).all id

theorem sameL_no {xs ys : CL} {k : Nat} (hk : k < xs.length) (h : smF (xs.getD k (0, 0)) (ys.getD k (0, 0)) = false) : sameL xs ys = false := by
  unfold sameL
  have : (tab (fun i => smF (xs.getD i (0, 0)) (ys.getD i (0, 0))) xs.length).all id = false := by
    rw [List.all_eq_false]
    exact ⟨_, mem_tab' hk, by rw [id, h]; exact Bool.false_ne_true⟩
  rw [this, Bool.and_false]
theorem sameL_yes {xs ys : CL} (hl : xs.length = ys.length) (h : ∀ j, j < xs.length → smF (xs.getD j (0, 0)) (ys.getD j (0, 0)) = true) : sameL xs ys = true := by
  unfold sameL
  have : (tab (fun i => smF (xs.getD i (0, 0)) (ys.getD i (0, 0))) xs.length).all id = true := by
    rw [List.all_eq_true]
    intro b hb
    obtain ⟨j, hj, rfl⟩ := tab_mem' hb
    exact h j hj
  rw [this, decide_eq_true hl]; rfl
theorem sameL_refl (xs : CL) : sameL xs xs = true := sameL_yes rfl fun j _ => by simp [smF, fSame]
theorem sameL_all {xs ys : CL} (h : sameL xs ys = true) : xs.length = ys.length ∧ ∀ j, j < xs.length → smF (xs.getD j (0, 0)) (ys.getD j (0, 0)) = true := by
  unfold sameL at h
  rw [Bool.and_eq_true] at h
  refine ⟨of_decide_eq_true h.1, fun j hj => ?_⟩
  have := List.all_eq_true.1 h.2 _ (mem_tab' hj)
  exact this

@[reducible] def sSameG : Spec := { pats := [.dat (.sl C64), .dat (.sl C64)], res := [{ t := .bool }], pre := fun x => List.length (α := Nat × Nat) x.1 ≤ 2000000000 ∧ okC x.1 ∧ okC x.2.1, f := fun x => (sameL x.1 x.2.1, ()) }

/-- base.SameSamples -/
theorem h34g : Ok 9 sSameG := by
  refine mk (ctr := [(33, sSame)]) ⟨h101, trivial⟩ (nt := 29) Tryd.func9 rfl rfl rfl rfl (by kernel_rfl) (by kernel_rfl) (fun x => [fun _ => { σ := Nat, pat := fun k => [sI 5 k], inv := fun k => k ≤ List.length (α := Nat × Nat) x.1 ∧ ∀ j, j < k → smF (List.getD (α := Nat × Nat) x.1 j (0, 0)) (List.getD (α := Nat × Nat) x.2.1 j (0, 0)) = true, meas := fun k => List.length (α := Nat × Nat) x.1 - k }]) ?_
  rintro ⟨(xs : CL), (ys : CL), _⟩ ⟨(hl : xs.length ≤ 2000000000), (hc : okC xs), (hd : okC ys)⟩
  have hs : ∀ i : Nat, (f2f .f32 (xs.getD i (0, 0)).1 .f64).isSome = true ∧ (f2f .f32 (xs.getD i (0, 0)).2 .f64).isSome = true := fun i => ⟨wid_some (hc i).1, wid_some (hc i).2⟩
  have ht : ∀ i : Nat, (f2f .f32 (ys.getD i (0, 0)).1 .f64).isSome = true ∧ (f2f .f32 (ys.getD i (0, 0)).2 .f64).isSome = true := fun i => ⟨wid_some (hd i).1, wid_some (hd i).2⟩
  by_cases he : xs.length = ys.length
  · 
    repeat' (intro hzz; (try (rename Two => hq; cases hq)); (try dsimp only at hzz); (try simp only [resTy, argTy, eqD, inR, big, wantOf, Bool.not_true, Bool.not_false, Bool.true_eq, decide_eq_true_eq, decide_eq_false_iff_not, Bool.not_eq_true', Bool.not_eq_false', Bool.and_eq_true, Prod.mk.injEq, and_true, true_and, Int.not_lt, Int.not_le, gt_iff_lt, ge_iff_le] at hzz); (try simp only [resTy, argTy, eqD, inR, big, wantOf, Bool.not_true, Bool.not_false, Bool.true_eq, decide_eq_true_eq, decide_eq_false_iff_not, Bool.not_eq_true', Bool.not_eq_false', Bool.and_eq_true, Prod.mk.injEq, and_true, true_and, Int.not_lt, Int.not_le, gt_iff_lt, ge_iff_le, getD_c] at hzz); (try (first | contradiction | (exfalso; omega))); (try (revert hzz; intro _)))
    all_goals try (rename Unit => hq; clear hq)
    all_goals try ((with_reducible refine Held.mk ?_); (with_reducible (first | refine Frz.mk ?_ | refine And.intro (Frz.mk ?_) ?_ | refine And.intro ?_ (Frz.mk ?_))); repeat' first | exact True.intro | (change _ = _; with_reducible rfl) | refine And.intro ?_ ?_ | (with_reducible refine Frz.mk ?_))
    all_goals try (refine Held.mk ?_; (try dsimp only at *); (try simp only [resTy, argTy, eqD, inR, big, wantOf, Bool.not_true, Bool.not_false, Bool.true_eq, decide_eq_true_eq, decide_eq_false_iff_not, Bool.not_eq_true', Bool.not_eq_false', Bool.and_eq_true, Prod.mk.injEq, and_true, true_and, Int.not_lt, Int.not_le, gt_iff_lt, ge_iff_le] at *); (try simp only [resTy, argTy, eqD, inR, big, wantOf, Bool.not_true, Bool.not_false, Bool.true_eq, decide_eq_true_eq, decide_eq_false_iff_not, Bool.not_eq_true', Bool.not_eq_false', Bool.and_eq_true, Prod.mk.injEq, and_true, true_and, Int.not_lt, Int.not_le, gt_iff_lt, ge_iff_le, getD_c] at *))
    all_goals try omega
    · 
      refine GHeld.mk ?_
      refine Exists.intro 0 ?_
      refine And.intro (Leaf.mk ?_) ?_
      · repeat' first | exact True.intro | refine And.intro ?_ ?_
        all_goals try ((change _ = _ <;> try dsimp only) <;> try with_reducible rfl)
        all_goals try omega
      exact ⟨Nat.zero_le _, fun j hj => by omega⟩
    · exact hs _
    · exact ht _
    · rename_i k hk hlt q
      rw [sameL_no (k := k) (by omega) q]
    · rename_i k hk hlt q
      refine GHeld.mk ?_
      refine Exists.intro (k + 1) ?_
      refine And.intro (Leaf.mk ?_) ?_
      · repeat' first | exact True.intro | refine And.intro ?_ ?_
        all_goals try ((change _ = _ <;> try dsimp only) <;> try with_reducible rfl)
        all_goals try omega
      refine ⟨⟨by show k + 1 ≤ xs.length; omega, fun j hj => ?_⟩, by show xs.length - (k + 1) < xs.length - k; omega⟩
      by_cases e : j = k
      · rw [e]; exact q
      · exact hk.2 j (by omega)
    · rename_i k hk hge
      rw [sameL_yes he (fun j hj => hk.2 j (by omega))]
  · have u : sameL xs ys = false := by unfold sameL; rw [decide_eq_false he]; rfl
    repeat' (intro hzz; (try (rename Two => hq; cases hq)); (try dsimp only at hzz); (try simp only [resTy, argTy, eqD, inR, big, wantOf, Bool.not_true, Bool.not_false, Bool.true_eq, decide_eq_true_eq, decide_eq_false_iff_not, Bool.not_eq_true', Bool.not_eq_false', Bool.and_eq_true, Prod.mk.injEq, and_true, true_and, Int.not_lt, Int.not_le, gt_iff_lt, ge_iff_le] at hzz); (try simp only [resTy, argTy, eqD, inR, big, wantOf, Bool.not_true, Bool.not_false, Bool.true_eq, decide_eq_true_eq, decide_eq_false_iff_not, Bool.not_eq_true', Bool.not_eq_false', Bool.and_eq_true, Prod.mk.injEq, and_true, true_and, Int.not_lt, Int.not_le, gt_iff_lt, ge_iff_le, u] at hzz); (try (first | contradiction | (exfalso; omega))); (try (revert hzz; intro _)))
    all_goals try (rename Unit => hq; clear hq)
    all_goals try ((with_reducible refine Held.mk ?_); (with_reducible (first | refine Frz.mk ?_ | refine And.intro (Frz.mk ?_) ?_ | refine And.intro ?_ (Frz.mk ?_))); repeat' first | exact True.intro | (change _ = _; with_reducible rfl) | refine And.intro ?_ ?_ | (with_reducible refine Frz.mk ?_))
    all_goals try (refine Held.mk ?_; (try dsimp only at *); (try simp only [resTy, argTy, eqD, inR, big, wantOf, Bool.not_true, Bool.not_false, Bool.true_eq, decide_eq_true_eq, decide_eq_false_iff_not, Bool.not_eq_true', Bool.not_eq_false', Bool.and_eq_true, Prod.mk.injEq, and_true, true_and, Int.not_lt, Int.not_le, gt_iff_lt, ge_iff_le] at *); (try simp only [resTy, argTy, eqD, inR, big, wantOf, Bool.not_true, Bool.not_false, Bool.true_eq, decide_eq_true_eq, decide_eq_false_iff_not, Bool.not_eq_true', Bool.not_eq_false', Bool.and_eq_true, Prod.mk.injEq, and_true, true_and, Int.not_lt, Int.not_le, gt_iff_lt, ge_iff_le, u] at *))
    all_goals try omega

/-- Equal bits are equal numbers. -/
theorem same_num {a b : Int} (ha : -16777216 ≤ a ∧ a ≤ 16777216) (hb : -16777216 ≤ b ∧ b ≤ 16777216) (h : (f2f .f32 (floatOfInt .f32 a) .f64).getD 0 = (f2f .f32 (floatOfInt .f32 b) .f64).getD 0) : a = b := by
  obtain ⟨a1, a2⟩ := foi_num ha.1 ha.2
  obtain ⟨b1, b2⟩ := foi_num hb.1 hb.2
  obtain ⟨y, e1, e2, e3⟩ := wid_num a1
  obtain ⟨z, f1, f2, f3⟩ := wid_num b1
  rw [e1, f1, Option.getD_some, Option.getD_some] at h
  rw [h, f3, a2, b2] at e3
  have h0 := fS_pos .f32
  have h1 : (b * fS .f32) = (a * fS .f32) := Int.eq_of_mul_eq_mul_right (by decide +kernel) e3
  exact (Int.eq_of_mul_eq_mul_right (by omega) h1).symm

theorem same_eq {ps qs : List IP} (hp : allFit ps = true) (hq : allFit qs = true) (h : sameL (tL ps) (tL qs) = true) : ps = qs := by
  obtain ⟨h1, h2⟩ := sameL_all h
  have e : tL ps = tab (nmF ps) ps.length := by unfold tL; rw [if_pos hp]
  have f : tL qs = tab (nmF qs) qs.length := by unfold tL; rw [if_pos hq]
  rw [e, f, tab_len, tab_len] at h1
  rw [← tab_getD (0, 0, ()) ps, ← tab_getD (0, 0, ()) qs, ← h1]
  refine tab_congr _ fun j hj => ?_
  have a := h2 j (by rw [e, tab_len]; exact hj)
  rw [e, f, tab_get _ _ _ _ hj, tab_get _ _ _ _ (by omega)] at a
  unfold smF fSame wdC at a
  rw [Bool.and_eq_true] at a
  have x := allFit_at hp j
  have y := allFit_at hq j
  have u := same_num x.1 y.1 (of_decide_eq_true a.1)
  have v := same_num x.2 y.2 (of_decide_eq_true a.2)
  exact Prod.ext u (Prod.ext v rfl)

/-! ### Least functions of the laws -/

/-- pulseCopy -/
@[reducible] def sCopyC : Spec := { pats := [.dat (.sl C64)], res := [{ t := .sl C64 }], pre := fun x => List.length (α := Nat × Nat) x.1 ≤ 2000000000, f := fun x => (x.1, ()) }
theorem h80 : Ok 16 sCopyC := by
  refine mk (ctr := []) trivial (nt := 6) Tryd.func16 rfl rfl rfl rfl (by kernel_rfl) (by kernel_rfl) (fun _ => []) ?_
  rintro ⟨(xs : CL), _⟩ (h : xs.length ≤ 2000000000)
  repeat' (intro hzz; (try (rename Two => hq; cases hq)); (try dsimp only at hzz); (try simp only [resTy, argTy, eqD, inR, big, wantOf, Bool.not_true, Bool.not_false, Bool.true_eq, decide_eq_true_eq, decide_eq_false_iff_not, Bool.not_eq_true', Bool.not_eq_false', Bool.and_eq_true, Prod.mk.injEq, and_true, true_and, Int.not_lt, Int.not_le, gt_iff_lt, ge_iff_le] at hzz); (try simp only [resTy, argTy, eqD, inR, big, wantOf, Bool.not_true, Bool.not_false, Bool.true_eq, decide_eq_true_eq, decide_eq_false_iff_not, Bool.not_eq_true', Bool.not_eq_false', Bool.and_eq_true, Prod.mk.injEq, and_true, true_and, Int.not_lt, Int.not_le, gt_iff_lt, ge_iff_le, List.nil_append] at hzz); (try (first | contradiction | (exfalso; omega))); (try (revert hzz; intro _)))
  all_goals try (rename Unit => hq; clear hq)
  all_goals try ((with_reducible refine Held.mk ?_); (with_reducible (first | refine Frz.mk ?_ | refine And.intro (Frz.mk ?_) ?_ | refine And.intro ?_ (Frz.mk ?_))); repeat' first | exact True.intro | (change _ = _; with_reducible rfl) | refine And.intro ?_ ?_ | (with_reducible refine Frz.mk ?_))
  all_goals try (refine Held.mk ?_; (try dsimp only at *); (try simp only [resTy, argTy, eqD, inR, big, wantOf, Bool.not_true, Bool.not_false, Bool.true_eq, decide_eq_true_eq, decide_eq_false_iff_not, Bool.not_eq_true', Bool.not_eq_false', Bool.and_eq_true, Prod.mk.injEq, and_true, true_and, Int.not_lt, Int.not_le, gt_iff_lt, ge_iff_le] at *); (try simp only [resTy, argTy, eqD, inR, big, wantOf, Bool.not_true, Bool.not_false, Bool.true_eq, decide_eq_true_eq, decide_eq_false_iff_not, Bool.not_eq_true', Bool.not_eq_false', Bool.and_eq_true, Prod.mk.injEq, and_true, true_and, Int.not_lt, Int.not_le, gt_iff_lt, ge_iff_le, List.nil_append] at *))
  all_goals try omega
  exact (show 0 + xs.length ≤ 2147483648 by omega)

/-- base.Sample -/
@[reducible] def sSample : Spec := { pats := [.dat I64, .dat I64], res := [{ t := C64 }], pre := fun x => ((-10000 : Int) ≤ x.1 ∧ x.1 ≤ (10000 : Int)) ∧ ((-10000 : Int) ≤ x.2.1 ∧ x.2.1 ≤ (10000 : Int)), f := fun x => ((floatOfInt .f32 x.1, floatOfInt .f32 x.2.1), ()) }
theorem h143 : Ok 21 sSample := by
  refine mk (ctr := []) trivial (nt := 14) Tryd.func21 rfl rfl rfl rfl (by kernel_rfl) (by kernel_rfl) (fun _ => []) ?_
  rintro ⟨(a : Int), (b : Int), _⟩ ⟨⟨(h1 : -10000 ≤ a), (h2 : a ≤ 10000)⟩, ⟨(h3 : -10000 ≤ b), (h4 : b ≤ 10000)⟩⟩
  repeat' (intro hzz; (try (rename Two => hq; cases hq)); (try dsimp only at hzz); (try simp only [resTy, argTy, eqD, inR, big, wantOf, Bool.not_true, Bool.not_false, Bool.true_eq, decide_eq_true_eq, decide_eq_false_iff_not, Bool.not_eq_true', Bool.not_eq_false', Bool.and_eq_true, Prod.mk.injEq, and_true, true_and, Int.not_lt, Int.not_le, gt_iff_lt, ge_iff_le] at hzz); (try (first | contradiction | (exfalso; omega))); (try (revert hzz; intro _)))
  all_goals try (rename Unit => hq; clear hq)
  all_goals try ((with_reducible refine Held.mk ?_); (with_reducible (first | refine Frz.mk ?_ | refine And.intro (Frz.mk ?_) ?_ | refine And.intro ?_ (Frz.mk ?_))); repeat' first | exact True.intro | (change _ = _; with_reducible rfl) | refine And.intro ?_ ?_ | (with_reducible refine Frz.mk ?_))
  all_goals try (refine Held.mk ?_; (try dsimp only at *); (try simp only [resTy, argTy, eqD, inR, big, wantOf, Bool.not_true, Bool.not_false, Bool.true_eq, decide_eq_true_eq, decide_eq_false_iff_not, Bool.not_eq_true', Bool.not_eq_false', Bool.and_eq_true, Prod.mk.injEq, and_true, true_and, Int.not_lt, Int.not_le, gt_iff_lt, ge_iff_le] at *))
  all_goals try omega
  simp only [cond_true, cond_false]
  repeat' split
  all_goals first | rfl | (exfalso; omega) | (refine Prod.ext ?_ ?_ <;> (show floatOfInt .f32 _ = floatOfInt .f32 _) <;> (congr 1; omega)) | (exact ⟨rfl, rfl⟩) | (exact ⟨congrArg (floatOfInt .f32) (by omega), congrArg (floatOfInt .f32) (by omega)⟩) | (refine And.intro ?_ ?_ <;> (congr 1; omega)) | (congr 1; omega) | skip

/-- All parts are small. -/
def inAll (B : Int) (ps : List IP) : Bool := ps.all fun p => fWithin p.1 (-B) B && fWithin p.2.1 (-B) B
theorem inAll_at {B : Int} (hB : 0 ≤ B) {ps : List IP} (h : inAll B ps = true) (i : Nat) : inBP B (ps.getD i (0, 0, ())) := by
  by_cases hi : i < ps.length
  · have := List.all_eq_true.1 h ps[i] (List.getElem_mem hi)
    rw [Bool.and_eq_true] at this
    rw [List.getD_eq_getElem?_getD, List.getElem?_eq_getElem hi, Option.getD_some]
    exact ⟨of_decide_eq_true this.1, of_decide_eq_true this.2⟩
  · rw [List.getD_eq_getElem?_getD, List.getElem?_eq_none (by omega)]
    show inBP B (0, 0, ())
    exact ⟨⟨by show -B ≤ 0; omega, hB⟩, ⟨by show -B ≤ 0; omega, hB⟩⟩
theorem inAll_no {B : Int} {ps : List IP} {k : Nat} (hk : k < ps.length) (h : (fWithin (ps.getD k (0, 0, ())).1 (-B) B && fWithin (ps.getD k (0, 0, ())).2.1 (-B) B) = false) : inAll B ps = false := by
  unfold inAll
  rw [List.all_eq_false]
  refine ⟨ps[k], List.getElem_mem hk, ?_⟩
  rw [List.getD_eq_getElem?_getD, List.getElem?_eq_getElem hk, Option.getD_some] at h
  rw [h]; exact Bool.false_ne_true
theorem inAll_yes {B : Int} {ps : List IP} (h : ∀ j, j < ps.length → (fWithin (ps.getD j (0, 0, ())).1 (-B) B && fWithin (ps.getD j (0, 0, ())).2.1 (-B) B) = true) : inAll B ps = true := by
  unfold inAll
  rw [List.all_eq_true]
  intro p hp
  obtain ⟨j, hj, e⟩ := List.mem_iff_getElem.1 hp
  have := h j hj
  rw [List.getD_eq_getElem?_getD, List.getElem?_eq_getElem hj, Option.getD_some, e] at this
  exact this

theorem wi2 {a b B : Int} (h1 : -B ≤ a ∧ a ≤ B) (h2 : -B ≤ b ∧ b ≤ B) : (fWithin a (-B) B && fWithin b (-B) B) = true := by
  rw [show fWithin a (-B) B = true from decide_eq_true h1, show fWithin b (-B) B = true from decide_eq_true h2]; rfl

@[reducible] def sPNum : Spec := { pats := [.dat (.sl PairT), .dat I64], res := [{ own := some 48, t := .sl C64 }, { t := .bool }], pre := fun x => List.length (α := IP) x.1 ≤ 2000000000 ∧ ((0 : Int) ≤ x.2.1 ∧ x.2.1 ≤ (10000 : Int)), f := fun x => ((if inAll x.2.1 x.1 = true then tab (nmF x.1) (List.length (α := IP) x.1) else []), inAll x.2.1 x.1, ()) }

/-- pulseNumbers -/
theorem h79 : Ok 14 sPNum := by
  refine mk (ctr := [(13, sWithin), (21, sSample)]) ⟨h25, h143, trivial⟩ (nt := 51) Tryd.func14 rfl rfl rfl rfl (by kernel_rfl) (by kernel_rfl) (fun x => [fun _ => { σ := Nat, pat := fun k => [sI 7 k] ++ rOwn 6 60006 48 C64 (tab (nmF x.1) k), inv := fun k => k ≤ List.length (α := IP) x.1 ∧ ∀ j, j < k → (fWithin (List.getD (α := IP) x.1 j (0, 0, ())).1 (-x.2.1) x.2.1 && fWithin (List.getD (α := IP) x.1 j (0, 0, ())).2.1 (-x.2.1) x.2.1) = true, meas := fun k => List.length (α := IP) x.1 - k }]) ?_
  rintro ⟨(ps : List IP), (B : Int), _⟩ ⟨(hl : ps.length ≤ 2000000000), ⟨(h0 : 0 ≤ B), (h1 : B ≤ 10000)⟩⟩
  repeat' (intro hzz; (try (rename Two => hq; cases hq)); (try dsimp only at hzz); (try simp only [resTy, argTy, eqD, inR, big, wantOf, Bool.not_true, Bool.not_false, Bool.true_eq, decide_eq_true_eq, decide_eq_false_iff_not, Bool.not_eq_true', Bool.not_eq_false', Bool.and_eq_true, Prod.mk.injEq, and_true, true_and, Int.not_lt, Int.not_le, gt_iff_lt, ge_iff_le] at hzz); (try (first | contradiction | (exfalso; omega))); (try (revert hzz; intro _)))
  all_goals try (rename Unit => hq; clear hq)
  all_goals try ((with_reducible refine Held.mk ?_); (with_reducible (first | refine Frz.mk ?_ | refine And.intro (Frz.mk ?_) ?_ | refine And.intro ?_ (Frz.mk ?_))); repeat' first | exact True.intro | (change _ = _; with_reducible rfl) | refine And.intro ?_ ?_ | (with_reducible refine Frz.mk ?_))
  all_goals try (refine Held.mk ?_; (try dsimp only at *); (try simp only [resTy, argTy, eqD, inR, big, wantOf, Bool.not_true, Bool.not_false, Bool.true_eq, decide_eq_true_eq, decide_eq_false_iff_not, Bool.not_eq_true', Bool.not_eq_false', Bool.and_eq_true, Prod.mk.injEq, and_true, true_and, Int.not_lt, Int.not_le, gt_iff_lt, ge_iff_le] at *))
  all_goals try omega
  · 
    refine GHeld.mk ?_
    refine Exists.intro 0 ?_
    refine And.intro (Leaf.mk ?_) ?_
    · repeat' first | exact True.intro | refine And.intro ?_ ?_
      all_goals try ((change _ = _ <;> try dsimp only) <;> try with_reducible rfl)
      all_goals try omega
      all_goals (rfl)
    exact ⟨Nat.zero_le _, fun j hj => by omega⟩
  · rename_i k hk hlt q1 q2
    have u := inAll_no (B := B) (ps := ps) (k := k) (by omega) (by rw [show fWithin (ps.getD k (0, 0, ())).2.1 (-B) B = false from decide_eq_false q2, Bool.and_false])
    rw [u]; exact ⟨rfl, rfl⟩
  · rename_i k hk hlt q1 q2
    have a := (show -B ≤ (ps.getD k (0, 0, ())).1 ∧ (ps.getD k (0, 0, ())).1 ≤ B from q1)
    have b := (show -B ≤ (ps.getD k (0, 0, ())).2.1 ∧ (ps.getD k (0, 0, ())).2.1 ≤ B from q2)
    exact ⟨⟨(show -10000 ≤ (ps.getD k (0, 0, ())).1 by omega), (show (ps.getD k (0, 0, ())).1 ≤ 10000 by omega)⟩, ⟨(show -10000 ≤ (ps.getD k (0, 0, ())).2.1 by omega), (show (ps.getD k (0, 0, ())).2.1 ≤ 10000 by omega)⟩⟩
  · rename_i k hk hlt q1 q2
    rw [tab_len]; show k + 1 ≤ 2147483648; omega
  · rename_i k hk hlt q1 q2
    refine GHeld.mk ?_
    refine Exists.intro (k + 1) ?_
    refine And.intro (Leaf.mk ?_) ?_
    · repeat' first | exact True.intro | refine And.intro ?_ ?_
      all_goals try ((change _ = _ <;> try dsimp only) <;> try with_reducible rfl)
      all_goals try omega
      all_goals (rfl)
    refine ⟨⟨by show k + 1 ≤ ps.length; omega, fun j hj => ?_⟩, by show ps.length - (k + 1) < ps.length - k; omega⟩
    by_cases e : j = k
    · rw [e]; exact wi2 q1 q2
    · have h := hk.2 j (by omega); exact wi2 h.1 h.2
  · rename_i k hk hlt q1
    have u := inAll_no (B := B) (ps := ps) (k := k) (by omega) (by rw [show fWithin (ps.getD k (0, 0, ())).1 (-B) B = false from decide_eq_false q1, Bool.false_and])
    rw [u]; exact ⟨rfl, rfl⟩
  · rename_i k hk hge
    have u := inAll_yes (B := B) (ps := ps) (fun j hj => by
      have h := hk.2 j (by omega)
      rw [show fWithin (ps.getD j (0, 0, ())).1 (-B) B = true from decide_eq_true h.1, show fWithin (ps.getD j (0, 0, ())).2.1 (-B) B = true from decide_eq_true h.2]; rfl)
    rw [u, show k = ps.length by omega]; exact ⟨rfl, rfl⟩

/-- pulseMaximal -/
def pmB (L : Int) (ts : List Int) (s : Int) : Bool := decide (ts.length ≤ 8) && (decide (opErr L ts s = 0) && (decide (L ≤ 5) && decide ((per L ts 1 : Int) = most L)))
@[reducible] def sPMax : Spec := { pats := [.dat StartT'], res := [{ t := .bool }], pre := fun _ => True, f := fun x => (pmB x.1.1.1 x.1.1.2.1 x.1.2.1, ()) }
theorem h78 : Ok 11 sPMax := by
  refine mk (ctr := [(34, sStartR), (35, sRIsMax)]) ⟨h23, h64, trivial⟩ (nt := 27) Tryd.func11 rfl rfl rfl rfl (by kernel_rfl) (by kernel_rfl) (fun _ => []) ?_
  rintro ⟨⟨⟨(L : Int), (ts : List Int), _⟩, (s : Int), _⟩, _⟩ _
  by_cases h8 : ts.length ≤ 8
  · have hts : pLen ts.length := by unfold pLen; omega
    by_cases ho : opErr L ts s = 0
    · have hst := (op_pSt hts ho).1
      by_cases h5 : L ≤ 5
      · have u : pmB L ts s = decide ((per L ts 1 : Int) = most L) := by unfold pmB; rw [decide_eq_true h8, decide_eq_true ho, decide_eq_true h5]; rfl
        repeat' (intro hzz; (try (rename Two => hq; cases hq)); (try dsimp only at hzz); (try simp only [resTy, argTy, eqD, inR, big, wantOf, Bool.not_true, Bool.not_false, Bool.true_eq, decide_eq_true_eq, decide_eq_false_iff_not, Bool.not_eq_true', Bool.not_eq_false', Bool.and_eq_true, Prod.mk.injEq, and_true, true_and, Int.not_lt, Int.not_le, gt_iff_lt, ge_iff_le] at hzz); (try simp only [resTy, argTy, eqD, inR, big, wantOf, Bool.not_true, Bool.not_false, Bool.true_eq, decide_eq_true_eq, decide_eq_false_iff_not, Bool.not_eq_true', Bool.not_eq_false', Bool.and_eq_true, Prod.mk.injEq, and_true, true_and, Int.not_lt, Int.not_le, gt_iff_lt, ge_iff_le, ho, u] at hzz); (try (first | contradiction | (exfalso; omega))); (try (revert hzz; intro _)))
        all_goals try (rename Unit => hq; clear hq)
        all_goals try ((with_reducible refine Held.mk ?_); (with_reducible (first | refine Frz.mk ?_ | refine And.intro (Frz.mk ?_) ?_ | refine And.intro ?_ (Frz.mk ?_))); repeat' first | exact True.intro | (change _ = _; with_reducible rfl) | refine And.intro ?_ ?_ | (with_reducible refine Frz.mk ?_))
        all_goals try (refine Held.mk ?_; (try dsimp only at *); (try simp only [resTy, argTy, eqD, inR, big, wantOf, Bool.not_true, Bool.not_false, Bool.true_eq, decide_eq_true_eq, decide_eq_false_iff_not, Bool.not_eq_true', Bool.not_eq_false', Bool.and_eq_true, Prod.mk.injEq, and_true, true_and, Int.not_lt, Int.not_le, gt_iff_lt, ge_iff_le] at *); (try simp only [resTy, argTy, eqD, inR, big, wantOf, Bool.not_true, Bool.not_false, Bool.true_eq, decide_eq_true_eq, decide_eq_false_iff_not, Bool.not_eq_true', Bool.not_eq_false', Bool.and_eq_true, Prod.mk.injEq, and_true, true_and, Int.not_lt, Int.not_le, gt_iff_lt, ge_iff_le, ho, u] at *))
        all_goals try omega
        all_goals exact ⟨hst.1, hts⟩
      · have u : pmB L ts s = false := by unfold pmB; rw [decide_eq_true h8, decide_eq_true ho, decide_eq_false h5]; rfl
        repeat' (intro hzz; (try (rename Two => hq; cases hq)); (try dsimp only at hzz); (try simp only [resTy, argTy, eqD, inR, big, wantOf, Bool.not_true, Bool.not_false, Bool.true_eq, decide_eq_true_eq, decide_eq_false_iff_not, Bool.not_eq_true', Bool.not_eq_false', Bool.and_eq_true, Prod.mk.injEq, and_true, true_and, Int.not_lt, Int.not_le, gt_iff_lt, ge_iff_le] at hzz); (try simp only [resTy, argTy, eqD, inR, big, wantOf, Bool.not_true, Bool.not_false, Bool.true_eq, decide_eq_true_eq, decide_eq_false_iff_not, Bool.not_eq_true', Bool.not_eq_false', Bool.and_eq_true, Prod.mk.injEq, and_true, true_and, Int.not_lt, Int.not_le, gt_iff_lt, ge_iff_le, ho, u] at hzz); (try (first | contradiction | (exfalso; omega))); (try (revert hzz; intro _)))
        all_goals try (rename Unit => hq; clear hq)
        all_goals try ((with_reducible refine Held.mk ?_); (with_reducible (first | refine Frz.mk ?_ | refine And.intro (Frz.mk ?_) ?_ | refine And.intro ?_ (Frz.mk ?_))); repeat' first | exact True.intro | (change _ = _; with_reducible rfl) | refine And.intro ?_ ?_ | (with_reducible refine Frz.mk ?_))
        all_goals try (refine Held.mk ?_; (try dsimp only at *); (try simp only [resTy, argTy, eqD, inR, big, wantOf, Bool.not_true, Bool.not_false, Bool.true_eq, decide_eq_true_eq, decide_eq_false_iff_not, Bool.not_eq_true', Bool.not_eq_false', Bool.and_eq_true, Prod.mk.injEq, and_true, true_and, Int.not_lt, Int.not_le, gt_iff_lt, ge_iff_le] at *); (try simp only [resTy, argTy, eqD, inR, big, wantOf, Bool.not_true, Bool.not_false, Bool.true_eq, decide_eq_true_eq, decide_eq_false_iff_not, Bool.not_eq_true', Bool.not_eq_false', Bool.and_eq_true, Prod.mk.injEq, and_true, true_and, Int.not_lt, Int.not_le, gt_iff_lt, ge_iff_le, ho, u] at *))
        all_goals try omega
    · have u : pmB L ts s = false := by unfold pmB; rw [decide_eq_true h8, decide_eq_false ho]; rfl
      repeat' (intro hzz; (try (rename Two => hq; cases hq)); (try dsimp only at hzz); (try simp only [resTy, argTy, eqD, inR, big, wantOf, Bool.not_true, Bool.not_false, Bool.true_eq, decide_eq_true_eq, decide_eq_false_iff_not, Bool.not_eq_true', Bool.not_eq_false', Bool.and_eq_true, Prod.mk.injEq, and_true, true_and, Int.not_lt, Int.not_le, gt_iff_lt, ge_iff_le] at hzz); (try simp only [resTy, argTy, eqD, inR, big, wantOf, Bool.not_true, Bool.not_false, Bool.true_eq, decide_eq_true_eq, decide_eq_false_iff_not, Bool.not_eq_true', Bool.not_eq_false', Bool.and_eq_true, Prod.mk.injEq, and_true, true_and, Int.not_lt, Int.not_le, gt_iff_lt, ge_iff_le, u] at hzz); (try (first | contradiction | (exfalso; omega))); (try (revert hzz; intro _)))
      all_goals try (rename Unit => hq; clear hq)
      all_goals try ((with_reducible refine Held.mk ?_); (with_reducible (first | refine Frz.mk ?_ | refine And.intro (Frz.mk ?_) ?_ | refine And.intro ?_ (Frz.mk ?_))); repeat' first | exact True.intro | (change _ = _; with_reducible rfl) | refine And.intro ?_ ?_ | (with_reducible refine Frz.mk ?_))
      all_goals try (refine Held.mk ?_; (try dsimp only at *); (try simp only [resTy, argTy, eqD, inR, big, wantOf, Bool.not_true, Bool.not_false, Bool.true_eq, decide_eq_true_eq, decide_eq_false_iff_not, Bool.not_eq_true', Bool.not_eq_false', Bool.and_eq_true, Prod.mk.injEq, and_true, true_and, Int.not_lt, Int.not_le, gt_iff_lt, ge_iff_le] at *); (try simp only [resTy, argTy, eqD, inR, big, wantOf, Bool.not_true, Bool.not_false, Bool.true_eq, decide_eq_true_eq, decide_eq_false_iff_not, Bool.not_eq_true', Bool.not_eq_false', Bool.and_eq_true, Prod.mk.injEq, and_true, true_and, Int.not_lt, Int.not_le, gt_iff_lt, ge_iff_le, u] at *))
      all_goals try omega
  · have u : pmB L ts s = false := by unfold pmB; rw [decide_eq_false h8]; rfl
    repeat' (intro hzz; (try (rename Two => hq; cases hq)); (try dsimp only at hzz); (try simp only [resTy, argTy, eqD, inR, big, wantOf, Bool.not_true, Bool.not_false, Bool.true_eq, decide_eq_true_eq, decide_eq_false_iff_not, Bool.not_eq_true', Bool.not_eq_false', Bool.and_eq_true, Prod.mk.injEq, and_true, true_and, Int.not_lt, Int.not_le, gt_iff_lt, ge_iff_le] at hzz); (try simp only [resTy, argTy, eqD, inR, big, wantOf, Bool.not_true, Bool.not_false, Bool.true_eq, decide_eq_true_eq, decide_eq_false_iff_not, Bool.not_eq_true', Bool.not_eq_false', Bool.and_eq_true, Prod.mk.injEq, and_true, true_and, Int.not_lt, Int.not_le, gt_iff_lt, ge_iff_le, u] at hzz); (try (first | contradiction | (exfalso; omega))); (try (revert hzz; intro _)))
    all_goals try (rename Unit => hq; clear hq)
    all_goals try ((with_reducible refine Held.mk ?_); (with_reducible (first | refine Frz.mk ?_ | refine And.intro (Frz.mk ?_) ?_ | refine And.intro ?_ (Frz.mk ?_))); repeat' first | exact True.intro | (change _ = _; with_reducible rfl) | refine And.intro ?_ ?_ | (with_reducible refine Frz.mk ?_))
    all_goals try (refine Held.mk ?_; (try dsimp only at *); (try simp only [resTy, argTy, eqD, inR, big, wantOf, Bool.not_true, Bool.not_false, Bool.true_eq, decide_eq_true_eq, decide_eq_false_iff_not, Bool.not_eq_true', Bool.not_eq_false', Bool.and_eq_true, Prod.mk.injEq, and_true, true_and, Int.not_lt, Int.not_le, gt_iff_lt, ge_iff_le] at *); (try simp only [resTy, argTy, eqD, inR, big, wantOf, Bool.not_true, Bool.not_false, Bool.true_eq, decide_eq_true_eq, decide_eq_false_iff_not, Bool.not_eq_true', Bool.not_eq_false', Bool.and_eq_true, Prod.mk.injEq, and_true, true_and, Int.not_lt, Int.not_le, gt_iff_lt, ge_iff_le, u] at *))
    all_goals try omega

@[reducible] def sPulsed : Spec := { pats := [], res := [{ t := .bool }], pre := fun _ => True, f := fun _ => (true, ()) }

def ex1 : CL := lsL [(1082130432, 0, ()), (3212836864, 1073741824, ())]
def ex2 : CL := lsL [(3225419776, 3221225472, ()), (1084227584, 3221225472, ()), (3231711232, 1073741824, ())]
def ex3 : CL := lsL [(1082130432, 0, ()), (3212836864, 1073741824, ()), (0, 0, ())]
theorem ex_ok : exE ex1 2 [1, 2] 1 = 0 ∧ exR ex1 2 [1, 2] 1 = ex2 ∧ ufE ex2 2 [1, 2] 1 = 0 ∧ ufR ex2 2 [1, 2] 1 = ex3 := by decide +kernel

end Go.Eng.Pu

namespace Go.Eng.Pu
open Go.Eng Go.Proofs
set_option linter.all false
set_option maxRecDepth 100000

theorem sm_front (f : Nat → Int) : ∀ n : Nat, sm f (n + 1) = f 0 + sm (fun i => f (i + 1)) n
  | 0 => by show sm f 0 + f 0 = f 0 + sm _ 0; simp [sm]
  | n + 1 => by
    show sm f (n + 1) + f (n + 1) = f 0 + (sm (fun i => f (i + 1)) n + f (n + 1))
    rw [sm_front f n]; omega

theorem sm_rev (F : Nat → Int) : ∀ n : Nat, sm (fun j => F (n - j)) n = sm (fun i => F (i + 1)) n
  | 0 => rfl
  | n + 1 => by
    rw [sm_front]
    have e : sm (fun i => F (n + 1 - (i + 1))) n = sm (fun j => F (n - j)) n := sm_congr n fun i _ => by rw [Nat.add_sub_add_right]
    rw [e, sm_rev F n]
    show F (n + 1) + _ = sm (fun i => F (i + 1)) n + F (n + 1)
    omega

theorem sum_signs' {L : Int} {ts : List Int} {s : Int} (m : Mx L ts s) (t : Nat) : sm (fun k => sgA (sgL L ts s) ((t : Int) - k)) (most L).toNat = -1 := by
  have e : sm (fun k => sgA (sgL L ts s) ((t : Int) - k)) (most L).toNat = sm (fun k => (fun i => sgI L ts s (i + t)) ((most L).toNat - k)) (most L).toNat := sm_congr _ fun k hk => by
    rw [sgA_diff m (Nat.le_of_lt hk), Nat.add_comm]
  rw [e, sm_rev (fun i => sgI L ts s (i + t))]
  have h := sm_turn (sgI_turn m) (t + 1)
  have a := sumS_one m.hst.1 m.hst.2.1 m.hM m.hst m.hs
  rw [sum_max m.hst.1 m.hst.2.1 m.hM] at a
  unfold sumS at a
  rw [m.N] at a
  rw [← a, ← h]
  exact sm_congr _ fun i _ => by show sgI L ts s (i + 1 + t) = _; rw [show i + 1 + t = i + (t + 1) by omega]

theorem cor_two' {L : Int} {ts : List Int} {s : Int} (m : Mx L ts s) {j t : Nat} (hj : j < (most L).toNat) (ht : t < (most L).toNat) :
    sm (fun k => sgA (sgL L ts s) ((j : Int) - k) * sgA (sgL L ts s) ((t : Int) - k)) (most L).toNat = if j = t then most L else -1 := by
  have e : sm (fun k => sgA (sgL L ts s) ((j : Int) - k) * sgA (sgL L ts s) ((t : Int) - k)) (most L).toNat = sm (fun k => (fun i => sgI L ts s (i + j) * sgI L ts s (i + t)) ((most L).toNat - k)) (most L).toNat := sm_congr _ fun k hk => by
    rw [sgA_diff m (Nat.le_of_lt hk), sgA_diff m (Nat.le_of_lt hk), Nat.add_comm, Nat.add_comm t]
  rw [e, sm_rev (fun i => sgI L ts s (i + j) * sgI L ts s (i + t))]
  have key : ∀ a b : Nat, a ≤ b → b < (most L).toNat → sm (fun i => sgI L ts s (i + 1 + a) * sgI L ts s (i + 1 + b)) (most L).toNat = if a = b then most L else -1 := fun a b hab hb => by
    have := cor_le m (a := a + 1) (b := b + 1) (by omega) (by omega)
    rw [sm_congr _ fun i _ => by rw [show i + 1 + a = i + (a + 1) by omega, show i + 1 + b = i + (b + 1) by omega], this]
    by_cases h : a = b
    · rw [if_pos h, if_pos (by omega)]
    · rw [if_neg h, if_neg (by omega)]
  rcases Nat.le_total j t with h | h
  · exact key j t h ht
  · rw [sm_congr _ fun i _ => Int.mul_comm _ _, key t j h hj]
    by_cases e : j = t
    · rw [if_pos e, if_pos e.symm]
    · rw [if_neg e, if_neg (fun h => e h.symm)]

/-- The response that correlation tells excites the recording. -/
theorem forth_sum {L : Int} {ts : List Int} {s : Int} (m : Mx L ts s) (y h : Nat → Int) (hh : ∀ k, k < (most L).toNat → (most L + 1) * h k = sm (fun t => y t * sgA (sgL L ts s) ((t : Int) - k)) (most L).toNat - sm y (most L).toNat) {t : Nat} (ht : t < (most L).toNat) :
    sm (fun k => h k * sgA (sgL L ts s) ((t : Int) - k)) (most L).toNat = y t := by
  have hpos := m.pos
  have e0 : (most L + 1) * sm (fun k => h k * sgA (sgL L ts s) ((t : Int) - k)) (most L).toNat = (most L + 1) * y t := by
    rw [← sm_mul]
    have e1 : ∀ k, k < (most L).toNat → (most L + 1) * (h k * sgA (sgL L ts s) ((t : Int) - k)) = sm (fun u => y u * (sgA (sgL L ts s) ((u : Int) - k) * sgA (sgL L ts s) ((t : Int) - k))) (most L).toNat + -sm y (most L).toNat * sgA (sgL L ts s) ((t : Int) - k) := fun k hk => by
      have a : sm (fun u => y u * (sgA (sgL L ts s) ((u : Int) - k) * sgA (sgL L ts s) ((t : Int) - k))) (most L).toNat = sgA (sgL L ts s) ((t : Int) - k) * sm (fun u => y u * sgA (sgL L ts s) ((u : Int) - k)) (most L).toNat := by
        rw [← sm_mul]; exact sm_congr _ fun u _ => by grind
      rw [a, ← Int.mul_assoc, hh k hk]; grind
    rw [sm_congr _ e1, sm_add, sm_comm, sm_mul, sum_signs' m t]
    have e2 : sm (fun u => sm (fun k => y u * (sgA (sgL L ts s) ((u : Int) - k) * sgA (sgL L ts s) ((t : Int) - k))) (most L).toNat) (most L).toNat = sm (fun u => y u * (if u = t then most L else -1)) (most L).toNat := sm_congr _ fun u hu => by
      rw [sm_mul, cor_two' m hu ht]
    rw [e2, sm_pick, if_pos ht]; grind
  exact Int.eq_of_mul_eq_mul_left (by omega) e0

/-- A list folded to its own length. -/
theorem flL_self {ps : List IP} {n : Nat} (h : ps.length = n) : flL ps n ps.length = ps := by
  unfold flL
  refine Eq.trans (tab_congr n fun i hi => ?_) (by rw [← h]; exact tab_getD (0, 0, ()) ps)
  have key : ∀ k, k ≤ n → flV ps n i k = if i < k then ps.getD i (0, 0, ()) else (0, 0, ()) := by
    intro k
    induction k with
    | zero => intro _; rw [if_neg (by omega)]; rfl
    | succ k ih =>
      intro hk
      show (if i = k % n then plusP (flV ps n i k) (ps.getD k (0, 0, ())) else flV ps n i k) = _
      rw [Nat.mod_eq_of_lt (by omega), ih (by omega)]
      by_cases e : i = k
      · subst e; rw [if_pos rfl, if_neg (by omega), if_pos (by omega), plusP_zero']
      · rw [if_neg e]
        by_cases h2 : i < k
        · rw [if_pos h2, if_pos (by omega)]
        · rw [if_neg h2, if_neg (by omega)]
  rw [h, key n (Nat.le_refl _), if_pos hi]

theorem mul_of_mod {a n : Int} (h : a % n = 0) : n * (a / n) = a := Int.mul_ediv_cancel' (Int.dvd_of_emod_eq_zero h)

/-- What is excited of what is unfolded is the recording. -/
theorem excite_back {Y X : CL} {L : Int} {ts : List Int} {s : Int} (m : Mx L ts s) (hl : (lP Y).length = (most L).toNat) (hB : ufB Y L ts s = true) (hX : lP X = ufL Y L ts s) : exf X L = ufL Y L ts s ∧ exL X L ts s = lP Y := by
  have hpos := m.pos
  have hul : (ufL Y L ts s).length = (most L).toNat := tab_len _ _
  have hx : exf X L = ufL Y L ts s := by
    unfold exf
    rw [hX]
    exact flL_self hul
  refine ⟨hx, ?_⟩
  have hd : ∀ k, k < (most L).toNat → dvB (most L + 1) (ufV Y L ts s k) = true := fun k hk => by
    unfold ufB at hB
    exact List.all_eq_true.1 hB _ (mem_tab' hk)
  have hg : ∀ k, k < (most L).toNat → (ufL Y L ts s).getD k (0, 0, ()) = qoP (most L + 1) (ufV Y L ts s k) := fun k hk => tab_get _ _ _ _ hk
  have hs : ∀ k t : Nat, sgA (sgL L ts s) (-1 * ((k : Int) - t)) = sgA (sgL L ts s) ((t : Int) - k) := fun k t => by rw [show -1 * ((k : Int) - t) = (t : Int) - k by omega]
  have h1 : ∀ k, k < (most L).toNat → (most L + 1) * ((ufL Y L ts s).getD k (0, 0, ())).1 = sm (fun t => ((lP Y).getD t (0, 0, ())).1 * sgA (sgL L ts s) ((t : Int) - k)) (most L).toNat - sm (fun t => ((lP Y).getD t (0, 0, ())).1) (most L).toNat := fun k hk => by
    have d := hd k hk
    unfold dvB at d
    rw [Bool.and_eq_true] at d
    rw [hg k hk]
    show (most L + 1) * ((ufV Y L ts s k).1 / (most L + 1)) = _
    rw [mul_of_mod (of_decide_eq_true d.1)]
    show (trV (lP Y) (sgL L ts s) k (-1) (lP Y).length).1 - (flV (lP Y) 1 0 (lP Y).length).1 = _
    rw [trV_1, flV_1, hl, sm_congr _ fun t _ => by rw [hs k t]]
  have h2 : ∀ k, k < (most L).toNat → (most L + 1) * ((ufL Y L ts s).getD k (0, 0, ())).2.1 = sm (fun t => ((lP Y).getD t (0, 0, ())).2.1 * sgA (sgL L ts s) ((t : Int) - k)) (most L).toNat - sm (fun t => ((lP Y).getD t (0, 0, ())).2.1) (most L).toNat := fun k hk => by
    have d := hd k hk
    unfold dvB at d
    rw [Bool.and_eq_true] at d
    rw [hg k hk]
    show (most L + 1) * ((ufV Y L ts s k).2.1 / (most L + 1)) = _
    rw [mul_of_mod (of_decide_eq_true d.2)]
    show (trV (lP Y) (sgL L ts s) k (-1) (lP Y).length).2.1 - (flV (lP Y) 1 0 (lP Y).length).2.1 = _
    rw [trV_2, flV_2, hl, sm_congr _ fun t _ => by rw [hs k t]]
  unfold exL
  refine Eq.trans (tab_congr _ fun t ht => ?_) (by rw [← hl]; exact tab_getD (0, 0, ()) (lP Y))
  have a := forth_sum m _ _ h1 ht
  have b := forth_sum m _ _ h2 ht
  refine Prod.ext ?_ (Prod.ext ?_ rfl)
  · rw [exF_1, hx]; exact a
  · rw [exF_2, hx]; exact b

/-- Small recordings are unfolded to small responses. -/
theorem sm_in {f : Nat → Int} {B : Int} (h : ∀ i, -B ≤ f i ∧ f i ≤ B) : ∀ n : Nat, -(n * B) ≤ sm f n ∧ sm f n ≤ n * B
  | 0 => by simp [sm]
  | n + 1 => by
    have a := sm_in h n
    have b := h n
    have e : ((n + 1 : Nat) : Int) * B = n * B + B := by rw [Int.natCast_add, Int.add_mul]; simp
    show _ ≤ sm f n + f n ∧ sm f n + f n ≤ _
    rw [e]; omega

theorem ufV_small {Y : CL} {L : Int} {ts : List Int} {s : Int} (hst : pSt L ts s) (hl : (lP Y).length = (most L).toNat) (hb : ∀ i, inBP 10000 ((lP Y).getD i (0, 0, ()))) (k : Nat) : inBP (most L * 20000) (ufV Y L ts s k) := by
  have hpos := most_in (chk_zero hst.1).1
  have hso := sgL_ok hst
  have a1 := sm_in (f := fun t => ((lP Y).getD t (0, 0, ())).1 * sgA (sgL L ts s) (-1 * ((k : Int) - t))) (B := 10000) (fun t => by_in (hb t).1.1 (hb t).1.2 (hso _).1 (hso _).2) (most L).toNat
  have a2 := sm_in (f := fun t => ((lP Y).getD t (0, 0, ())).2.1 * sgA (sgL L ts s) (-1 * ((k : Int) - t))) (B := 10000) (fun t => by_in (hb t).2.1 (hb t).2.2 (hso _).1 (hso _).2) (most L).toNat
  have b1 := sm_in (f := fun t => ((lP Y).getD t (0, 0, ())).1) (B := 10000) (fun t => (hb t).1) (most L).toNat
  have b2 := sm_in (f := fun t => ((lP Y).getD t (0, 0, ())).2.1) (B := 10000) (fun t => (hb t).2) (most L).toNat
  have e1 : (ufV Y L ts s k).1 = sm (fun t => ((lP Y).getD t (0, 0, ())).1 * sgA (sgL L ts s) (-1 * ((k : Int) - t))) (most L).toNat - sm (fun t => ((lP Y).getD t (0, 0, ())).1) (most L).toNat := by
    show (trV (lP Y) (sgL L ts s) k (-1) (lP Y).length).1 - (flV (lP Y) 1 0 (lP Y).length).1 = _
    rw [trV_1, flV_1, hl]
  have e2 : (ufV Y L ts s k).2.1 = sm (fun t => ((lP Y).getD t (0, 0, ())).2.1 * sgA (sgL L ts s) (-1 * ((k : Int) - t))) (most L).toNat - sm (fun t => ((lP Y).getD t (0, 0, ())).2.1) (most L).toNat := by
    show (trV (lP Y) (sgL L ts s) k (-1) (lP Y).length).2.1 - (flV (lP Y) 1 0 (lP Y).length).2.1 = _
    rw [trV_2, flV_2, hl]
  have hn : (((most L).toNat : Nat) : Int) = most L := by omega
  rw [hn] at a1 a2 b1 b2
  exact ⟨⟨by rw [e1]; omega, by rw [e1]; omega⟩, ⟨by rw [e2]; omega, by rw [e2]; omega⟩⟩

theorem quo_small {a n : Int} (hn : 0 < n) (h : -(n * 20000) ≤ a ∧ a ≤ n * 20000) : -20000 ≤ a / (n + 1) ∧ a / (n + 1) ≤ 20000 := by
  constructor
  · exact (Int.le_ediv_iff_mul_le (by omega)).2 (by omega)
  · exact Int.le_trans (Int.ediv_le_ediv (by omega) (show a ≤ (n + 1) * 20000 by omega)) (by rw [Int.mul_ediv_cancel_left _ (by omega)]; omega)

theorem ufL_small {Y : CL} {L : Int} {ts : List Int} {s : Int} (hst : pSt L ts s) (hl : (lP Y).length = (most L).toNat) (hb : ∀ i, inBP 10000 ((lP Y).getD i (0, 0, ()))) : okL 20000 (ufL Y L ts s) := okL_tab (by decide) fun k _ => by
  have hpos := most_in (chk_zero hst.1).1
  have h := ufV_small hst hl hb k
  exact ⟨quo_small (by omega) h.1, quo_small (by omega) h.2⟩

theorem uw_small {p w n : Int} (hp : 2 ≤ p) (hp2 : p ≤ 16000403) (ps : List IP) (sg : List Int) : okL 16777216 (uwL p w n ps sg) := okL_tab (by decide) fun i _ => by
  have h : ∀ xs bs : List Int, -16777216 ≤ uiF p w n xs bs i ∧ uiF p w n xs bs i ≤ 16777216 := fun xs bs => by
    have := backF_in (w := w) (n := n) hp (quL p w xs bs) i
    unfold uiF hfc
    split <;> omega
  exact ⟨h (prtL ps 0) (dftL p w sg), h (prtL ps 1) (dftL p w sg)⟩

theorem okL_fit {ps : List IP} (h : okL 16777216 ps) : allFit ps = true := by
  unfold allFit
  rw [List.all_eq_true]
  intro p hp
  obtain ⟨j, hj, e⟩ := List.mem_iff_getElem.1 hp
  have := h j
  rw [List.getD_eq_getElem?_getD, List.getElem?_eq_getElem hj, Option.getD_some, e] at this
  show (fRec p.1 && fRec p.2.1) = true
  rw [show fRec p.1 = true from decide_eq_true this.1, show fRec p.2.1 = true from decide_eq_true this.2]; rfl

end Go.Eng.Pu

namespace Go.Eng.Pu
open Go.Eng Go.Proofs Ieee
set_option linter.all false
set_option maxRecDepth 100000

/-! ### Sums of floats -/

theorem read_zero (f : Format) (neg : Bool) (place : Int) : f.read (f.nearest neg 0 place) = .number neg 0 f.leastPlace := by
  unfold Format.nearest
  rw [if_pos rfl]
  have hsw : 0 < f.signWeight := Nat.two_pow_pos _
  have hB : 0 < f.binade := Nat.two_pow_pos _
  unfold Format.read Format.word
  cases neg with
  | false => simp [hB, Nat.div_eq_of_lt hsw]
  | true => simp [hB, Nat.div_self hsw]

theorem sg_of (S : Int) : sg (decide (S < 0)) S.natAbs = S := by
  unfold sg
  by_cases h : S < 0
  · rw [decide_eq_true h, if_pos rfl]; omega
  · rw [decide_eq_false h]
    show ((S.natAbs : Nat) : Int) = S
    omega

theorem lp32 : FloatKind.f32.format.leastPlace = -149 := by decide
theorem fb32 : FloatKind.f32.format.fractionBits = 23 := by decide
theorem eb32 : FloatKind.f32.format.exponentBits = 8 := by decide

/-- The value of what is written. -/
theorem near_val {neg : Bool} {m j : Nat} {place : Int} (hm : m ≠ 0) (h1 : m < 16777216) (h2 : -149 ≤ place + j) (h3 : place + j ≤ 60) (hp : -149 ≤ place) :
    fN .f32 (FloatKind.f32.format.nearest neg (m * 2 ^ j) place) = true ∧ fV .f32 (FloatKind.f32.format.nearest neg (m * 2 ^ j) place) = sg neg (m * 2 ^ j * 2 ^ (place + 149).toNat) := by
  have hl : m.log2 ≤ 23 := by
    have : m.log2 < 24 := (Nat.log2_lt hm).2 (by simpa using h1)
    omega
  obtain ⟨k, i, g1, g2, g3, g4⟩ := nearest_read FloatKind.f32.format neg m j place (by decide) hm (by rw [fb32]; exact hl) (by rw [lp32]; exact h2) (by rw [lp32, fb32, eb32]; omega)
  unfold fN fV
  rw [g1]
  refine ⟨rfl, ?_⟩
  show signed neg k (i - FloatKind.f32.format.leastPlace).toNat = _
  rw [lp32] at g2
  rw [signed_sg, g4, lp32, Nat.mul_assoc, ← Nat.pow_add, Nat.mul_assoc, ← Nat.pow_add]
  congr 3; omega

theorem fS32 : fS .f32 = 2 ^ 149 := by decide

theorem foi_add {a b : Int} (ha : -1000000 ≤ a ∧ a ≤ 1000000) (hb : -1000000 ≤ b ∧ b ≤ 1000000) :
    ∃ r, FloatKind.f32.format.add (floatOfInt .f32 a) (floatOfInt .f32 b) = some r ∧ fN .f32 r = true ∧ fV .f32 r = (a + b) * fS .f32 := by
  obtain ⟨a1, a2⟩ := foi_num (n := a) (by omega) (by omega)
  obtain ⟨b1, b2⟩ := foi_num (n := b) (by omega) (by omega)
  obtain ⟨s, m, i, e⟩ := fN_ex a1
  obtain ⟨t, n, j, g⟩ := fN_ex b1
  have li := (read_log _ _ (by decide) e).1
  have lj := (read_log _ _ (by decide) g).1
  rw [lp32] at li lj
  unfold fV at a2 b2
  rw [e] at a2
  rw [g] at b2
  have a2 : signed s m (i - -149).toNat = a * fS .f32 := by rw [← a2, ← lp32]; rfl
  have b2 : signed t n (j - -149).toNat = b * fS .f32 := by rw [← b2, ← lp32]; rfl
  unfold Format.add
  rw [e, g]
  generalize hbase : min i j = base
  have hb1 : -149 ≤ base := by omega
  have e1 : signed s m (i - -149).toNat = signed s m (i - base).toNat * 2 ^ (base + 149).toNat := by
    rw [← signed_add]; congr 1; omega
  have e2 : signed t n (j - -149).toNat = signed t n (j - base).toNat * 2 ^ (base + 149).toNat := by
    rw [← signed_add]; congr 1; omega
  have hs : (Datum.number s m i).sum (Datum.number t n j) = some (.number (if signed s m (i - base).toNat + signed t n (j - base).toNat = 0 then s && t else decide (signed s m (i - base).toNat + signed t n (j - base).toNat < 0)) (signed s m (i - base).toNat + signed t n (j - base).toNat).natAbs base) := by
    simp only [Datum.sum, hbase]
  rw [hs]
  generalize hT : signed s m (i - base).toNat + signed t n (j - base).toNat = T
  have hTe : T * 2 ^ (base + 149).toNat = (a + b) * 2 ^ 149 := by
    rw [← hT, Int.add_mul, ← e1, ← e2, a2, b2, fS32, Int.add_mul]
  refine ⟨_, rfl, ?_⟩
  show fN .f32 (FloatKind.f32.format.nearest _ T.natAbs base) = true ∧ fV .f32 (FloatKind.f32.format.nearest _ T.natAbs base) = _
  have hpp : (0 : Int) < 2 ^ (base + 149).toNat := Int.pow_pos (by decide)
  by_cases h0 : T = 0
  · have hab : a + b = 0 := by
      rw [h0, Int.zero_mul] at hTe
      rcases Int.mul_eq_zero.1 hTe.symm with h | h
      · exact h
      · exact absurd h (by decide)
    rw [h0]
    unfold fN fV
    rw [show (0 : Int).natAbs = 0 from rfl, read_zero]
    refine ⟨rfl, ?_⟩
    rw [hab, Int.zero_mul]
    show signed _ 0 _ = 0
    rw [signed_sg, Nat.zero_mul]
    unfold sg
    split <;> simp
  · rw [if_neg h0]
    have hn : T.natAbs * 2 ^ (base + 149).toNat = (a + b).natAbs * 2 ^ 149 := by
      have := congrArg Int.natAbs hTe
      rw [Int.natAbs_mul, Int.natAbs_mul, Int.natAbs_pow, Int.natAbs_pow] at this
      exact this
    have hsg : decide (T < 0) = decide (a + b < 0) := by
      rw [decide_eq_decide]
      constructor
      · intro h
        have h2 : T * 2 ^ (base + 149).toNat < 0 := Int.mul_neg_of_neg_of_pos h hpp
        rw [hTe] at h2
        by_cases hc : a + b < 0
        · exact hc
        · exact absurd (Int.mul_nonneg (show 0 ≤ a + b by omega) (show (0 : Int) ≤ 2 ^ 149 by decide)) (by omega)
      · intro h
        have h2 : (a + b) * 2 ^ 149 < 0 := Int.mul_neg_of_neg_of_pos h (by decide)
        rw [← hTe] at h2
        by_cases hc : T < 0
        · exact hc
        · exact absurd (Int.mul_nonneg (show 0 ≤ T by omega) (Int.le_of_lt hpp)) (by omega)
    have fin : sg (decide (T < 0)) (T.natAbs * 2 ^ (base + 149).toNat) = (a + b) * fS .f32 := by
      rw [hn, hsg, fS32]
      have := sg_of (a + b)
      unfold sg at this ⊢
      by_cases hc : a + b < 0
      · rw [decide_eq_true hc, if_pos rfl] at this ⊢
        rw [Int.natCast_mul, ← Int.neg_mul, this]; rfl
      · rw [decide_eq_false hc] at this ⊢
        have this : (((a + b).natAbs : Nat) : Int) = a + b := this
        show (((a + b).natAbs * 2 ^ 149 : Nat) : Int) = _
        rw [Int.natCast_mul, this]; rfl
    by_cases hb0 : base ≤ 0
    · have hm : T.natAbs = (a + b).natAbs * 2 ^ (-base).toNat := by
        have h3 : (149 : Nat) = (-base).toNat + (base + 149).toNat := by omega
        rw [h3, Nat.pow_add, ← Nat.mul_assoc] at hn
        exact Nat.eq_of_mul_eq_mul_right (Nat.two_pow_pos _) hn
      have hab : (a + b).natAbs ≠ 0 := fun h => h0 (by rw [h, Nat.zero_mul] at hm; omega)
      have := near_val (neg := decide (T < 0)) (m := (a + b).natAbs) (j := (-base).toNat) (place := base) hab (by omega) (by omega) (by omega) hb1
      rw [← hm] at this
      rw [fin] at this
      exact this
    · have hm : T.natAbs * 2 ^ base.toNat = (a + b).natAbs := by
        have h3 : (base + 149).toNat = base.toNat + 149 := by omega
        rw [h3, Nat.pow_add, ← Nat.mul_assoc] at hn
        exact Nat.eq_of_mul_eq_mul_right (Nat.two_pow_pos _) hn
      have hT0 : T.natAbs ≠ 0 := by omega
      have hle : T.natAbs ≤ (a + b).natAbs := by rw [← hm]; exact Nat.le_mul_of_pos_right _ (Nat.two_pow_pos _)
      have hb60 : base.toNat ≤ 24 := by
        by_cases hc : base.toNat ≤ 24
        · exact hc
        · exfalso
          have h4 : 2 ^ 25 ≤ 2 ^ base.toNat := Nat.pow_le_pow_right (by decide) (by omega)
          have h5 : 1 * 2 ^ base.toNat ≤ T.natAbs * 2 ^ base.toNat := Nat.mul_le_mul_right _ (by omega)
          rw [hm] at h5
          omega
      have := near_val (neg := decide (T < 0)) (m := T.natAbs) (j := 0) (place := base) hT0 (by omega) (by omega) (by omega) hb1
      rw [Nat.pow_zero, Nat.mul_one] at this
      rw [fin] at this
      exact this

/-- The sum of two numbers, part by part, is the number that stands for the sum. -/
theorem csum_same {a b c : IP} (ha : inBP 1000000 a) (hb : inBP 1000000 b) (hc : c = plusP a b) :
    (cSumBits .add .f32 (floatOfInt .f32 a.1) (floatOfInt .f32 a.2.1) (floatOfInt .f32 b.1) (floatOfInt .f32 b.2.1)).isSome = true ∧
    (FloatKind.f32.format.order (floatOfInt .f32 c.1) ((cSumBits .add .f32 (floatOfInt .f32 a.1) (floatOfInt .f32 a.2.1) (floatOfInt .f32 b.1) (floatOfInt .f32 b.2.1)).getD (0, 0)).1 == some .eq &&
      FloatKind.f32.format.order (floatOfInt .f32 c.2.1) ((cSumBits .add .f32 (floatOfInt .f32 a.1) (floatOfInt .f32 a.2.1) (floatOfInt .f32 b.1) (floatOfInt .f32 b.2.1)).getD (0, 0)).2 == some .eq) = true := by
  obtain ⟨r, r1, r2, r3⟩ := foi_add ha.1 hb.1
  obtain ⟨q, q1, q2, q3⟩ := foi_add ha.2 hb.2
  have e : cSumBits .add .f32 (floatOfInt .f32 a.1) (floatOfInt .f32 a.2.1) (floatOfInt .f32 b.1) (floatOfInt .f32 b.2.1) = some (r, q) := by
    unfold cSumBits floatBits
    simp only [r1, q1, Option.bind_some]
  have u1 := ha.1
  have u2 := hb.1
  have u3 := ha.2
  have u4 := hb.2
  rw [e, hc]
  refine ⟨rfl, ?_⟩
  obtain ⟨c1, c2⟩ := foi_num (n := a.1 + b.1) (by omega) (by omega)
  obtain ⟨d1, d2⟩ := foi_num (n := a.2.1 + b.2.1) (by omega) (by omega)
  show (FloatKind.f32.format.order (floatOfInt .f32 (a.1 + b.1)) r == some .eq && FloatKind.f32.format.order (floatOfInt .f32 (a.2.1 + b.2.1)) q == some .eq) = true
  rw [cmp_eq c1 r2, cmp_eq d1 q2, c2, d2, r3, q3, decide_eq_true rfl, decide_eq_true rfl]; rfl

/-! ### A sweep's recording, divided -/

/-- The product of a list's number j with the one of the other list that lies j before t. -/
def gV (ps qs : List IP) (t j : Nat) : IP := if j ≤ t ∧ t - j < qs.length then timesP (ps.getD j (0, 0, ())) (qs.getD (t - j) (0, 0, ())) else (0, 0, ())

theorem swV_sum (ps qs : List IP) (t : Nat) : ∀ m : Nat, swV ps qs t m = suP (gV ps qs t) m
  | 0 => rfl
  | m + 1 => by
    show (if m ≤ t ∧ t - m < qs.length then plusP (swV ps qs t m) (timesP (ps.getD m (0, 0, ())) (qs.getD (t - m) (0, 0, ()))) else swV ps qs t m) = plusP (suP (gV ps qs t) m) (if m ≤ t ∧ t - m < qs.length then _ else _)
    rw [swV_sum ps qs t m]
    split
    · rfl
    · rw [plusP_zero]

theorem timesP_zero (q : IP) : timesP (0, 0, ()) q = (0, 0, ()) := by
  show ((0 : Int) * q.1 - 0 * q.2.1, (0 : Int) * q.2.1 + 0 * q.1, ()) = _
  simp
theorem timesP_one (p : IP) : timesP p (1, 0, ()) = p := by
  obtain ⟨a, b, u⟩ := p
  show (a * 1 - b * 0, a * 0 + b * 1, ()) = (a, b, u)
  simp
theorem less_cancel (a b : IP) : lessP (plusP a b) a = b := by
  obtain ⟨b1, b2, u⟩ := b
  show (a.1 + b1 - a.1, a.2.1 + b2 - a.2.1, ()) = (b1, b2, u)
  rw [show a.1 + b1 - a.1 = b1 by omega, show a.2.1 + b2 - a.2.1 = b2 by omega]

theorem gV_past {ps qs : List IP} {t j : Nat} (h : ps.length ≤ j) : gV ps qs t j = (0, 0, ()) := by
  unfold gV
  rw [List.getD_eq_getElem?_getD, List.getElem?_eq_none h, Option.getD_none, timesP_zero]
  split <;> rfl

theorem swV_at {ps qs : List IP} (hq : qs.getD 0 (0, 0, ()) = (1, 0, ())) (h1 : 1 ≤ qs.length) (t : Nat) : swV ps qs t ps.length = plusP (suP (gV ps qs t) t) (ps.getD t (0, 0, ())) := by
  have e : suP (gV ps qs t) ps.length = suP (gV ps qs t) (t + 1) := by
    rcases Nat.le_total ps.length (t + 1) with h | h
    · exact (suP_cut h fun i hi _ => gV_past hi).symm
    · refine suP_cut h fun i hi _ => ?_
      unfold gV
      rw [if_neg (by omega)]
  rw [swV_sum, e]
  show plusP _ (gV ps qs t t) = _
  congr 1
  unfold gV
  rw [if_pos (by omega), Nat.sub_self, hq, timesP_one]

theorem dvR_back {ps qs : List IP} (hq : qs.getD 0 (0, 0, ()) = (1, 0, ())) (h1 : 1 ≤ qs.length) : ∀ t : Nat, t ≤ swN ps qs → dvR (swL ps qs) qs t = tab (fun j => ps.getD j (0, 0, ())) t
  | 0, _ => rfl
  | t + 1, ht => by
    show dvR (swL ps qs) qs t ++ [dvN (swL ps qs) qs (dvR (swL ps qs) qs t) t] = tab (fun j => ps.getD j (0, 0, ())) t ++ [ps.getD t (0, 0, ())]
    rw [dvR_back hq h1 t (by omega)]
    congr 2
    have e1 : suP (dvG qs (tab (fun j => ps.getD j (0, 0, ())) t) t) t = suP (gV ps qs t) t := suP_congr fun j hj => by
      unfold dvG gV
      rw [tab_get _ _ _ _ hj]
      by_cases h : t - j < qs.length
      · rw [if_pos h, if_pos ⟨by omega, h⟩]
      · rw [if_neg h, if_neg (fun hh => h hh.2)]
    have e2 : (swL ps qs).getD t (0, 0, ()) = swV ps qs t ps.length := tab_get _ _ _ _ (by omega)
    unfold dvN dvS
    rw [e1, e2, swV_at hq h1, less_cancel, hq]
    exact timesP_one _

theorem timesU {B : Int} {a q : IP} (ha : inBP B a) (hq : inBP 1 q) : inBP (B + B) (timesP a q) := by
  have e1 := by_in ha.1.1 ha.1.2 hq.1.1 hq.1.2
  have e2 := by_in ha.2.1 ha.2.2 hq.2.1 hq.2.2
  have e3 := by_in ha.1.1 ha.1.2 hq.2.1 hq.2.2
  have e4 := by_in ha.2.1 ha.2.2 hq.1.1 hq.1.2
  show (-(B + B) ≤ a.1 * q.1 - a.2.1 * q.2.1 ∧ a.1 * q.1 - a.2.1 * q.2.1 ≤ B + B) ∧ (-(B + B) ≤ a.1 * q.2.1 + a.2.1 * q.1 ∧ a.1 * q.2.1 + a.2.1 * q.1 ≤ B + B)
  omega

theorem swV_small {B : Int} (hB : 0 ≤ B) {ps qs : List IP} (ha : okL B ps) (hb : okL 1 qs) (j : Nat) : ∀ m : Nat, inBP (m * (B + B)) (swV ps qs j m)
  | 0 => by show (_ ≤ (0 : Int) ∧ (0 : Int) ≤ _) ∧ (_ ≤ (0 : Int) ∧ (0 : Int) ≤ _); simp
  | m + 1 => by
    have ih := swV_small hB ha hb j m
    have e : swV ps qs j (m + 1) = if m ≤ j ∧ j - m < qs.length then plusP (swV ps qs j m) (timesP (ps.getD m (0, 0, ())) (qs.getD (j - m) (0, 0, ()))) else swV ps qs j m := rfl
    have e2 : ((m + 1 : Nat) : Int) * (B + B) = m * (B + B) + (B + B) := by rw [Int.natCast_add, Int.add_mul]; simp
    rw [e, e2]
    split
    · exact plusP_in ih (timesU (okL_inBP ha m) (okL_inBP hb (j - m)))
    · exact inBP_mono ih (by omega)

theorem swL_small {ps qs : List IP} (ha : okL 20000 ps) (hb : okL 1 qs) (hl : ps.length ≤ 20) : okL 800000 (swL ps qs) := okL_tab (by decide) fun i _ => by
  have := swV_small (by decide) ha hb i ps.length
  exact inBP_mono this (by omega)

theorem plus4 (a b c d : IP) : plusP (plusP a b) (plusP c d) = plusP (plusP a c) (plusP b d) := by
  show (a.1 + b.1 + (c.1 + d.1), a.2.1 + b.2.1 + (c.2.1 + d.2.1), ()) = (a.1 + c.1 + (b.1 + d.1), a.2.1 + c.2.1 + (b.2.1 + d.2.1), ())
  congr 1
  · omega
  · congr 1; omega
theorem timesP_add (a b q : IP) : timesP (plusP a b) q = plusP (timesP a q) (timesP b q) := by
  show ((a.1 + b.1) * q.1 - (a.2.1 + b.2.1) * q.2.1, (a.1 + b.1) * q.2.1 + (a.2.1 + b.2.1) * q.1, ()) = (a.1 * q.1 - a.2.1 * q.2.1 + (b.1 * q.1 - b.2.1 * q.2.1), a.1 * q.2.1 + a.2.1 * q.1 + (b.1 * q.2.1 + b.2.1 * q.1), ())
  rw [Int.add_mul, Int.add_mul, Int.add_mul, Int.add_mul]
  congr 1
  · omega
  · congr 1; omega

theorem swV_add {us bs cs qs : List IP} (h : ∀ i, cs.getD i (0, 0, ()) = plusP (us.getD i (0, 0, ())) (bs.getD i (0, 0, ()))) (t : Nat) : ∀ m : Nat, swV cs qs t m = plusP (swV us qs t m) (swV bs qs t m)
  | 0 => rfl
  | m + 1 => by
    have e : ∀ ps : List IP, swV ps qs t (m + 1) = if m ≤ t ∧ t - m < qs.length then plusP (swV ps qs t m) (timesP (ps.getD m (0, 0, ())) (qs.getD (t - m) (0, 0, ()))) else swV ps qs t m := fun _ => rfl
    rw [e, e, e, swV_add h t m, h m, timesP_add]
    split
    · exact plus4 _ _ _ _
    · rfl

theorem chL_first {count slow : Int} (hc : 1 ≤ count) : (chL' count slow).getD 0 (0, 0, ()) = (1, 0, ()) := by
  unfold chL'
  rw [tab_get _ _ _ _ (by omega)]
  unfold chP
  have e : qC slow 1 = 0 := by
    show (0 : Int) + ((0 : Nat) : Int).tdiv slow = 0
    simp
  rw [e]; rfl

theorem tab_take {α : Type} (f : Nat → α) : ∀ {n m : Nat}, m ≤ n → (tab f n).take m = tab f m
  | 0, m, h => by rw [show m = 0 by omega]; rfl
  | n + 1, m, h => by
    show (tab f n ++ [f n]).take m = _
    by_cases e : m = n + 1
    · rw [e, List.take_of_length_le (by rw [List.length_append, tab_len]; simp)]; rfl
    · rw [List.take_append_of_le_length (by rw [tab_len]; omega)]
      exact tab_take f (by omega)

end Go.Eng.Pu
