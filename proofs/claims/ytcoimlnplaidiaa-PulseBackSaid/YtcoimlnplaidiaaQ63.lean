/- Maximal registers: what is excited is unfolded by transforms, too. Plain laws. Conditions: the register is right and maximal, the field is right. -/
import Derived.Test.YtcoimlnplaidiaaQ62
import Derived.Test.YtcoimlnplaidiaaQ55
import Derived.Test.YtcoimlnplaidiaaQ35
namespace Go.Eng.Pu
open Go.Eng Go.Proofs
set_option linter.all false
set_option maxRecDepth 100000

theorem Cg.sub {p x y u v : Int} (h : Cg p x y) (h' : Cg p u v) : Cg p (x - u) (y - v) := by
  have := h.add ((Cg.refl p (-1)).mul h')
  have e1 : x + -1 * u = x - u := by omega
  have e2 : y + -1 * v = y - v := by omega
  rwa [e1, e2] at this

/-! ### By correlation -/

theorem exF_1 (xs : CL) (L : Int) (ts : List Int) (s : Int) (t : Nat) : (exF xs L ts s t).1 = sm (fun j => ((exf xs L).getD j (0, 0, ())).1 * sgA (sgL L ts s) ((t : Int) - j)) (most L).toNat := by
  unfold exF
  rw [trV_1, exf_len]
  exact sm_congr _ fun j _ => by rw [Int.one_mul]
theorem exF_2 (xs : CL) (L : Int) (ts : List Int) (s : Int) (t : Nat) : (exF xs L ts s t).2.1 = sm (fun j => ((exf xs L).getD j (0, 0, ())).2.1 * sgA (sgL L ts s) ((t : Int) - j)) (most L).toNat := by
  unfold exF
  rw [trV_2, exf_len]
  exact sm_congr _ fun j _ => by rw [Int.one_mul]

theorem ufV_eq {ys : CL} {xs : CL} {L : Int} {ts : List Int} {s : Int} (m : Mx L ts s) (hy : lP ys = exL xs L ts s) {k : Nat} (hk : k < (most L).toNat) :
    ufV ys L ts s k = ((most L + 1) * ((exf xs L).getD k (0, 0, ())).1, (most L + 1) * ((exf xs L).getD k (0, 0, ())).2.1, ()) := by
  have hl : (exL xs L ts s).length = (most L).toNat := tab_len _ _
  have hg : ∀ t, t < (most L).toNat → (exL xs L ts s).getD t (0, 0, ()) = exF xs L ts s t := fun t ht => tab_get _ _ _ _ ht
  have a := back_sum m (fun j => ((exf xs L).getD j (0, 0, ())).1) hk
  have b := back_sum m (fun j => ((exf xs L).getD j (0, 0, ())).2.1) hk
  unfold ufV lessP
  rw [hy, hl, trV_1, trV_2, flV_1, flV_2]
  have e1 : sm (fun t => ((exL xs L ts s).getD t (0, 0, ())).1 * sgA (sgL L ts s) (-1 * ((k : Int) - t))) (most L).toNat = sm (fun t => sm (fun j => ((exf xs L).getD j (0, 0, ())).1 * sgA (sgL L ts s) ((t : Int) - j)) (most L).toNat * sgA (sgL L ts s) ((t : Int) - k)) (most L).toNat := sm_congr _ fun t ht => by
    rw [hg t ht, exF_1, show -1 * ((k : Int) - t) = (t : Int) - k by omega]
  have e2 : sm (fun t => ((exL xs L ts s).getD t (0, 0, ())).2.1 * sgA (sgL L ts s) (-1 * ((k : Int) - t))) (most L).toNat = sm (fun t => sm (fun j => ((exf xs L).getD j (0, 0, ())).2.1 * sgA (sgL L ts s) ((t : Int) - j)) (most L).toNat * sgA (sgL L ts s) ((t : Int) - k)) (most L).toNat := sm_congr _ fun t ht => by
    rw [hg t ht, exF_2, show -1 * ((k : Int) - t) = (t : Int) - k by omega]
  have e3 : sm (fun t => ((exL xs L ts s).getD t (0, 0, ())).1) (most L).toNat = sm (fun t => sm (fun j => ((exf xs L).getD j (0, 0, ())).1 * sgA (sgL L ts s) ((t : Int) - j)) (most L).toNat) (most L).toNat := sm_congr _ fun t ht => by
    rw [hg t ht, exF_1]
  have e4 : sm (fun t => ((exL xs L ts s).getD t (0, 0, ())).2.1) (most L).toNat = sm (fun t => sm (fun j => ((exf xs L).getD j (0, 0, ())).2.1 * sgA (sgL L ts s) ((t : Int) - j)) (most L).toNat) (most L).toNat := sm_congr _ fun t ht => by
    rw [hg t ht, exF_2]
  rw [e1, e2, e3, e4, a, b]

/-- What is excited, unfolded, is the response, folded. -/
theorem unfold_exact {ys xs : CL} {L : Int} {ts : List Int} {s : Int} (m : Mx L ts s) (h1 : lE ys = 0) (hy : lP ys = exL xs L ts s) (hf : allFit (exf xs L) = true) :
    ufE ys L ts s = 0 ∧ ufR ys L ts s = tL (exf xs L) := by
  have hp := m.pos
  have ho : opErr L ts s = 0 := by
    unfold opErr
    rw [if_pos m.hst.1]
    unfold stErr
    have h2 := m.hst.2.2.2
    have : s ≤ most L := by unfold most; omega
    simp only [m.hs, this, and_self, if_true]
  have hl : (ys.length : Int) = most L := by
    have a := lP_len h1
    have b : (exL xs L ts s).length = (most L).toNat := tab_len _ _
    rw [hy, b] at a; omega
  have hB : ufB ys L ts s = true := ufB_yes fun k hk => by
    rw [ufV_eq m hy hk]
    unfold dvB
    simp
  have hL : ufL ys L ts s = exf xs L := by
    unfold ufL
    refine Eq.trans (tab_congr _ fun k hk => ?_) (Eq.trans (congrArg (tab fun i => (exf xs L).getD i (0, 0, ())) (exf_len xs L).symm) (tab_getD (0, 0, ()) (exf xs L)))
    unfold ufQ
    rw [ufV_eq m hy hk]
    unfold qoP
    show ((most L + 1) * _ / (most L + 1), (most L + 1) * _ / (most L + 1), ()) = _
    rw [Int.mul_ediv_cancel_left _ (by omega), Int.mul_ediv_cancel_left _ (by omega)]
  constructor
  · unfold ufE
    rw [if_pos h1, if_pos ho, if_pos m.hM, if_pos hl, if_pos hB, hL]
    unfold tE; rw [if_pos hf]
  · unfold ufR
    rw [if_pos h1, if_pos ho, if_pos m.hM, if_pos hl, if_pos hB, hL]

/-! ### By transforms -/

/-- The transform of the signs. -/
def sgT (L : Int) (ts : List Int) (s w : Int) (k : Nat) : Int := sm (fun t => sgI L ts s t * w ^ (t * k)) (most L).toNat

theorem pow_turn {p v : Int} {n : Nat} (h : Cg p (v ^ n) 1) (u : Nat) : Cg p (v ^ (u % n)) (v ^ u) := pow_modN h u

/-- A sum over a whole turn, from any place on. -/
theorem turn_sum {p v : Int} {L : Int} {ts : List Int} {s : Int} (m : Mx L ts s) (hv : Cg p (v ^ (most L).toNat) 1) (a : Nat) :
    Cg p (sm (fun t => sgI L ts s (t + a) * v ^ (t + a)) (most L).toNat) (sm (fun t => sgI L ts s t * v ^ t) (most L).toNat) := by
  have h := sm_turn (f := fun u => sgI L ts s u * v ^ (u % (most L).toNat)) (n := (most L).toNat) (fun i => by
    show sgI L ts s (i + (most L).toNat) * v ^ ((i + (most L).toNat) % (most L).toNat) = _
    rw [sgI_turn m, Nat.add_mod_right]) a
  have e1 : Cg p (sm (fun t => sgI L ts s (t + a) * v ^ (t + a)) (most L).toNat) (sm (fun t => sgI L ts s (t + a) * v ^ ((t + a) % (most L).toNat)) (most L).toNat) :=
    Cg.sm _ fun t _ => (Cg.refl p _).mul (pow_turn hv (t + a)).symm
  have e2 : Cg p (sm (fun t => sgI L ts s t * v ^ (t % (most L).toNat)) (most L).toNat) (sm (fun t => sgI L ts s t * v ^ t) (most L).toNat) :=
    Cg.sm _ fun t _ => (Cg.refl p _).mul (pow_turn hv t)
  exact (e1.trans (by rw [← h]; exact Cg.refl p _)).trans e2

theorem pow_swap (w : Int) (t k : Nat) : w ^ (t * k) = (w ^ k) ^ t := by rw [Nat.mul_comm, Int.pow_mul]

theorem sgT_v (L : Int) (ts : List Int) (s w : Int) (k : Nat) : sgT L ts s w k = sm (fun t => sgI L ts s t * (w ^ k) ^ t) (most L).toNat :=
  sm_congr _ fun t _ => by rw [pow_swap]

/-- The transform of what is excited is the product of both transforms. -/
theorem conv {p w : Int} {L : Int} {ts : List Int} {s : Int} (m : Mx L ts s) (hw : Cg p (w ^ (most L).toNat) 1) (h : Nat → Int) (k : Nat) :
    Cg p (sm (fun t => sm (fun j => h j * sgA (sgL L ts s) ((t : Int) - j)) (most L).toNat * w ^ (t * k)) (most L).toNat) (sm (fun j => h j * w ^ (j * k)) (most L).toNat * sgT L ts s w k) := by
  have hv : Cg p ((w ^ k) ^ (most L).toNat) 1 := by
    rw [← Int.pow_mul, Nat.mul_comm]; exact pow_one_mul hw k
  have e1 : sm (fun t => sm (fun j => h j * sgA (sgL L ts s) ((t : Int) - j)) (most L).toNat * w ^ (t * k)) (most L).toNat = sm (fun j => h j * sm (fun t => sgA (sgL L ts s) ((t : Int) - j) * (w ^ k) ^ t) (most L).toNat) (most L).toNat := by
    have : ∀ t, t < (most L).toNat → sm (fun j => h j * sgA (sgL L ts s) ((t : Int) - j)) (most L).toNat * w ^ (t * k) = sm (fun j => h j * (sgA (sgL L ts s) ((t : Int) - j) * (w ^ k) ^ t)) (most L).toNat := fun t _ => by
      rw [Int.mul_comm, ← sm_mul]
      refine sm_congr _ fun j _ => ?_
      rw [Int.mul_comm, Int.mul_assoc, pow_swap]
    rw [sm_congr _ this, sm_comm]
    exact sm_congr _ fun j _ => sm_mul _ _ _
  have e2 : sm (fun j => h j * w ^ (j * k)) (most L).toNat * sgT L ts s w k = sm (fun j => h j * ((w ^ k) ^ j * sgT L ts s w k)) (most L).toNat := by
    rw [Int.mul_comm, ← sm_mul]
    refine sm_congr _ fun j _ => ?_
    rw [pow_swap, Int.mul_comm, Int.mul_assoc]
  rw [e1, e2]
  refine Cg.sm _ fun j hj => (Cg.refl p _).mul ?_
  have e3 : sm (fun t => sgA (sgL L ts s) ((t : Int) - j) * (w ^ k) ^ t) (most L).toNat = sm (fun t => sgI L ts s (t + ((most L).toNat - j)) * (w ^ k) ^ t) (most L).toNat := sm_congr _ fun t _ => by rw [sgA_diff m (Nat.le_of_lt hj)]
  rw [e3]
  have e4 := turn_sum m hv ((most L).toNat - j)
  rw [← sgT_v] at e4
  have e5 := (Cg.refl p ((w ^ k) ^ j)).mul e4
  refine Cg.trans ?_ e5
  rw [← sm_mul]
  refine Cg.sm _ fun t _ => ?_
  have e6 : (w ^ k) ^ j * (sgI L ts s (t + ((most L).toNat - j)) * (w ^ k) ^ (t + ((most L).toNat - j))) = sgI L ts s (t + ((most L).toNat - j)) * ((w ^ k) ^ t * (w ^ k) ^ (most L).toNat) := by
    have : (w ^ k) ^ j * (w ^ k) ^ (t + ((most L).toNat - j)) = (w ^ k) ^ t * (w ^ k) ^ (most L).toNat := by
      rw [← Int.pow_add, ← Int.pow_add, show j + (t + ((most L).toNat - j)) = t + (most L).toNat by omega]
    rw [← this]; grind
  rw [e6]
  have := (Cg.refl p ((w ^ k) ^ t)).mul hv
  rw [Int.mul_one] at this
  exact (Cg.refl p _).mul this.symm

/-- No transform of the signs is divided by the prime. -/
theorem sgT_unit {p w : Int} {L : Int} {ts : List Int} {s : Int} (m : Mx L ts s) (hp : Pr p) (hw : Cg p (w ^ (most L).toNat) 1) (hlt : most L + 1 < p) (k : Nat) : ¬ p ∣ sgT L ts s w k := by
  have hpos := m.pos
  have hv : Cg p ((w ^ k) ^ (most L).toNat) 1 := by
    rw [← Int.pow_mul, Nat.mul_comm]; exact pow_one_mul hw k
  rw [sgT_v]
  generalize w ^ k = v at *
  intro hd
  have hA : Cg p (sm (fun t => sgI L ts s t * v ^ t) (most L).toNat) 0 := cg_zero.2 hd
  -- times the transform at the opposite place
  have key : Cg p (sm (fun r => sgI L ts s r * v ^ (((most L).toNat - 1) * r) * sm (fun t => sgI L ts s t * v ^ t) (most L).toNat) (most L).toNat) (sm (fun c => (if c = 0 then most L else -1) * v ^ c) (most L).toNat) := by
    have e1 : Cg p (sm (fun r => sgI L ts s r * v ^ (((most L).toNat - 1) * r) * sm (fun t => sgI L ts s t * v ^ t) (most L).toNat) (most L).toNat) (sm (fun r => sgI L ts s r * v ^ (((most L).toNat - 1) * r) * sm (fun t => sgI L ts s (t + r) * v ^ (t + r)) (most L).toNat) (most L).toNat) :=
      Cg.sm _ fun r _ => (Cg.refl p _).mul (turn_sum m hv r).symm
    refine e1.trans ?_
    have e2 : ∀ r, r < (most L).toNat → sgI L ts s r * v ^ (((most L).toNat - 1) * r) * sm (fun t => sgI L ts s (t + r) * v ^ (t + r)) (most L).toNat = sm (fun t => sgI L ts s r * sgI L ts s (t + r) * v ^ t * v ^ ((most L).toNat * r)) (most L).toNat := fun r _ => by
      rw [← sm_mul]
      refine sm_congr _ fun t _ => ?_
      have : v ^ (((most L).toNat - 1) * r) * v ^ (t + r) = v ^ t * v ^ ((most L).toNat * r) := by
        rw [← Int.pow_add, ← Int.pow_add]
        have h1 : (most L).toNat * r = ((most L).toNat - 1) * r + r := by
          rw [← Nat.succ_mul]; congr 1; omega
        rw [h1]; congr 1; omega
      have h2 : sgI L ts s r * v ^ (((most L).toNat - 1) * r) * (sgI L ts s (t + r) * v ^ (t + r)) = sgI L ts s r * sgI L ts s (t + r) * (v ^ (((most L).toNat - 1) * r) * v ^ (t + r)) := by grind
      rw [h2, this]; grind
    rw [sm_congr _ e2]
    have e3 : Cg p (sm (fun r => sm (fun t => sgI L ts s r * sgI L ts s (t + r) * v ^ t * v ^ ((most L).toNat * r)) (most L).toNat) (most L).toNat) (sm (fun r => sm (fun t => sgI L ts s r * sgI L ts s (t + r) * v ^ t) (most L).toNat) (most L).toNat) :=
      Cg.sm _ fun r _ => Cg.sm _ fun t _ => by
        have := (Cg.refl p (sgI L ts s r * sgI L ts s (t + r) * v ^ t)).mul (pow_one_mul hv r)
        rwa [Int.mul_one] at this
    refine e3.trans ?_
    rw [sm_comm]
    refine Cg.sm _ fun t ht => ?_
    have e4 : sm (fun r => sgI L ts s r * sgI L ts s (t + r) * v ^ t) (most L).toNat = (if t = 0 then most L else -1) * v ^ t := by
      have e5 : sm (fun r => sgI L ts s r * sgI L ts s (t + r) * v ^ t) (most L).toNat = v ^ t * sm (fun r => sgI L ts s (r + 0) * sgI L ts s (r + t)) (most L).toNat := by
        rw [← sm_mul]
        refine sm_congr _ fun r _ => ?_
        rw [Nat.add_zero, Nat.add_comm t r]; grind
      rw [e5, cor_le m (Nat.zero_le t) (by omega), Int.mul_comm]
      by_cases h : t = 0
      · rw [if_pos h, if_pos h.symm]
      · rw [if_neg h, if_neg (fun e => h e.symm)]
    rw [e4]; exact Cg.refl p _
  have hz : Cg p (sm (fun r => sgI L ts s r * v ^ (((most L).toNat - 1) * r) * sm (fun t => sgI L ts s t * v ^ t) (most L).toNat) (most L).toNat) 0 := by
    have := Cg.sm (f := fun r => sgI L ts s r * v ^ (((most L).toNat - 1) * r) * sm (fun t => sgI L ts s t * v ^ t) (most L).toNat) (g := fun _ => 0) (p := p) (most L).toNat fun r _ => by
      have := (Cg.refl p (sgI L ts s r * v ^ (((most L).toNat - 1) * r))).mul hA
      rwa [Int.mul_zero] at this
    rwa [sm_const, Int.mul_zero] at this
  have e6 : sm (fun c => (if c = 0 then most L else -1) * v ^ c) (most L).toNat = (most L + 1) - sm (fun c => v ^ c) (most L).toNat := by
    have h := sm_pick (most L) (-1) (fun c => v ^ c) 0 (most L).toNat
    rw [if_pos (by omega), Int.pow_zero] at h
    rw [sm_congr _ fun c _ => Int.mul_comm (if c = 0 then most L else -1) (v ^ c), h]
    omega
  rw [e6] at key
  have hfin := key.symm.trans hz
  by_cases h1 : Cg p v 1
  · have e7 : Cg p (sm (fun c => v ^ c) (most L).toNat) (most L) := by
      have := Cg.sm (f := fun c => v ^ c) (g := fun _ => 1) (p := p) (most L).toNat fun c _ => by
        have := h1.pow c
        rwa [Int.one_pow] at this
      rw [sm_const, Int.mul_one] at this
      rwa [show ((most L).toNat : Int) = most L by omega] at this
    have e8 := ((Cg.refl p (most L + 1)).sub e7).symm.trans hfin
    rw [show most L + 1 - most L = 1 by omega] at e8
    exact pr_small (p := p) (a := 1) (by omega) (by omega) (cg_zero.1 e8)
  · have e7 := geo_zero hp hv h1
    have e8 := ((Cg.refl p (most L + 1)).sub e7).symm.trans hfin
    rw [Int.sub_zero] at e8
    exact pr_small (p := p) (a := most L + 1) (by omega) hlt (cg_zero.1 e8)

end Go.Eng.Pu
