/- The law TopTwoUnfoldings: for every input the law returns true, and each argument reads behind the call as before. Conditions: none. -/
import Derived.Test.YtcoimlnplaidiaaQ51
import Derived.Test.YtcoimlnplaidiaaQ23
import Derived.Test.YtcoimlnplaidiaaQ55
import Derived.Test.YtcoimlnplaidiaaQ35
import Derived.Test.YtcoimlnplaidiaaQ38
import Derived.Test.YtcoimlnplaidiaaQ57A
import Derived.Test.YtcoimlnplaidiaaQ52A
import Derived.Test.YtcoimlnplaidiaaB2
namespace Go.Eng.Pu
open Go.Eng Go.Proofs
set_option linter.all false
set_option maxRecDepth 100000

/-! ### Numbers read back -/

theorem pE_int {n : Int} (h1 : -16777216 ≤ n) (h2 : n ≤ 16777216) : pE (floatOfInt .f32 n) = 0 ∧ fT .f32 (floatOfInt .f32 n) = n := by
  obtain ⟨a, b⟩ := foi_num h1 h2
  have h0 := fS_pos .f32
  have ht : fT .f32 (floatOfInt .f32 n) = n := by
    unfold fT; rw [b, Int.mul_tdiv_cancel _ (by omega)]
  have hw : fWh .f32 (floatOfInt .f32 n) = true := by
    unfold fWh; rw [ht, b]; exact decide_eq_true rfl
  refine ⟨?_, ht⟩
  unfold pE M32
  rw [if_pos a, b, hw, if_neg ?_, if_pos rfl]
  generalize fS .f32 = S at *
  rintro (h | h)
  · have := Int.mul_le_mul_of_nonneg_right h2 (show 0 ≤ S by omega); omega
  · have := Int.mul_le_mul_of_nonneg_right h1 (show 0 ≤ S by omega); omega

theorem tab_getD {α : Type} (d : α) (l : List α) : tab (fun i => l.getD i d) l.length = l := by
  apply List.ext_getElem
  · exact tab_len _ _
  · intro i h1 h2
    have h3 := tab_get (fun i => l.getD i d) d l.length i h2
    have e1 : (tab (fun i => l.getD i d) l.length).getD i d = (tab (fun i => l.getD i d) l.length)[i] := by
      rw [List.getD_eq_getElem?_getD, List.getElem?_eq_getElem h1]; rfl
    have e2 : l.getD i d = l[i] := by
      rw [List.getD_eq_getElem?_getD, List.getElem?_eq_getElem h2]; rfl
    rw [← e1, h3, e2]

theorem lF_zero {xs : CL} (h : ∀ i, i < xs.length → eE (xs.getD i (0, 0)) = 0) : lF xs = 0 := by
  have key : ∀ k, k ≤ xs.length → lF (xs.drop (xs.length - k)) = 0 := by
    intro k
    induction k with
    | zero => intro _; rw [List.drop_eq_nil_of_le (by omega)]; rfl
    | succ k ih =>
      intro hk
      rw [lF_step (by omega), if_pos (h _ (by omega)), show xs.length - (k + 1) + 1 = xs.length - k by omega]
      exact ih (by omega)
  have := key xs.length (Nat.le_refl _)
  rwa [Nat.sub_self, List.drop_zero] at this

theorem nm_eE {ps : List IP} (hf : allFit ps = true) (i : Nat) : eE (nmF ps i) = 0 ∧ prT (nmF ps i) = ps.getD i (0, 0, ()) := by
  have h := allFit_at hf i
  have a := pE_int h.1.1 h.1.2
  have b := pE_int h.2.1 h.2.2
  refine ⟨eE_c a.1 b.1, ?_⟩
  show (fT .f32 (floatOfInt .f32 _), fT .f32 (floatOfInt .f32 _), ()) = _
  rw [a.2, b.2]

/-- Numbers that fit are read back. -/
theorem tL_read {ps : List IP} (hf : allFit ps = true) (h1 : 1 ≤ ps.length) (h2 : ps.length ≤ 1024) : lE (tL ps) = 0 ∧ lP (tL ps) = ps ∧ (tL ps).length = ps.length := by
  have e : tL ps = tab (nmF ps) ps.length := by unfold tL; rw [if_pos hf]
  have hl : (tL ps).length = ps.length := by rw [e]; exact tab_len _ _
  have hg : ∀ i, i < ps.length → (tL ps).getD i (0, 0) = nmF ps i := fun i hi => by rw [e, tab_get _ _ _ _ hi]
  have hE : lE (tL ps) = 0 := by
    unfold lE
    rw [if_neg (by omega), if_neg (by omega)]
    exact lF_zero fun i hi => by rw [hg i (by omega)]; exact (nm_eE hf i).1
  refine ⟨hE, ?_, hl⟩
  unfold lP
  rw [if_pos hE, hl]
  refine Eq.trans (tab_congr _ fun i hi => ?_) (tab_getD (0, 0, ()) ps)
  rw [hg i hi]; exact (nm_eE hf i).2

/-! ### Sums by parts -/

theorem trV_1 (ps : List IP) (sg : List Int) (a way : Int) : ∀ n : Nat, (trV ps sg a way n).1 = sm (fun k => (ps.getD k (0, 0, ())).1 * sgA sg (way * (a - k))) n
  | 0 => rfl
  | n + 1 => by
    show (trV ps sg a way n).1 + _ = sm _ n + _
    rw [trV_1 ps sg a way n]; rfl
theorem trV_2 (ps : List IP) (sg : List Int) (a way : Int) : ∀ n : Nat, (trV ps sg a way n).2.1 = sm (fun k => (ps.getD k (0, 0, ())).2.1 * sgA sg (way * (a - k))) n
  | 0 => rfl
  | n + 1 => by
    show (trV ps sg a way n).2.1 + _ = sm _ n + _
    rw [trV_2 ps sg a way n]; rfl
theorem flV_1 (ps : List IP) : ∀ n : Nat, (flV ps 1 0 n).1 = sm (fun k => (ps.getD k (0, 0, ())).1) n
  | 0 => rfl
  | n + 1 => by rw [flV1]; show (flV ps 1 0 n).1 + _ = sm _ n + _; rw [flV_1 ps n]
theorem flV_2 (ps : List IP) : ∀ n : Nat, (flV ps 1 0 n).2.1 = sm (fun k => (ps.getD k (0, 0, ())).2.1) n
  | 0 => rfl
  | n + 1 => by rw [flV1]; show (flV ps 1 0 n).2.1 + _ = sm _ n + _; rw [flV_2 ps n]

/-! ### Signs of a maximal register -/

structure Mx (L : Int) (ts : List Int) (s : Int) : Prop where
  hst : pSt L ts s
  hs : 1 ≤ s
  hM : (per L ts 1 : Int) = most L

theorem Mx.N {L : Int} {ts : List Int} {s : Int} (m : Mx L ts s) : per L ts 1 = (most L).toNat := by have := m.hM; omega
theorem Mx.per {L : Int} {ts : List Int} {s : Int} (m : Mx L ts s) : per L ts s = (most L).toNat := (per_max m.hst.1 m.hst.2.1 m.hM m.hst m.hs).trans m.N
theorem Mx.pos {L : Int} {ts : List Int} {s : Int} (m : Mx L ts s) : 3 ≤ most L ∧ most L ≤ 255 := most_in (chk_zero m.hst.1).1

theorem sgA_nat {L : Int} {ts : List Int} {s : Int} (m : Mx L ts s) (i : Nat) : sgA (sgL L ts s) (i : Int) = sgI L ts s i := by
  have hp := m.pos
  unfold sgA
  rw [sgL_len]
  have e : (fMod (i : Int) ((most L).toNat : Nat)).toNat = i % (most L).toNat := by
    show ((i : Int) % ((most L).toNat : Nat)).toNat = _
    rw [← Int.natCast_emod]; rfl
  rw [e]
  unfold sgL
  rw [tab_get _ _ _ _ (Nat.mod_lt _ (by omega)), ← m.per, sgI_mod m.hst]

theorem sgA_diff {L : Int} {ts : List Int} {s : Int} (m : Mx L ts s) {t j : Nat} (hj : j ≤ (most L).toNat) : sgA (sgL L ts s) ((t : Int) - j) = sgI L ts s (t + ((most L).toNat - j)) := by
  rw [← sgA_nat m]
  have hp := m.pos
  unfold sgA
  rw [sgL_len]
  have e : fMod ((t : Int) - j) ((most L).toNat : Nat) = fMod ((t + ((most L).toNat - j) : Nat) : Int) ((most L).toNat : Nat) := by
    show ((t : Int) - j) % _ = ((t + ((most L).toNat - j) : Nat) : Int) % _
    rw [show ((t + ((most L).toNat - j) : Nat) : Int) = (t : Int) - j + ((most L).toNat : Nat) by omega, Int.add_emod_right]
  rw [e]

theorem sgI_turn {L : Int} {ts : List Int} {s : Int} (m : Mx L ts s) (i : Nat) : sgI L ts s (i + (most L).toNat) = sgI L ts s i := by
  have := sgI_per m.hst i
  rwa [m.per] at this

theorem sum_signs {L : Int} {ts : List Int} {s : Int} (m : Mx L ts s) (j : Nat) (hj : j ≤ (most L).toNat) : sm (fun t => sgA (sgL L ts s) ((t : Int) - j)) (most L).toNat = -1 := by
  rw [sm_congr _ fun t _ => sgA_diff m hj, sm_turn (sgI_turn m)]
  have a := sumS_one m.hst.1 m.hst.2.1 m.hM m.hst m.hs
  rw [sum_max m.hst.1 m.hst.2.1 m.hM] at a
  unfold sumS at a
  rwa [m.N] at a

theorem cor_le {L : Int} {ts : List Int} {s : Int} (m : Mx L ts s) {a b : Nat} (hab : a ≤ b) (hb : b < a + (most L).toNat) : sm (fun t => sgI L ts s (t + a) * sgI L ts s (t + b)) (most L).toNat = if a = b then most L else -1 := by
  have hp := m.pos
  have e : sm (fun t => sgI L ts s (t + a) * sgI L ts s (t + b)) (most L).toNat = corS L ts s (b - a) := by
    unfold corS
    rw [m.N]
    have h := sm_turn (f := fun i => sgI L ts s i * sgI L ts s (i + (b - a))) (n := (most L).toNat) (fun i => by
      show sgI L ts s (i + (most L).toNat) * sgI L ts s (i + (most L).toNat + (b - a)) = _
      rw [sgI_turn m, show i + (most L).toNat + (b - a) = i + (b - a) + (most L).toNat by omega, sgI_turn m]) a
    rw [← h]
    refine sm_congr _ fun t _ => ?_
    show _ = sgI L ts s (t + a) * sgI L ts s (t + a + (b - a))
    rw [show t + a + (b - a) = t + b by omega]
  rw [e]
  by_cases h : a = b
  · rw [if_pos h, cor_zero m.hst (m.per.trans m.N.symm) (by rw [show b - a = 0 by omega, Nat.zero_mod])]; exact m.hM
  · rw [if_neg h, cor_shift m.hst.1 m.hst.2.1 m.hM m.hst m.hs (by rw [m.N, Nat.mod_eq_of_lt (by omega)]; omega), sum_max m.hst.1 m.hst.2.1 m.hM]

theorem cor_two {L : Int} {ts : List Int} {s : Int} (m : Mx L ts s) {j k : Nat} (hj : j < (most L).toNat) (hk : k < (most L).toNat) :
    sm (fun t => sgA (sgL L ts s) ((t : Int) - j) * sgA (sgL L ts s) ((t : Int) - k)) (most L).toNat = if j = k then most L else -1 := by
  rw [sm_congr _ fun t _ => by rw [sgA_diff m (Nat.le_of_lt hj), sgA_diff m (Nat.le_of_lt hk)]]
  rcases Nat.le_total j k with h | h
  · have := cor_le m (a := (most L).toNat - k) (b := (most L).toNat - j) (by omega) (by omega)
    rw [sm_congr _ fun t _ => Int.mul_comm _ _, this]
    by_cases e : j = k
    · rw [if_pos (by omega), if_pos e]
    · rw [if_neg (by omega), if_neg e]
  · have := cor_le m (a := (most L).toNat - j) (b := (most L).toNat - k) (by omega) (by omega)
    rw [this]
    by_cases e : j = k
    · rw [if_pos (by omega), if_pos e]
    · rw [if_neg (by omega), if_neg e]

theorem sm_pick (c d : Int) (f : Nat → Int) (k : Nat) : ∀ n : Nat, sm (fun j => f j * (if j = k then c else d)) n = d * sm f n + (if k < n then (c - d) * f k else 0)
  | 0 => by simp [sm]
  | n + 1 => by
    show sm _ n + f n * (if n = k then c else d) = d * (sm f n + f n) + _
    rw [sm_pick c d f k n]
    by_cases h : n = k
    · subst h
      rw [if_pos rfl, if_neg (by omega), if_pos (by omega)]; grind
    · rw [if_neg h]
      by_cases h2 : k < n
      · rw [if_pos h2, if_pos (by omega)]; grind
      · rw [if_neg h2, if_neg (by omega)]; grind

/-- What is excited, correlated with the signs, less its sum, is N + 1 times the response. -/
theorem back_sum {L : Int} {ts : List Int} {s : Int} (m : Mx L ts s) (h : Nat → Int) {k : Nat} (hk : k < (most L).toNat) :
    sm (fun t => sm (fun j => h j * sgA (sgL L ts s) ((t : Int) - j)) (most L).toNat * sgA (sgL L ts s) ((t : Int) - k)) (most L).toNat - sm (fun t => sm (fun j => h j * sgA (sgL L ts s) ((t : Int) - j)) (most L).toNat) (most L).toNat = (most L + 1) * h k := by
  have e1 : sm (fun t => sm (fun j => h j * sgA (sgL L ts s) ((t : Int) - j)) (most L).toNat * sgA (sgL L ts s) ((t : Int) - k)) (most L).toNat = sm (fun j => h j * (if j = k then most L else -1)) (most L).toNat := by
    have : ∀ t, t < (most L).toNat → sm (fun j => h j * sgA (sgL L ts s) ((t : Int) - j)) (most L).toNat * sgA (sgL L ts s) ((t : Int) - k) = sm (fun j => h j * (sgA (sgL L ts s) ((t : Int) - j) * sgA (sgL L ts s) ((t : Int) - k))) (most L).toNat := fun t _ => by
      rw [Int.mul_comm, ← sm_mul]
      refine sm_congr _ fun j _ => ?_
      rw [Int.mul_comm, Int.mul_assoc]
    rw [sm_congr _ this, sm_comm]
    refine sm_congr _ fun j hj => ?_
    rw [sm_mul, cor_two m hj hk]
  have e2 : sm (fun t => sm (fun j => h j * sgA (sgL L ts s) ((t : Int) - j)) (most L).toNat) (most L).toNat = sm (fun j => h j * -1) (most L).toNat := by
    rw [sm_comm]
    refine sm_congr _ fun j hj => ?_
    rw [sm_mul, sum_signs m j (Nat.le_of_lt hj)]
  have e3 : sm (fun j => h j * -1) (most L).toNat = -1 * sm h (most L).toNat := by
    rw [← sm_mul]; exact sm_congr _ fun j _ => Int.mul_comm _ _
  rw [e1, e2, e3, sm_pick, if_pos hk]
  grind

end Go.Eng.Pu

/- Maximal registers: what is excited is unfolded by transforms, too. Plain laws. Conditions: the register is right and maximal, the field is right. -/
namespace Go.Eng.Pu
open Go.Eng Go.Proofs
set_option linter.all false
set_option maxRecDepth 100000

theorem Cg.sub {p x y u v : Int} (h : Cg p x y) (h' : Cg p u v) : Cg p (x - u) (y - v) := by
  have := h.add ((Cg.refl p (-1)).mul h')
  have e1 : x + -1 * u = x - u := by omega
  have e2 : y + -1 * v = y - v := by omega
  rwa [e1, e2] at this

/-! ### By correlation -/

theorem exF_1 (xs : CL) (L : Int) (ts : List Int) (s : Int) (t : Nat) : (exF xs L ts s t).1 = sm (fun j => ((exf xs L).getD j (0, 0, ())).1 * sgA (sgL L ts s) ((t : Int) - j)) (most L).toNat := by
  unfold exF
  rw [trV_1, exf_len]
  exact sm_congr _ fun j _ => by rw [Int.one_mul]
theorem exF_2 (xs : CL) (L : Int) (ts : List Int) (s : Int) (t : Nat) : (exF xs L ts s t).2.1 = sm (fun j => ((exf xs L).getD j (0, 0, ())).2.1 * sgA (sgL L ts s) ((t : Int) - j)) (most L).toNat := by
  unfold exF
  rw [trV_2, exf_len]
  exact sm_congr _ fun j _ => by rw [Int.one_mul]

theorem ufV_eq {ys : CL} {xs : CL} {L : Int} {ts : List Int} {s : Int} (m : Mx L ts s) (hy : lP ys = exL xs L ts s) {k : Nat} (hk : k < (most L).toNat) :
    ufV ys L ts s k = ((most L + 1) * ((exf xs L).getD k (0, 0, ())).1, (most L + 1) * ((exf xs L).getD k (0, 0, ())).2.1, ()) := by
  have hl : (exL xs L ts s).length = (most L).toNat := tab_len _ _
  have hg : ∀ t, t < (most L).toNat → (exL xs L ts s).getD t (0, 0, ()) = exF xs L ts s t := fun t ht => tab_get _ _ _ _ ht
  have a := back_sum m (fun j => ((exf xs L).getD j (0, 0, ())).1) hk
  have b := back_sum m (fun j => ((exf xs L).getD j (0, 0, ())).2.1) hk
  unfold ufV lessP
  rw [hy, hl, trV_1, trV_2, flV_1, flV_2]
  have e1 : sm (fun t => ((exL xs L ts s).getD t (0, 0, ())).1 * sgA (sgL L ts s) (-1 * ((k : Int) - t))) (most L).toNat = sm (fun t => sm (fun j => ((exf xs L).getD j (0, 0, ())).1 * sgA (sgL L ts s) ((t : Int) - j)) (most L).toNat * sgA (sgL L ts s) ((t : Int) - k)) (most L).toNat := sm_congr _ fun t ht => by
    rw [hg t ht, exF_1, show -1 * ((k : Int) - t) = (t : Int) - k by omega]
  have e2 : sm (fun t => ((exL xs L ts s).getD t (0, 0, ())).2.1 * sgA (sgL L ts s) (-1 * ((k : Int) - t))) (most L).toNat = sm (fun t => sm (fun j => ((exf xs L).getD j (0, 0, ())).2.1 * sgA (sgL L ts s) ((t : Int) - j)) (most L).toNat * sgA (sgL L ts s) ((t : Int) - k)) (most L).toNat := sm_congr _ fun t ht => by
    rw [hg t ht, exF_2, show -1 * ((k : Int) - t) = (t : Int) - k by omega]
  have e3 : sm (fun t => ((exL xs L ts s).getD t (0, 0, ())).1) (most L).toNat = sm (fun t => sm (fun j => ((exf xs L).getD j (0, 0, ())).1 * sgA (sgL L ts s) ((t : Int) - j)) (most L).toNat) (most L).toNat := sm_congr _ fun t ht => by
    rw [hg t ht, exF_1]
  have e4 : sm (fun t => ((exL xs L ts s).getD t (0, 0, ())).2.1) (most L).toNat = sm (fun t => sm (fun j => ((exf xs L).getD j (0, 0, ())).2.1 * sgA (sgL L ts s) ((t : Int) - j)) (most L).toNat) (most L).toNat := sm_congr _ fun t ht => by
    rw [hg t ht, exF_2]
  rw [e1, e2, e3, e4, a, b]

/-- What is excited, unfolded, is the response, folded. -/
theorem unfold_exact {ys xs : CL} {L : Int} {ts : List Int} {s : Int} (m : Mx L ts s) (h1 : lE ys = 0) (hy : lP ys = exL xs L ts s) (hf : allFit (exf xs L) = true) :
    ufE ys L ts s = 0 ∧ ufR ys L ts s = tL (exf xs L) := by
  have hp := m.pos
  have ho : opErr L ts s = 0 := by
    unfold opErr
    rw [if_pos m.hst.1]
    unfold stErr
    have h2 := m.hst.2.2.2
    have : s ≤ most L := by unfold most; omega
    simp only [m.hs, this, and_self, if_true]
  have hl : (ys.length : Int) = most L := by
    have a := lP_len h1
    have b : (exL xs L ts s).length = (most L).toNat := tab_len _ _
    rw [hy, b] at a; omega
  have hB : ufB ys L ts s = true := ufB_yes fun k hk => by
    rw [ufV_eq m hy hk]
    unfold dvB
    simp
  have hL : ufL ys L ts s = exf xs L := by
    unfold ufL
    refine Eq.trans (tab_congr _ fun k hk => ?_) (Eq.trans (congrArg (tab fun i => (exf xs L).getD i (0, 0, ())) (exf_len xs L).symm) (tab_getD (0, 0, ()) (exf xs L)))
    unfold ufQ
    rw [ufV_eq m hy hk]
    unfold qoP
    show ((most L + 1) * _ / (most L + 1), (most L + 1) * _ / (most L + 1), ()) = _
    rw [Int.mul_ediv_cancel_left _ (by omega), Int.mul_ediv_cancel_left _ (by omega)]
  constructor
  · unfold ufE
    rw [if_pos h1, if_pos ho, if_pos m.hM, if_pos hl, if_pos hB, hL]
    unfold tE; rw [if_pos hf]
  · unfold ufR
    rw [if_pos h1, if_pos ho, if_pos m.hM, if_pos hl, if_pos hB, hL]

/-! ### By transforms -/

/-- The transform of the signs. -/
def sgT (L : Int) (ts : List Int) (s w : Int) (k : Nat) : Int := sm (fun t => sgI L ts s t * w ^ (t * k)) (most L).toNat

theorem pow_turn {p v : Int} {n : Nat} (h : Cg p (v ^ n) 1) (u : Nat) : Cg p (v ^ (u % n)) (v ^ u) := pow_modN h u

/-- A sum over a whole turn, from any place on. -/
theorem turn_sum {p v : Int} {L : Int} {ts : List Int} {s : Int} (m : Mx L ts s) (hv : Cg p (v ^ (most L).toNat) 1) (a : Nat) :
    Cg p (sm (fun t => sgI L ts s (t + a) * v ^ (t + a)) (most L).toNat) (sm (fun t => sgI L ts s t * v ^ t) (most L).toNat) := by
  have h := sm_turn (f := fun u => sgI L ts s u * v ^ (u % (most L).toNat)) (n := (most L).toNat) (fun i => by
    show sgI L ts s (i + (most L).toNat) * v ^ ((i + (most L).toNat) % (most L).toNat) = _
    rw [sgI_turn m, Nat.add_mod_right]) a
  have e1 : Cg p (sm (fun t => sgI L ts s (t + a) * v ^ (t + a)) (most L).toNat) (sm (fun t => sgI L ts s (t + a) * v ^ ((t + a) % (most L).toNat)) (most L).toNat) :=
    Cg.sm _ fun t _ => (Cg.refl p _).mul (pow_turn hv (t + a)).symm
  have e2 : Cg p (sm (fun t => sgI L ts s t * v ^ (t % (most L).toNat)) (most L).toNat) (sm (fun t => sgI L ts s t * v ^ t) (most L).toNat) :=
    Cg.sm _ fun t _ => (Cg.refl p _).mul (pow_turn hv t)
  exact (e1.trans (by rw [← h]; exact Cg.refl p _)).trans e2

theorem pow_swap (w : Int) (t k : Nat) : w ^ (t * k) = (w ^ k) ^ t := by rw [Nat.mul_comm, Int.pow_mul]

theorem sgT_v (L : Int) (ts : List Int) (s w : Int) (k : Nat) : sgT L ts s w k = sm (fun t => sgI L ts s t * (w ^ k) ^ t) (most L).toNat :=
  sm_congr _ fun t _ => by rw [pow_swap]

/-- The transform of what is excited is the product of both transforms. -/
theorem conv {p w : Int} {L : Int} {ts : List Int} {s : Int} (m : Mx L ts s) (hw : Cg p (w ^ (most L).toNat) 1) (h : Nat → Int) (k : Nat) :
    Cg p (sm (fun t => sm (fun j => h j * sgA (sgL L ts s) ((t : Int) - j)) (most L).toNat * w ^ (t * k)) (most L).toNat) (sm (fun j => h j * w ^ (j * k)) (most L).toNat * sgT L ts s w k) := by
  have hv : Cg p ((w ^ k) ^ (most L).toNat) 1 := by
    rw [← Int.pow_mul, Nat.mul_comm]; exact pow_one_mul hw k
  have e1 : sm (fun t => sm (fun j => h j * sgA (sgL L ts s) ((t : Int) - j)) (most L).toNat * w ^ (t * k)) (most L).toNat = sm (fun j => h j * sm (fun t => sgA (sgL L ts s) ((t : Int) - j) * (w ^ k) ^ t) (most L).toNat) (most L).toNat := by
    have : ∀ t, t < (most L).toNat → sm (fun j => h j * sgA (sgL L ts s) ((t : Int) - j)) (most L).toNat * w ^ (t * k) = sm (fun j => h j * (sgA (sgL L ts s) ((t : Int) - j) * (w ^ k) ^ t)) (most L).toNat := fun t _ => by
      rw [Int.mul_comm, ← sm_mul]
      refine sm_congr _ fun j _ => ?_
      rw [Int.mul_comm, Int.mul_assoc, pow_swap]
    rw [sm_congr _ this, sm_comm]
    exact sm_congr _ fun j _ => sm_mul _ _ _
  have e2 : sm (fun j => h j * w ^ (j * k)) (most L).toNat * sgT L ts s w k = sm (fun j => h j * ((w ^ k) ^ j * sgT L ts s w k)) (most L).toNat := by
    rw [Int.mul_comm, ← sm_mul]
    refine sm_congr _ fun j _ => ?_
    rw [pow_swap, Int.mul_comm, Int.mul_assoc]
  rw [e1, e2]
  refine Cg.sm _ fun j hj => (Cg.refl p _).mul ?_
  have e3 : sm (fun t => sgA (sgL L ts s) ((t : Int) - j) * (w ^ k) ^ t) (most L).toNat = sm (fun t => sgI L ts s (t + ((most L).toNat - j)) * (w ^ k) ^ t) (most L).toNat := sm_congr _ fun t _ => by rw [sgA_diff m (Nat.le_of_lt hj)]
  rw [e3]
  have e4 := turn_sum m hv ((most L).toNat - j)
  rw [← sgT_v] at e4
  have e5 := (Cg.refl p ((w ^ k) ^ j)).mul e4
  refine Cg.trans ?_ e5
  rw [← sm_mul]
  refine Cg.sm _ fun t _ => ?_
  have e6 : (w ^ k) ^ j * (sgI L ts s (t + ((most L).toNat - j)) * (w ^ k) ^ (t + ((most L).toNat - j))) = sgI L ts s (t + ((most L).toNat - j)) * ((w ^ k) ^ t * (w ^ k) ^ (most L).toNat) := by
    have : (w ^ k) ^ j * (w ^ k) ^ (t + ((most L).toNat - j)) = (w ^ k) ^ t * (w ^ k) ^ (most L).toNat := by
      rw [← Int.pow_add, ← Int.pow_add, show j + (t + ((most L).toNat - j)) = t + (most L).toNat by omega]
    rw [← this]; grind
  rw [e6]
  have := (Cg.refl p ((w ^ k) ^ t)).mul hv
  rw [Int.mul_one] at this
  exact (Cg.refl p _).mul this.symm

/-- No transform of the signs is divided by the prime. -/
theorem sgT_unit {p w : Int} {L : Int} {ts : List Int} {s : Int} (m : Mx L ts s) (hp : Pr p) (hw : Cg p (w ^ (most L).toNat) 1) (hlt : most L + 1 < p) (k : Nat) : ¬ p ∣ sgT L ts s w k := by
  have hpos := m.pos
  have hv : Cg p ((w ^ k) ^ (most L).toNat) 1 := by
    rw [← Int.pow_mul, Nat.mul_comm]; exact pow_one_mul hw k
  rw [sgT_v]
  generalize w ^ k = v at *
  intro hd
  have hA : Cg p (sm (fun t => sgI L ts s t * v ^ t) (most L).toNat) 0 := cg_zero.2 hd
  -- times the transform at the opposite place
  have key : Cg p (sm (fun r => sgI L ts s r * v ^ (((most L).toNat - 1) * r) * sm (fun t => sgI L ts s t * v ^ t) (most L).toNat) (most L).toNat) (sm (fun c => (if c = 0 then most L else -1) * v ^ c) (most L).toNat) := by
    have e1 : Cg p (sm (fun r => sgI L ts s r * v ^ (((most L).toNat - 1) * r) * sm (fun t => sgI L ts s t * v ^ t) (most L).toNat) (most L).toNat) (sm (fun r => sgI L ts s r * v ^ (((most L).toNat - 1) * r) * sm (fun t => sgI L ts s (t + r) * v ^ (t + r)) (most L).toNat) (most L).toNat) :=
      Cg.sm _ fun r _ => (Cg.refl p _).mul (turn_sum m hv r).symm
    refine e1.trans ?_
    have e2 : ∀ r, r < (most L).toNat → sgI L ts s r * v ^ (((most L).toNat - 1) * r) * sm (fun t => sgI L ts s (t + r) * v ^ (t + r)) (most L).toNat = sm (fun t => sgI L ts s r * sgI L ts s (t + r) * v ^ t * v ^ ((most L).toNat * r)) (most L).toNat := fun r _ => by
      rw [← sm_mul]
      refine sm_congr _ fun t _ => ?_
      have : v ^ (((most L).toNat - 1) * r) * v ^ (t + r) = v ^ t * v ^ ((most L).toNat * r) := by
        rw [← Int.pow_add, ← Int.pow_add]
        have h1 : (most L).toNat * r = ((most L).toNat - 1) * r + r := by
          rw [← Nat.succ_mul]; congr 1; omega
        rw [h1]; congr 1; omega
      have h2 : sgI L ts s r * v ^ (((most L).toNat - 1) * r) * (sgI L ts s (t + r) * v ^ (t + r)) = sgI L ts s r * sgI L ts s (t + r) * (v ^ (((most L).toNat - 1) * r) * v ^ (t + r)) := by grind
      rw [h2, this]; grind
    rw [sm_congr _ e2]
    have e3 : Cg p (sm (fun r => sm (fun t => sgI L ts s r * sgI L ts s (t + r) * v ^ t * v ^ ((most L).toNat * r)) (most L).toNat) (most L).toNat) (sm (fun r => sm (fun t => sgI L ts s r * sgI L ts s (t + r) * v ^ t) (most L).toNat) (most L).toNat) :=
      Cg.sm _ fun r _ => Cg.sm _ fun t _ => by
        have := (Cg.refl p (sgI L ts s r * sgI L ts s (t + r) * v ^ t)).mul (pow_one_mul hv r)
        rwa [Int.mul_one] at this
    refine e3.trans ?_
    rw [sm_comm]
    refine Cg.sm _ fun t ht => ?_
    have e4 : sm (fun r => sgI L ts s r * sgI L ts s (t + r) * v ^ t) (most L).toNat = (if t = 0 then most L else -1) * v ^ t := by
      have e5 : sm (fun r => sgI L ts s r * sgI L ts s (t + r) * v ^ t) (most L).toNat = v ^ t * sm (fun r => sgI L ts s (r + 0) * sgI L ts s (r + t)) (most L).toNat := by
        rw [← sm_mul]
        refine sm_congr _ fun r _ => ?_
        rw [Nat.add_zero, Nat.add_comm t r]; grind
      rw [e5, cor_le m (Nat.zero_le t) (by omega), Int.mul_comm]
      by_cases h : t = 0
      · rw [if_pos h, if_pos h.symm]
      · rw [if_neg h, if_neg (fun e => h e.symm)]
    rw [e4]; exact Cg.refl p _
  have hz : Cg p (sm (fun r => sgI L ts s r * v ^ (((most L).toNat - 1) * r) * sm (fun t => sgI L ts s t * v ^ t) (most L).toNat) (most L).toNat) 0 := by
    have := Cg.sm (f := fun r => sgI L ts s r * v ^ (((most L).toNat - 1) * r) * sm (fun t => sgI L ts s t * v ^ t) (most L).toNat) (g := fun _ => 0) (p := p) (most L).toNat fun r _ => by
      have := (Cg.refl p (sgI L ts s r * v ^ (((most L).toNat - 1) * r))).mul hA
      rwa [Int.mul_zero] at this
    rwa [sm_const, Int.mul_zero] at this
  have e6 : sm (fun c => (if c = 0 then most L else -1) * v ^ c) (most L).toNat = (most L + 1) - sm (fun c => v ^ c) (most L).toNat := by
    have h := sm_pick (most L) (-1) (fun c => v ^ c) 0 (most L).toNat
    rw [if_pos (by omega), Int.pow_zero] at h
    rw [sm_congr _ fun c _ => Int.mul_comm (if c = 0 then most L else -1) (v ^ c), h]
    omega
  rw [e6] at key
  have hfin := key.symm.trans hz
  by_cases h1 : Cg p v 1
  · have e7 : Cg p (sm (fun c => v ^ c) (most L).toNat) (most L) := by
      have := Cg.sm (f := fun c => v ^ c) (g := fun _ => 1) (p := p) (most L).toNat fun c _ => by
        have := h1.pow c
        rwa [Int.one_pow] at this
      rw [sm_const, Int.mul_one] at this
      rwa [show ((most L).toNat : Int) = most L by omega] at this
    have e8 := ((Cg.refl p (most L + 1)).sub e7).symm.trans hfin
    rw [show most L + 1 - most L = 1 by omega] at e8
    exact pr_small (p := p) (a := 1) (by omega) (by omega) (cg_zero.1 e8)
  · have e7 := geo_zero hp hv h1
    have e8 := ((Cg.refl p (most L + 1)).sub e7).symm.trans hfin
    rw [Int.sub_zero] at e8
    exact pr_small (p := p) (a := most L + 1) (by omega) hlt (cg_zero.1 e8)

end Go.Eng.Pu

/- Fields of the periods of registers are there; what is excited, unfolded by transforms. Plain laws. Conditions: each lemma's own. -/
namespace Go.Eng.Pu
open Go.Eng Go.Proofs
set_option linter.all false
set_option maxRecDepth 100000

/-! ### Primes, by trial -/

/-- No one of the 2 ^ k numbers from d on divides n. -/
def ckP (n : Nat) : Nat → Nat → Bool
  | d, 0 => n % d != 0
  | d, k + 1 => ckP n d k && ckP n (d + 2 ^ k) k

theorem ckP_all {n : Nat} : ∀ {k d : Nat}, ckP n d k = true → ∀ e, d ≤ e → e < d + 2 ^ k → n % e ≠ 0
  | 0, d, h, e, h1, h2 => by
    have : e = d := by omega
    rw [this]
    simpa [ckP] using h
  | k + 1, d, h, e, h1, h2 => by
    unfold ckP at h
    rw [Bool.and_eq_true] at h
    rw [Nat.pow_succ] at h2
    by_cases he : e < d + 2 ^ k
    · exact ckP_all h.1 e h1 he
    · exact ckP_all h.2 e (by omega) (by omega)

theorem pr_of {n : Nat} (h2 : 2 ≤ n) (k : Nat) (hn : n < (2 ^ k + 2) * (2 ^ k + 2)) (h : ckP n 2 k = true) : Pr (n : Int) := tr_pr (by omega) fun d hd hdd => by
  obtain ⟨e, rfl⟩ : ∃ e : Nat, d = (e : Int) := ⟨d.toNat, by omega⟩
  have h3 : e * e ≤ n := by
    have : ((e * e : Nat) : Int) ≤ n := by rw [Int.natCast_mul]; exact hdd
    omega
  have h4 : e < 2 ^ k + 2 := by
    rcases Nat.lt_or_ge e (2 ^ k + 2) with h | h
    · exact h
    · have := Nat.mul_le_mul h h; omega
  have := ckP_all h e (by omega) (by omega)
  intro hz
  apply this
  rw [← Int.natCast_emod] at hz
  exact Int.ofNat_inj.1 hz

theorem primes_big : ckP 1000000009 2 15 = true ∧ ckP 1000000021 2 15 = true ∧ ckP 1000001969 2 15 = true ∧ ckP 1000000033 2 15 = true ∧ ckP 1000000861 2 15 = true := by decide +kernel
theorem primes_mid : ckP 16000057 2 12 = true ∧ ckP 16000097 2 12 = true ∧ ckP 16000081 2 12 = true ∧ ckP 16000403 2 12 = true := by decide +kernel

theorem most_val {L : Int} (h : 2 ≤ L ∧ L ≤ 8) : most L = 3 ∨ most L = 7 ∨ most L = 15 ∨ most L = 31 ∨ most L = 63 ∨ most L = 127 ∨ most L = 255 := by
  have : L = 2 ∨ L = 3 ∨ L = 4 ∨ L = 5 ∨ L = 6 ∨ L = 7 ∨ L = 8 := by omega
  rcases this with rfl | rfl | rfl | rfl | rfl | rfl | rfl <;> decide

theorem most_val5 {L : Int} (h : 2 ≤ L ∧ L ≤ 5) : most L = 3 ∨ most L = 7 ∨ most L = 15 ∨ most L = 31 := by
  have : L = 2 ∨ L = 3 ∨ L = 4 ∨ L = 5 := by omega
  rcases this with rfl | rfl | rfl | rfl <;> decide

/-- A prime is there. -/
theorem prime_big {L : Int} (h : 2 ≤ L ∧ L ≤ 8) : ∃ q : Int, 1000000000 ≤ q ∧ q ≤ 1000001969 ∧ Pr q ∧ (q - 1) % most L = 0 := by
  obtain ⟨h1, h2, h3, h4, h5⟩ := primes_big
  rcases most_val h with e | e | e | e | e | e | e <;> rw [e]
  · exact ⟨_, by decide, by decide, pr_of (n := 1000000009) (by decide) 15 (by decide) h1, by decide⟩
  · exact ⟨_, by decide, by decide, pr_of (n := 1000000009) (by decide) 15 (by decide) h1, by decide⟩
  · exact ⟨_, by decide, by decide, pr_of (n := 1000000021) (by decide) 15 (by decide) h2, by decide⟩
  · exact ⟨_, by decide, by decide, pr_of (n := 1000001969) (by decide) 15 (by decide) h3, by decide⟩
  · exact ⟨_, by decide, by decide, pr_of (n := 1000000009) (by decide) 15 (by decide) h1, by decide⟩
  · exact ⟨_, by decide, by decide, pr_of (n := 1000000033) (by decide) 15 (by decide) h4, by decide⟩
  · exact ⟨_, by decide, by decide, pr_of (n := 1000000861) (by decide) 15 (by decide) h5, by decide⟩

theorem prime_mid {L : Int} (h : 2 ≤ L ∧ L ≤ 5) : ∃ q : Int, 16000000 ≤ q ∧ q ≤ 16000403 ∧ Pr q ∧ (q - 1) % most L = 0 := by
  obtain ⟨h1, h2, h3, h4⟩ := primes_mid
  rcases most_val5 h with e | e | e | e <;> rw [e]
  · exact ⟨_, by decide, by decide, pr_of (n := 16000057) (by decide) 12 (by decide) h1, by decide⟩
  · exact ⟨_, by decide, by decide, pr_of (n := 16000097) (by decide) 12 (by decide) h2, by decide⟩
  · exact ⟨_, by decide, by decide, pr_of (n := 16000081) (by decide) 12 (by decide) h3, by decide⟩
  · exact ⟨_, by decide, by decide, pr_of (n := 16000403) (by decide) 12 (by decide) h4, by decide⟩

theorem first_of {P : Nat → Prop} : ∀ n : Nat, P n → ∃ k, k ≤ n ∧ P k ∧ ∀ j, j < k → ¬ P j := by
  intro n
  induction n using Nat.strongRecOn with
  | ind n ih =>
    intro h
    by_cases hx : ∃ j, j < n ∧ P j
    · obtain ⟨j, hj, hp⟩ := hx
      obtain ⟨k, h1, h2, h3⟩ := ih j hj hp
      exact ⟨k, by omega, h2, h3⟩
    · exact ⟨n, Nat.le_refl _, h, fun j hj hp => hx ⟨j, hj, hp⟩⟩

/-- The field of a period is found where a prime is there. -/
theorem fo_ok {n lo q : Int} (h1 : 1 ≤ n) (h2 : n ≤ 1024) (h3 : 2 ≤ lo) (hq : lo ≤ q) (hq2 : q ≤ 2147483647) (hp : Pr q) (hm : (q - 1) % n = 0) :
    foE n lo = 0 ∧ cfE (foP n lo) (foW n lo) (foN n lo) = 0 ∧ lo ≤ foP n lo ∧ foP n lo ≤ q ∧ foN n lo = n := by
  have hr : (1 ≤ n ∧ n ≤ 1024) ∧ (2 ≤ lo ∧ lo ≤ 2147483647) := ⟨⟨h1, h2⟩, h3, by omega⟩
  have h0 : fpK n lo 0 = lo + (1 - lo) % n := fp0_eq n lo
  have hm0 := Int.emod_nonneg (1 - lo) (show n ≠ 0 by omega)
  have hm1 := Int.emod_lt_of_pos (1 - lo) (show 0 < n by omega)
  have hk0 : ∀ k : Nat, fpK n lo k = fpK n lo 0 + k * n := fun k => by unfold fpK; omega
  -- q stands on the way
  obtain ⟨kq, hkq⟩ : ∃ kq : Nat, fpK n lo kq = q := by
    have ha := fpK_mod (n := n) (lo := lo) h1 0
    have hd : n ∣ q - fpK n lo 0 := by
      have := Int.dvd_sub (Int.dvd_of_emod_eq_zero hm) (Int.dvd_of_emod_eq_zero ha)
      rwa [show q - 1 - (fpK n lo 0 - 1) = q - fpK n lo 0 by omega] at this
    obtain ⟨c, hc⟩ := hd
    have hc0 : 0 ≤ c := by
      rcases Int.lt_or_le c 0 with h | h
      · have : n * c ≤ n * -1 := Int.mul_le_mul_of_nonneg_left (by omega) (by omega)
        omega
      · exact h
    refine ⟨c.toNat, ?_⟩
    rw [hk0, show ((c.toNat : Nat) : Int) = c by omega, Int.mul_comm]; omega
  have hstop : ¬ fpOn n lo kq := fun h => by have := h.2; rw [hkq, isP_yes hp] at this; cases this
  obtain ⟨k, hkk, hk1, hk2⟩ := first_of (P := fun k => ¬ fpOn n lo k) kq hstop
  have hl : ∀ j, j < k → fpOn n lo j := fun j hj => Classical.not_not.1 (hk2 j hj)
  have hle : fpK n lo k ≤ q := by
    rw [← hkq, hk0 k, hk0 kq]
    have : (k : Int) * n ≤ (kq : Int) * n := Int.mul_le_mul_of_nonneg_right (by omega) (by omega)
    omega
  have hisP : isP (fpK n lo k) = true := by
    cases hb : isP (fpK n lo k) with
    | true => rfl
    | false => exact absurd ⟨by omega, hb⟩ hk1
  have hpr := isP_pr hisP
  have hmod := fpK_mod (n := n) (lo := lo) h1 k
  obtain ⟨g0, _, hg0⟩ := gen_k hpr h1 h2 hmod
  obtain ⟨g, _, hg1, hg2⟩ := first_of (P := fun g => rootB (fpK n lo k) (gW (fpK n lo k) n g) n = true) g0 hg0
  obtain ⟨e1, e2, e3, e4⟩ := fo_yes hr hl (by omega) hisP hg1 hg2
  have hlo : lo ≤ fpK n lo k := by
    rw [hk0, h0]
    have : 0 ≤ (k : Int) * n := Int.mul_nonneg (by omega) (by omega)
    omega
  have hgw := gW_in (p := fpK n lo k) (n := n) hpr.1 g
  have hw1 : 1 ≤ gW (fpK n lo k) n g := by
    rcases Int.lt_or_le 0 (gW (fpK n lo k) n g) with h | h
    · omega
    · exfalso
      have hz : gW (fpK n lo k) n g = 0 := by omega
      rw [hz] at hg1
      unfold rootB at hg1
      rw [Bool.and_eq_true] at hg1
      have := of_decide_eq_true hg1.1
      unfold pw at this
      rw [Int.zero_pow (by omega), Int.zero_emod] at this
      cases this
  refine ⟨e1, ?_, by omega, by omega, e4⟩
  rw [e2, e3, e4]
  unfold cfE
  rw [if_pos ⟨⟨hpr.1, by omega⟩, ⟨h1, h2⟩, hw1, by omega⟩, if_pos hisP, if_pos hmod, if_pos hg1]

/-! ### Unfolded by transforms -/

theorem getD_prt (ps : List IP) (i : Int) {k : Nat} (h : k < ps.length) : (prtL ps i).getD k 0 = prtF ps i k := tab_get _ _ _ _ h

/-- One part of what is excited, unfolded by transforms, is that part of the response. -/
theorem ui_exact {p w : Int} {L : Int} {ts : List Int} {s : Int} (m : Mx L ts s) (hfo : FOk p w (most L)) (hlt : most L + 1 < p) (hs ys : List Int) (hl : hs.length = (most L).toNat) (hyl : ys.length = (most L).toNat)
    (hy : ∀ t, t < (most L).toNat → ys.getD t 0 = sm (fun j => hs.getD j 0 * sgA (sgL L ts s) ((t : Int) - j)) (most L).toNat) (hb : ∀ k, k < (most L).toNat → -p < 2 * hs.getD k 0 ∧ 2 * hs.getD k 0 < p) {i : Nat} (hi : i < (most L).toNat) :
    uiF p w (most L) ys (dftL p w (sgL L ts s)) i = hs.getD i 0 := by
  have hpos := m.pos
  have hw : Cg p (w ^ (most L).toNat) 1 := hfo.rt.1
  have hp := hfo.pr
  have hq : quL p w ys (dftL p w (sgL L ts s)) = dftL p w hs := by
    unfold quL dftL
    rw [hyl, hl]
    refine tab_congr _ fun k hk => ?_
    have hA : (dftL p w (sgL L ts s)).getD k 0 = sgT L ts s w k % p := by
      rw [at_dftL (by rw [sgL_len]; exact hk)]
      unfold dft
      rw [sgL_len]
      refine congrArg (· % p) (sm_congr _ fun t ht => ?_)
      show (sgL L ts s).getD t 0 * _ = _
      unfold sgL
      rw [tab_get _ _ _ _ ht]
    have hY : dft p w (at0 ys) (most L).toNat k = sm (fun t => sm (fun j => hs.getD j 0 * sgA (sgL L ts s) ((t : Int) - j)) (most L).toNat * w ^ (t * k)) (most L).toNat % p := by
      unfold dft
      refine congrArg (· % p) (sm_congr _ fun t ht => ?_)
      show ys.getD t 0 * _ = _
      rw [hy t ht]
    have hunit := sgT_unit m hp hw hlt k
    have hc := conv m hw (fun j => hs.getD j 0) k
    unfold quF
    rw [hyl]
    show dft p w (at0 ys) (most L).toNat k * inv ((tab (dft p w (at0 (sgL L ts s)) (sgL L ts s).length) (sgL L ts s).length).getD k 0) p % p = dft p w (at0 hs) (most L).toNat k
    rw [show (tab (dft p w (at0 (sgL L ts s)) (sgL L ts s).length) (sgL L ts s).length).getD k 0 = sgT L ts s w k % p from hA, inv_mod, hY]
    have hfin : Cg p (sm (fun t => sm (fun j => hs.getD j 0 * sgA (sgL L ts s) ((t : Int) - j)) (most L).toNat * w ^ (t * k)) (most L).toNat % p * inv (sgT L ts s w k) p) (sm (fun j => hs.getD j 0 * w ^ (j * k)) (most L).toNat) := by
      have a := ((Cg.mod p _).trans hc).mul (Cg.refl p (inv (sgT L ts s w k) p))
      refine a.trans ?_
      rw [Int.mul_assoc]
      have b := (Cg.refl p (sm (fun j => hs.getD j 0 * w ^ (j * k)) (most L).toNat)).mul (inv_mul hp hunit)
      rwa [Int.mul_one] at b
    exact hfin
  have hbk := back_ok (xs := hs) hfo (by omega) (i := i) (by omega)
  have hback : backF p w (most L) (dftL p w hs) i = hs.getD i 0 % p := by
    unfold backL at hbk
    rwa [tab_get _ _ _ _ (by rw [dftL_len]; omega)] at hbk
  unfold uiF
  rw [hq, hback]
  have hbi := hb i hi
  have hpp := hp.1
  unfold hfc
  rcases Int.lt_or_le (hs.getD i 0) 0 with hn | hn
  · have e : hs.getD i 0 % p = hs.getD i 0 + p := by
      rw [← Int.add_emod_right]; exact Int.emod_eq_of_lt (by omega) (by omega)
    rw [e, if_pos (by omega)]; omega
  · have e : hs.getD i 0 % p = hs.getD i 0 := Int.emod_eq_of_lt hn (by omega)
    rw [e, if_neg (by omega)]

/-- What is excited, unfolded by transforms, is the response, folded. -/
theorem uw_exact {xs : CL} {L : Int} {ts : List Int} {s p w : Int} (m : Mx L ts s) (hfo : FOk p w (most L)) (hlt : most L + 1 < p) (hb : ∀ k, k < (most L).toNat → (-p < 2 * ((exf xs L).getD k (0, 0, ())).1 ∧ 2 * ((exf xs L).getD k (0, 0, ())).1 < p) ∧ (-p < 2 * ((exf xs L).getD k (0, 0, ())).2.1 ∧ 2 * ((exf xs L).getD k (0, 0, ())).2.1 < p)) :
    uwL p w (most L) (exL xs L ts s) (sgL L ts s) = exf xs L := by
  have hl : (exL xs L ts s).length = (most L).toNat := tab_len _ _
  have hg : ∀ t, t < (most L).toNat → (exL xs L ts s).getD t (0, 0, ()) = exF xs L ts s t := fun t ht => tab_get _ _ _ _ ht
  unfold uwL
  rw [hl]
  refine Eq.trans (tab_congr _ fun k hk => ?_) (Eq.trans (congrArg (tab fun i => (exf xs L).getD i (0, 0, ())) (exf_len xs L).symm) (tab_getD (0, 0, ()) (exf xs L)))
  have hfl := exf_len xs L
  have a := ui_exact m hfo hlt (prtL (exf xs L) 0) (prtL (exL xs L ts s) 0) (by rw [prtL_len]; exact hfl) (by rw [prtL_len]; exact hl) (fun t ht => by
    rw [getD_prt _ _ (by omega)]
    show ((exL xs L ts s).getD t (0, 0, ())).1 = _
    rw [hg t ht, exF_1]
    exact sm_congr _ fun j hj => by rw [getD_prt _ _ (by omega)]; rfl) (fun k hk => by rw [getD_prt _ _ (by omega)]; exact (hb k hk).1) hk
  have b := ui_exact m hfo hlt (prtL (exf xs L) 1) (prtL (exL xs L ts s) 1) (by rw [prtL_len]; exact hfl) (by rw [prtL_len]; exact hl) (fun t ht => by
    rw [getD_prt _ _ (by omega)]
    show ((exL xs L ts s).getD t (0, 0, ())).2.1 = _
    rw [hg t ht, exF_2]
    exact sm_congr _ fun j hj => by rw [getD_prt _ _ (by omega)]; rfl) (fun k hk => by rw [getD_prt _ _ (by omega)]; exact (hb k hk).2) hk
  show (uiF p w (most L) (prtL (exL xs L ts s) 0) _ k, uiF p w (most L) (prtL (exL xs L ts s) 1) _ k, ()) = _
  rw [a, b, getD_prt _ _ (by omega), getD_prt _ _ (by omega)]
  rfl

end Go.Eng.Pu

/- Contracts: equal samples, numbers of lists, for the laws on two ways of unfolding; plain laws on these. Conditions: each contract's own. -/
namespace Go.Eng.Pu
open Go.Eng Go.Proofs
set_option linter.all false
set_option maxRecDepth 100000
set_option maxHeartbeats 8000000

/-- Both parts as float64. -/
def wdC (z : Nat × Nat) : Nat × Nat := ((f2f .f32 z.1 .f64).getD 0, (f2f .f32 z.2 .f64).getD 0)
def smF (x y : Nat × Nat) : Bool := fSame (wdC x) (wdC y)
def sameL (xs ys : CL) : Bool := decide (xs.length = ys.length) && (tab (fun i => smF (xs.getD i (0, 0)) (ys.getD i (0, 0))) xs.length).all id

theorem sameL_no {xs ys : CL} {k : Nat} (hk : k < xs.length) (h : smF (xs.getD k (0, 0)) (ys.getD k (0, 0)) = false) : sameL xs ys = false := by
  unfold sameL
  have : (tab (fun i => smF (xs.getD i (0, 0)) (ys.getD i (0, 0))) xs.length).all id = false := by
    rw [List.all_eq_false]
    exact ⟨_, mem_tab' hk, by rw [id, h]; exact Bool.false_ne_true⟩
  rw [this, Bool.and_false]
theorem sameL_yes {xs ys : CL} (hl : xs.length = ys.length) (h : ∀ j, j < xs.length → smF (xs.getD j (0, 0)) (ys.getD j (0, 0)) = true) : sameL xs ys = true := by
  unfold sameL
  have : (tab (fun i => smF (xs.getD i (0, 0)) (ys.getD i (0, 0))) xs.length).all id = true := by
    rw [List.all_eq_true]
    intro b hb
    obtain ⟨j, hj, rfl⟩ := tab_mem' hb
    exact h j hj
  rw [this, decide_eq_true hl]; rfl
theorem sameL_refl (xs : CL) : sameL xs xs = true := sameL_yes rfl fun j _ => by simp [smF, fSame]
theorem sameL_all {xs ys : CL} (h : sameL xs ys = true) : xs.length = ys.length ∧ ∀ j, j < xs.length → smF (xs.getD j (0, 0)) (ys.getD j (0, 0)) = true := by
  unfold sameL at h
  rw [Bool.and_eq_true] at h
  refine ⟨of_decide_eq_true h.1, fun j hj => ?_⟩
  have := List.all_eq_true.1 h.2 _ (mem_tab' hj)
  exact this

@[reducible] def sSameG : Spec := { pats := [.dat (.sl C64), .dat (.sl C64)], res := [{ t := .bool }], pre := fun x => List.length (α := Nat × Nat) x.1 ≤ 2000000000 ∧ okC x.1 ∧ okC x.2.1, f := fun x => (sameL x.1 x.2.1, ()) }

/-- base.SameSamples -/
theorem h34g : Ok 34 sSameG := by
  refine mk (ctr := [(101, sSame)]) ⟨h101, trivial⟩ (nt := 29) Try.func34 rfl rfl rfl rfl (by kernel_rfl) (by kernel_rfl) (fun x => [fun _ => { σ := Nat, pat := fun k => [sI 5 k], inv := fun k => k ≤ List.length (α := Nat × Nat) x.1 ∧ ∀ j, j < k → smF (List.getD (α := Nat × Nat) x.1 j (0, 0)) (List.getD (α := Nat × Nat) x.2.1 j (0, 0)) = true, meas := fun k => List.length (α := Nat × Nat) x.1 - k }]) ?_
  rintro ⟨(xs : CL), (ys : CL), _⟩ ⟨(hl : xs.length ≤ 2000000000), (hc : okC xs), (hd : okC ys)⟩
  have hs : ∀ i : Nat, (f2f .f32 (xs.getD i (0, 0)).1 .f64).isSome = true ∧ (f2f .f32 (xs.getD i (0, 0)).2 .f64).isSome = true := fun i => ⟨wid_some (hc i).1, wid_some (hc i).2⟩
  have ht : ∀ i : Nat, (f2f .f32 (ys.getD i (0, 0)).1 .f64).isSome = true ∧ (f2f .f32 (ys.getD i (0, 0)).2 .f64).isSome = true := fun i => ⟨wid_some (hd i).1, wid_some (hd i).2⟩
  by_cases he : xs.length = ys.length
  · 
    repeat' (intro hzz; (try (rename Two => hq; cases hq)); (try dsimp only at hzz); (try simp only [resTy, argTy, eqD, inR, big, wantOf, Bool.not_true, Bool.not_false, Bool.true_eq, decide_eq_true_eq, decide_eq_false_iff_not, Bool.not_eq_true', Bool.not_eq_false', Bool.and_eq_true, Prod.mk.injEq, and_true, true_and, Int.not_lt, Int.not_le, gt_iff_lt, ge_iff_le] at hzz); (try simp only [resTy, argTy, eqD, inR, big, wantOf, Bool.not_true, Bool.not_false, Bool.true_eq, decide_eq_true_eq, decide_eq_false_iff_not, Bool.not_eq_true', Bool.not_eq_false', Bool.and_eq_true, Prod.mk.injEq, and_true, true_and, Int.not_lt, Int.not_le, gt_iff_lt, ge_iff_le, getD_c] at hzz); (try (first | contradiction | (exfalso; omega))); (try (revert hzz; intro _)))
    all_goals try (rename Unit => hq; clear hq)
    all_goals try ((with_reducible refine Held.mk ?_); (with_reducible (first | refine Frz.mk ?_ | refine And.intro (Frz.mk ?_) ?_ | refine And.intro ?_ (Frz.mk ?_))); repeat' first | exact True.intro | (change _ = _; with_reducible rfl) | refine And.intro ?_ ?_ | (with_reducible refine Frz.mk ?_))
    all_goals try (refine Held.mk ?_; (try dsimp only at *); (try simp only [resTy, argTy, eqD, inR, big, wantOf, Bool.not_true, Bool.not_false, Bool.true_eq, decide_eq_true_eq, decide_eq_false_iff_not, Bool.not_eq_true', Bool.not_eq_false', Bool.and_eq_true, Prod.mk.injEq, and_true, true_and, Int.not_lt, Int.not_le, gt_iff_lt, ge_iff_le] at *); (try simp only [resTy, argTy, eqD, inR, big, wantOf, Bool.not_true, Bool.not_false, Bool.true_eq, decide_eq_true_eq, decide_eq_false_iff_not, Bool.not_eq_true', Bool.not_eq_false', Bool.and_eq_true, Prod.mk.injEq, and_true, true_and, Int.not_lt, Int.not_le, gt_iff_lt, ge_iff_le, getD_c] at *))
    all_goals try omega
    · 
      refine GHeld.mk ?_
      refine Exists.intro 0 ?_
      refine And.intro (Leaf.mk ?_) ?_
      · repeat' first | exact True.intro | refine And.intro ?_ ?_
        all_goals try ((change _ = _ <;> try dsimp only) <;> try with_reducible rfl)
        all_goals try omega
      exact ⟨Nat.zero_le _, fun j hj => by omega⟩
    · exact hs _
    · exact ht _
    · rename_i k hk hlt q
      rw [sameL_no (k := k) (by omega) q]
    · rename_i k hk hlt q
      refine GHeld.mk ?_
      refine Exists.intro (k + 1) ?_
      refine And.intro (Leaf.mk ?_) ?_
      · repeat' first | exact True.intro | refine And.intro ?_ ?_
        all_goals try ((change _ = _ <;> try dsimp only) <;> try with_reducible rfl)
        all_goals try omega
      refine ⟨⟨by show k + 1 ≤ xs.length; omega, fun j hj => ?_⟩, by show xs.length - (k + 1) < xs.length - k; omega⟩
      by_cases e : j = k
      · rw [e]; exact q
      · exact hk.2 j (by omega)
    · rename_i k hk hge
      rw [sameL_yes he (fun j hj => hk.2 j (by omega))]
  · have u : sameL xs ys = false := by unfold sameL; rw [decide_eq_false he]; rfl
    repeat' (intro hzz; (try (rename Two => hq; cases hq)); (try dsimp only at hzz); (try simp only [resTy, argTy, eqD, inR, big, wantOf, Bool.not_true, Bool.not_false, Bool.true_eq, decide_eq_true_eq, decide_eq_false_iff_not, Bool.not_eq_true', Bool.not_eq_false', Bool.and_eq_true, Prod.mk.injEq, and_true, true_and, Int.not_lt, Int.not_le, gt_iff_lt, ge_iff_le] at hzz); (try simp only [resTy, argTy, eqD, inR, big, wantOf, Bool.not_true, Bool.not_false, Bool.true_eq, decide_eq_true_eq, decide_eq_false_iff_not, Bool.not_eq_true', Bool.not_eq_false', Bool.and_eq_true, Prod.mk.injEq, and_true, true_and, Int.not_lt, Int.not_le, gt_iff_lt, ge_iff_le, u] at hzz); (try (first | contradiction | (exfalso; omega))); (try (revert hzz; intro _)))
    all_goals try (rename Unit => hq; clear hq)
    all_goals try ((with_reducible refine Held.mk ?_); (with_reducible (first | refine Frz.mk ?_ | refine And.intro (Frz.mk ?_) ?_ | refine And.intro ?_ (Frz.mk ?_))); repeat' first | exact True.intro | (change _ = _; with_reducible rfl) | refine And.intro ?_ ?_ | (with_reducible refine Frz.mk ?_))
    all_goals try (refine Held.mk ?_; (try dsimp only at *); (try simp only [resTy, argTy, eqD, inR, big, wantOf, Bool.not_true, Bool.not_false, Bool.true_eq, decide_eq_true_eq, decide_eq_false_iff_not, Bool.not_eq_true', Bool.not_eq_false', Bool.and_eq_true, Prod.mk.injEq, and_true, true_and, Int.not_lt, Int.not_le, gt_iff_lt, ge_iff_le] at *); (try simp only [resTy, argTy, eqD, inR, big, wantOf, Bool.not_true, Bool.not_false, Bool.true_eq, decide_eq_true_eq, decide_eq_false_iff_not, Bool.not_eq_true', Bool.not_eq_false', Bool.and_eq_true, Prod.mk.injEq, and_true, true_and, Int.not_lt, Int.not_le, gt_iff_lt, ge_iff_le, u] at *))
    all_goals try omega

/-- Equal bits are equal numbers. -/
theorem same_num {a b : Int} (ha : -16777216 ≤ a ∧ a ≤ 16777216) (hb : -16777216 ≤ b ∧ b ≤ 16777216) (h : (f2f .f32 (floatOfInt .f32 a) .f64).getD 0 = (f2f .f32 (floatOfInt .f32 b) .f64).getD 0) : a = b := by
  obtain ⟨a1, a2⟩ := foi_num ha.1 ha.2
  obtain ⟨b1, b2⟩ := foi_num hb.1 hb.2
  obtain ⟨y, e1, e2, e3⟩ := wid_num a1
  obtain ⟨z, f1, f2, f3⟩ := wid_num b1
  rw [e1, f1, Option.getD_some, Option.getD_some] at h
  rw [h, f3, a2, b2] at e3
  have h0 := fS_pos .f32
  have h1 : (b * fS .f32) = (a * fS .f32) := Int.eq_of_mul_eq_mul_right (by decide +kernel) e3
  exact (Int.eq_of_mul_eq_mul_right (by omega) h1).symm

theorem same_eq {ps qs : List IP} (hp : allFit ps = true) (hq : allFit qs = true) (h : sameL (tL ps) (tL qs) = true) : ps = qs := by
  obtain ⟨h1, h2⟩ := sameL_all h
  have e : tL ps = tab (nmF ps) ps.length := by unfold tL; rw [if_pos hp]
  have f : tL qs = tab (nmF qs) qs.length := by unfold tL; rw [if_pos hq]
  rw [e, f, tab_len, tab_len] at h1
  rw [← tab_getD (0, 0, ()) ps, ← tab_getD (0, 0, ()) qs, ← h1]
  refine tab_congr _ fun j hj => ?_
  have a := h2 j (by rw [e, tab_len]; exact hj)
  rw [e, f, tab_get _ _ _ _ hj, tab_get _ _ _ _ (by omega)] at a
  unfold smF fSame wdC at a
  rw [Bool.and_eq_true] at a
  have x := allFit_at hp j
  have y := allFit_at hq j
  have u := same_num x.1 y.1 (of_decide_eq_true a.1)
  have v := same_num x.2 y.2 (of_decide_eq_true a.2)
  exact Prod.ext u (Prod.ext v rfl)

/-! ### Least functions of the laws -/

/-- pulseCopy -/
@[reducible] def sCopyC : Spec := { pats := [.dat (.sl C64)], res := [{ t := .sl C64 }], pre := fun x => List.length (α := Nat × Nat) x.1 ≤ 2000000000, f := fun x => (x.1, ()) }
theorem h80 : Ok 80 sCopyC := by
  refine mk (ctr := []) trivial (nt := 6) Try.func80 rfl rfl rfl rfl (by kernel_rfl) (by kernel_rfl) (fun _ => []) ?_
  rintro ⟨(xs : CL), _⟩ (h : xs.length ≤ 2000000000)
  repeat' (intro hzz; (try (rename Two => hq; cases hq)); (try dsimp only at hzz); (try simp only [resTy, argTy, eqD, inR, big, wantOf, Bool.not_true, Bool.not_false, Bool.true_eq, decide_eq_true_eq, decide_eq_false_iff_not, Bool.not_eq_true', Bool.not_eq_false', Bool.and_eq_true, Prod.mk.injEq, and_true, true_and, Int.not_lt, Int.not_le, gt_iff_lt, ge_iff_le] at hzz); (try simp only [resTy, argTy, eqD, inR, big, wantOf, Bool.not_true, Bool.not_false, Bool.true_eq, decide_eq_true_eq, decide_eq_false_iff_not, Bool.not_eq_true', Bool.not_eq_false', Bool.and_eq_true, Prod.mk.injEq, and_true, true_and, Int.not_lt, Int.not_le, gt_iff_lt, ge_iff_le, List.nil_append] at hzz); (try (first | contradiction | (exfalso; omega))); (try (revert hzz; intro _)))
  all_goals try (rename Unit => hq; clear hq)
  all_goals try ((with_reducible refine Held.mk ?_); (with_reducible (first | refine Frz.mk ?_ | refine And.intro (Frz.mk ?_) ?_ | refine And.intro ?_ (Frz.mk ?_))); repeat' first | exact True.intro | (change _ = _; with_reducible rfl) | refine And.intro ?_ ?_ | (with_reducible refine Frz.mk ?_))
  all_goals try (refine Held.mk ?_; (try dsimp only at *); (try simp only [resTy, argTy, eqD, inR, big, wantOf, Bool.not_true, Bool.not_false, Bool.true_eq, decide_eq_true_eq, decide_eq_false_iff_not, Bool.not_eq_true', Bool.not_eq_false', Bool.and_eq_true, Prod.mk.injEq, and_true, true_and, Int.not_lt, Int.not_le, gt_iff_lt, ge_iff_le] at *); (try simp only [resTy, argTy, eqD, inR, big, wantOf, Bool.not_true, Bool.not_false, Bool.true_eq, decide_eq_true_eq, decide_eq_false_iff_not, Bool.not_eq_true', Bool.not_eq_false', Bool.and_eq_true, Prod.mk.injEq, and_true, true_and, Int.not_lt, Int.not_le, gt_iff_lt, ge_iff_le, List.nil_append] at *))
  all_goals try omega
  exact (show 0 + xs.length ≤ 2147483648 by omega)

/-- pulseStart -/
theorem h81 : Ok 81 sStartL := by
  refine mk (ctr := [(19, sCopy)]) ⟨h19, trivial⟩ (nt := 8) Try.func81 rfl rfl rfl rfl (by kernel_rfl) (by kernel_rfl) (fun _ => []) ?_
  rintro ⟨⟨⟨(L : Int), (ts : List Int), _⟩, (s : Int), _⟩, _⟩ ⟨(h1 : pLen ts.length), (h2 : ts.length ≤ 2000000000)⟩
  repeat' (intro hzz; (try (rename Two => hq; cases hq)); (try dsimp only at hzz); (try simp only [resTy, argTy, eqD, inR, big, wantOf, Bool.not_true, Bool.not_false, Bool.true_eq, decide_eq_true_eq, decide_eq_false_iff_not, Bool.not_eq_true', Bool.not_eq_false', Bool.and_eq_true, Prod.mk.injEq, and_true, true_and, Int.not_lt, Int.not_le, gt_iff_lt, ge_iff_le] at hzz); (try (first | contradiction | (exfalso; omega))); (try (revert hzz; intro _)))
  all_goals try (rename Unit => hq; clear hq)
  all_goals try ((with_reducible refine Held.mk ?_); (with_reducible (first | refine Frz.mk ?_ | refine And.intro (Frz.mk ?_) ?_ | refine And.intro ?_ (Frz.mk ?_))); repeat' first | exact True.intro | (change _ = _; with_reducible rfl) | refine And.intro ?_ ?_ | (with_reducible refine Frz.mk ?_))
  all_goals try (refine Held.mk ?_; (try dsimp only at *); (try simp only [resTy, argTy, eqD, inR, big, wantOf, Bool.not_true, Bool.not_false, Bool.true_eq, decide_eq_true_eq, decide_eq_false_iff_not, Bool.not_eq_true', Bool.not_eq_false', Bool.and_eq_true, Prod.mk.injEq, and_true, true_and, Int.not_lt, Int.not_le, gt_iff_lt, ge_iff_le] at *))
  all_goals try omega
  exact ⟨h1, h2⟩

/-- base.Sample -/
@[reducible] def sSample : Spec := { pats := [.dat I64, .dat I64], res := [{ t := C64 }], pre := fun x => ((-10000 : Int) ≤ x.1 ∧ x.1 ≤ (10000 : Int)) ∧ ((-10000 : Int) ≤ x.2.1 ∧ x.2.1 ≤ (10000 : Int)), f := fun x => ((floatOfInt .f32 x.1, floatOfInt .f32 x.2.1), ()) }
theorem h143 : Ok 143 sSample := by
  refine mk (ctr := []) trivial (nt := 14) Try.func143 rfl rfl rfl rfl (by kernel_rfl) (by kernel_rfl) (fun _ => []) ?_
  rintro ⟨(a : Int), (b : Int), _⟩ ⟨⟨(h1 : -10000 ≤ a), (h2 : a ≤ 10000)⟩, ⟨(h3 : -10000 ≤ b), (h4 : b ≤ 10000)⟩⟩
  repeat' (intro hzz; (try (rename Two => hq; cases hq)); (try dsimp only at hzz); (try simp only [resTy, argTy, eqD, inR, big, wantOf, Bool.not_true, Bool.not_false, Bool.true_eq, decide_eq_true_eq, decide_eq_false_iff_not, Bool.not_eq_true', Bool.not_eq_false', Bool.and_eq_true, Prod.mk.injEq, and_true, true_and, Int.not_lt, Int.not_le, gt_iff_lt, ge_iff_le] at hzz); (try (first | contradiction | (exfalso; omega))); (try (revert hzz; intro _)))
  all_goals try (rename Unit => hq; clear hq)
  all_goals try ((with_reducible refine Held.mk ?_); (with_reducible (first | refine Frz.mk ?_ | refine And.intro (Frz.mk ?_) ?_ | refine And.intro ?_ (Frz.mk ?_))); repeat' first | exact True.intro | (change _ = _; with_reducible rfl) | refine And.intro ?_ ?_ | (with_reducible refine Frz.mk ?_))
  all_goals try (refine Held.mk ?_; (try dsimp only at *); (try simp only [resTy, argTy, eqD, inR, big, wantOf, Bool.not_true, Bool.not_false, Bool.true_eq, decide_eq_true_eq, decide_eq_false_iff_not, Bool.not_eq_true', Bool.not_eq_false', Bool.and_eq_true, Prod.mk.injEq, and_true, true_and, Int.not_lt, Int.not_le, gt_iff_lt, ge_iff_le] at *))
  all_goals try omega
  simp only [cond_true, cond_false]
  repeat' split
  all_goals first | rfl | (exfalso; omega) | (refine Prod.ext ?_ ?_ <;> (show floatOfInt .f32 _ = floatOfInt .f32 _) <;> (congr 1; omega)) | (exact ⟨rfl, rfl⟩) | (exact ⟨congrArg (floatOfInt .f32) (by omega), congrArg (floatOfInt .f32) (by omega)⟩) | (refine And.intro ?_ ?_ <;> (congr 1; omega)) | (congr 1; omega) | skip

/-- All parts are small. -/
def inAll (B : Int) (ps : List IP) : Bool := ps.all fun p => fWithin p.1 (-B) B && fWithin p.2.1 (-B) B
theorem inAll_at {B : Int} (hB : 0 ≤ B) {ps : List IP} (h : inAll B ps = true) (i : Nat) : inBP B (ps.getD i (0, 0, ())) := by
  by_cases hi : i < ps.length
  · have := List.all_eq_true.1 h ps[i] (List.getElem_mem hi)
    rw [Bool.and_eq_true] at this
    rw [List.getD_eq_getElem?_getD, List.getElem?_eq_getElem hi, Option.getD_some]
    exact ⟨of_decide_eq_true this.1, of_decide_eq_true this.2⟩
  · rw [List.getD_eq_getElem?_getD, List.getElem?_eq_none (by omega)]
    show inBP B (0, 0, ())
    exact ⟨⟨by show -B ≤ 0; omega, hB⟩, ⟨by show -B ≤ 0; omega, hB⟩⟩
theorem inAll_no {B : Int} {ps : List IP} {k : Nat} (hk : k < ps.length) (h : (fWithin (ps.getD k (0, 0, ())).1 (-B) B && fWithin (ps.getD k (0, 0, ())).2.1 (-B) B) = false) : inAll B ps = false := by
  unfold inAll
  rw [List.all_eq_false]
  refine ⟨ps[k], List.getElem_mem hk, ?_⟩
  rw [List.getD_eq_getElem?_getD, List.getElem?_eq_getElem hk, Option.getD_some] at h
  rw [h]; exact Bool.false_ne_true
theorem inAll_yes {B : Int} {ps : List IP} (h : ∀ j, j < ps.length → (fWithin (ps.getD j (0, 0, ())).1 (-B) B && fWithin (ps.getD j (0, 0, ())).2.1 (-B) B) = true) : inAll B ps = true := by
  unfold inAll
  rw [List.all_eq_true]
  intro p hp
  obtain ⟨j, hj, e⟩ := List.mem_iff_getElem.1 hp
  have := h j hj
  rw [List.getD_eq_getElem?_getD, List.getElem?_eq_getElem hj, Option.getD_some, e] at this
  exact this

theorem wi2 {a b B : Int} (h1 : -B ≤ a ∧ a ≤ B) (h2 : -B ≤ b ∧ b ≤ B) : (fWithin a (-B) B && fWithin b (-B) B) = true := by
  rw [show fWithin a (-B) B = true from decide_eq_true h1, show fWithin b (-B) B = true from decide_eq_true h2]; rfl

@[reducible] def sPNum : Spec := { pats := [.dat (.sl PairT), .dat I64], res := [{ own := some 136, t := .sl C64 }, { t := .bool }], pre := fun x => List.length (α := IP) x.1 ≤ 2000000000 ∧ ((0 : Int) ≤ x.2.1 ∧ x.2.1 ≤ (10000 : Int)), f := fun x => ((if inAll x.2.1 x.1 = true then tab (nmF x.1) (List.length (α := IP) x.1) else []), inAll x.2.1 x.1, ()) }

/-- pulseNumbers -/
theorem h79 : Ok 79 sPNum := by
  refine mk (ctr := [(25, sWithin), (143, sSample)]) ⟨h25, h143, trivial⟩ (nt := 51) Try.func79 rfl rfl rfl rfl (by kernel_rfl) (by kernel_rfl) (fun x => [fun _ => { σ := Nat, pat := fun k => [sI 7 k] ++ rOwn 6 60006 136 C64 (tab (nmF x.1) k), inv := fun k => k ≤ List.length (α := IP) x.1 ∧ ∀ j, j < k → (fWithin (List.getD (α := IP) x.1 j (0, 0, ())).1 (-x.2.1) x.2.1 && fWithin (List.getD (α := IP) x.1 j (0, 0, ())).2.1 (-x.2.1) x.2.1) = true, meas := fun k => List.length (α := IP) x.1 - k }]) ?_
  rintro ⟨(ps : List IP), (B : Int), _⟩ ⟨(hl : ps.length ≤ 2000000000), ⟨(h0 : 0 ≤ B), (h1 : B ≤ 10000)⟩⟩
  repeat' (intro hzz; (try (rename Two => hq; cases hq)); (try dsimp only at hzz); (try simp only [resTy, argTy, eqD, inR, big, wantOf, Bool.not_true, Bool.not_false, Bool.true_eq, decide_eq_true_eq, decide_eq_false_iff_not, Bool.not_eq_true', Bool.not_eq_false', Bool.and_eq_true, Prod.mk.injEq, and_true, true_and, Int.not_lt, Int.not_le, gt_iff_lt, ge_iff_le] at hzz); (try (first | contradiction | (exfalso; omega))); (try (revert hzz; intro _)))
  all_goals try (rename Unit => hq; clear hq)
  all_goals try ((with_reducible refine Held.mk ?_); (with_reducible (first | refine Frz.mk ?_ | refine And.intro (Frz.mk ?_) ?_ | refine And.intro ?_ (Frz.mk ?_))); repeat' first | exact True.intro | (change _ = _; with_reducible rfl) | refine And.intro ?_ ?_ | (with_reducible refine Frz.mk ?_))
  all_goals try (refine Held.mk ?_; (try dsimp only at *); (try simp only [resTy, argTy, eqD, inR, big, wantOf, Bool.not_true, Bool.not_false, Bool.true_eq, decide_eq_true_eq, decide_eq_false_iff_not, Bool.not_eq_true', Bool.not_eq_false', Bool.and_eq_true, Prod.mk.injEq, and_true, true_and, Int.not_lt, Int.not_le, gt_iff_lt, ge_iff_le] at *))
  all_goals try omega
  · 
    refine GHeld.mk ?_
    refine Exists.intro 0 ?_
    refine And.intro (Leaf.mk ?_) ?_
    · repeat' first | exact True.intro | refine And.intro ?_ ?_
      all_goals try ((change _ = _ <;> try dsimp only) <;> try with_reducible rfl)
      all_goals try omega
      all_goals (rfl)
    exact ⟨Nat.zero_le _, fun j hj => by omega⟩
  · rename_i k hk hlt q1 q2
    have u := inAll_no (B := B) (ps := ps) (k := k) (by omega) (by rw [show fWithin (ps.getD k (0, 0, ())).2.1 (-B) B = false from decide_eq_false q2, Bool.and_false])
    rw [u]; exact ⟨rfl, rfl⟩
  · rename_i k hk hlt q1 q2
    have a := (show -B ≤ (ps.getD k (0, 0, ())).1 ∧ (ps.getD k (0, 0, ())).1 ≤ B from q1)
    have b := (show -B ≤ (ps.getD k (0, 0, ())).2.1 ∧ (ps.getD k (0, 0, ())).2.1 ≤ B from q2)
    exact ⟨⟨(show -10000 ≤ (ps.getD k (0, 0, ())).1 by omega), (show (ps.getD k (0, 0, ())).1 ≤ 10000 by omega)⟩, ⟨(show -10000 ≤ (ps.getD k (0, 0, ())).2.1 by omega), (show (ps.getD k (0, 0, ())).2.1 ≤ 10000 by omega)⟩⟩
  · rename_i k hk hlt q1 q2
    rw [tab_len]; show k + 1 ≤ 2147483648; omega
  · rename_i k hk hlt q1 q2
    refine GHeld.mk ?_
    refine Exists.intro (k + 1) ?_
    refine And.intro (Leaf.mk ?_) ?_
    · repeat' first | exact True.intro | refine And.intro ?_ ?_
      all_goals try ((change _ = _ <;> try dsimp only) <;> try with_reducible rfl)
      all_goals try omega
      all_goals (rfl)
    refine ⟨⟨by show k + 1 ≤ ps.length; omega, fun j hj => ?_⟩, by show ps.length - (k + 1) < ps.length - k; omega⟩
    by_cases e : j = k
    · rw [e]; exact wi2 q1 q2
    · have h := hk.2 j (by omega); exact wi2 h.1 h.2
  · rename_i k hk hlt q1
    have u := inAll_no (B := B) (ps := ps) (k := k) (by omega) (by rw [show fWithin (ps.getD k (0, 0, ())).1 (-B) B = false from decide_eq_false q1, Bool.false_and])
    rw [u]; exact ⟨rfl, rfl⟩
  · rename_i k hk hge
    have u := inAll_yes (B := B) (ps := ps) (fun j hj => by
      have h := hk.2 j (by omega)
      rw [show fWithin (ps.getD j (0, 0, ())).1 (-B) B = true from decide_eq_true h.1, show fWithin (ps.getD j (0, 0, ())).2.1 (-B) B = true from decide_eq_true h.2]; rfl)
    rw [u, show k = ps.length by omega]; exact ⟨rfl, rfl⟩

/-- pulseMaximal -/
def pmB (L : Int) (ts : List Int) (s : Int) : Bool := decide (ts.length ≤ 8) && (decide (opErr L ts s = 0) && (decide (L ≤ 5) && decide ((per L ts 1 : Int) = most L)))
@[reducible] def sPMax : Spec := { pats := [.dat StartT'], res := [{ t := .bool }], pre := fun _ => True, f := fun x => (pmB x.1.1.1 x.1.1.2.1 x.1.2.1, ()) }
theorem h78 : Ok 78 sPMax := by
  refine mk (ctr := [(23, sStartR), (64, sRIsMax)]) ⟨h23, h64, trivial⟩ (nt := 27) Try.func78 rfl rfl rfl rfl (by kernel_rfl) (by kernel_rfl) (fun _ => []) ?_
  rintro ⟨⟨⟨(L : Int), (ts : List Int), _⟩, (s : Int), _⟩, _⟩ _
  by_cases h8 : ts.length ≤ 8
  · have hts : pLen ts.length := by unfold pLen; omega
    by_cases ho : opErr L ts s = 0
    · have hst := (op_pSt hts ho).1
      by_cases h5 : L ≤ 5
      · have u : pmB L ts s = decide ((per L ts 1 : Int) = most L) := by unfold pmB; rw [decide_eq_true h8, decide_eq_true ho, decide_eq_true h5]; rfl
        repeat' (intro hzz; (try (rename Two => hq; cases hq)); (try dsimp only at hzz); (try simp only [resTy, argTy, eqD, inR, big, wantOf, Bool.not_true, Bool.not_false, Bool.true_eq, decide_eq_true_eq, decide_eq_false_iff_not, Bool.not_eq_true', Bool.not_eq_false', Bool.and_eq_true, Prod.mk.injEq, and_true, true_and, Int.not_lt, Int.not_le, gt_iff_lt, ge_iff_le] at hzz); (try simp only [resTy, argTy, eqD, inR, big, wantOf, Bool.not_true, Bool.not_false, Bool.true_eq, decide_eq_true_eq, decide_eq_false_iff_not, Bool.not_eq_true', Bool.not_eq_false', Bool.and_eq_true, Prod.mk.injEq, and_true, true_and, Int.not_lt, Int.not_le, gt_iff_lt, ge_iff_le, ho, u] at hzz); (try (first | contradiction | (exfalso; omega))); (try (revert hzz; intro _)))
        all_goals try (rename Unit => hq; clear hq)
        all_goals try ((with_reducible refine Held.mk ?_); (with_reducible (first | refine Frz.mk ?_ | refine And.intro (Frz.mk ?_) ?_ | refine And.intro ?_ (Frz.mk ?_))); repeat' first | exact True.intro | (change _ = _; with_reducible rfl) | refine And.intro ?_ ?_ | (with_reducible refine Frz.mk ?_))
        all_goals try (refine Held.mk ?_; (try dsimp only at *); (try simp only [resTy, argTy, eqD, inR, big, wantOf, Bool.not_true, Bool.not_false, Bool.true_eq, decide_eq_true_eq, decide_eq_false_iff_not, Bool.not_eq_true', Bool.not_eq_false', Bool.and_eq_true, Prod.mk.injEq, and_true, true_and, Int.not_lt, Int.not_le, gt_iff_lt, ge_iff_le] at *); (try simp only [resTy, argTy, eqD, inR, big, wantOf, Bool.not_true, Bool.not_false, Bool.true_eq, decide_eq_true_eq, decide_eq_false_iff_not, Bool.not_eq_true', Bool.not_eq_false', Bool.and_eq_true, Prod.mk.injEq, and_true, true_and, Int.not_lt, Int.not_le, gt_iff_lt, ge_iff_le, ho, u] at *))
        all_goals try omega
        all_goals exact ⟨hst.1, hts⟩
      · have u : pmB L ts s = false := by unfold pmB; rw [decide_eq_true h8, decide_eq_true ho, decide_eq_false h5]; rfl
        repeat' (intro hzz; (try (rename Two => hq; cases hq)); (try dsimp only at hzz); (try simp only [resTy, argTy, eqD, inR, big, wantOf, Bool.not_true, Bool.not_false, Bool.true_eq, decide_eq_true_eq, decide_eq_false_iff_not, Bool.not_eq_true', Bool.not_eq_false', Bool.and_eq_true, Prod.mk.injEq, and_true, true_and, Int.not_lt, Int.not_le, gt_iff_lt, ge_iff_le] at hzz); (try simp only [resTy, argTy, eqD, inR, big, wantOf, Bool.not_true, Bool.not_false, Bool.true_eq, decide_eq_true_eq, decide_eq_false_iff_not, Bool.not_eq_true', Bool.not_eq_false', Bool.and_eq_true, Prod.mk.injEq, and_true, true_and, Int.not_lt, Int.not_le, gt_iff_lt, ge_iff_le, ho, u] at hzz); (try (first | contradiction | (exfalso; omega))); (try (revert hzz; intro _)))
        all_goals try (rename Unit => hq; clear hq)
        all_goals try ((with_reducible refine Held.mk ?_); (with_reducible (first | refine Frz.mk ?_ | refine And.intro (Frz.mk ?_) ?_ | refine And.intro ?_ (Frz.mk ?_))); repeat' first | exact True.intro | (change _ = _; with_reducible rfl) | refine And.intro ?_ ?_ | (with_reducible refine Frz.mk ?_))
        all_goals try (refine Held.mk ?_; (try dsimp only at *); (try simp only [resTy, argTy, eqD, inR, big, wantOf, Bool.not_true, Bool.not_false, Bool.true_eq, decide_eq_true_eq, decide_eq_false_iff_not, Bool.not_eq_true', Bool.not_eq_false', Bool.and_eq_true, Prod.mk.injEq, and_true, true_and, Int.not_lt, Int.not_le, gt_iff_lt, ge_iff_le] at *); (try simp only [resTy, argTy, eqD, inR, big, wantOf, Bool.not_true, Bool.not_false, Bool.true_eq, decide_eq_true_eq, decide_eq_false_iff_not, Bool.not_eq_true', Bool.not_eq_false', Bool.and_eq_true, Prod.mk.injEq, and_true, true_and, Int.not_lt, Int.not_le, gt_iff_lt, ge_iff_le, ho, u] at *))
        all_goals try omega
    · have u : pmB L ts s = false := by unfold pmB; rw [decide_eq_true h8, decide_eq_false ho]; rfl
      repeat' (intro hzz; (try (rename Two => hq; cases hq)); (try dsimp only at hzz); (try simp only [resTy, argTy, eqD, inR, big, wantOf, Bool.not_true, Bool.not_false, Bool.true_eq, decide_eq_true_eq, decide_eq_false_iff_not, Bool.not_eq_true', Bool.not_eq_false', Bool.and_eq_true, Prod.mk.injEq, and_true, true_and, Int.not_lt, Int.not_le, gt_iff_lt, ge_iff_le] at hzz); (try simp only [resTy, argTy, eqD, inR, big, wantOf, Bool.not_true, Bool.not_false, Bool.true_eq, decide_eq_true_eq, decide_eq_false_iff_not, Bool.not_eq_true', Bool.not_eq_false', Bool.and_eq_true, Prod.mk.injEq, and_true, true_and, Int.not_lt, Int.not_le, gt_iff_lt, ge_iff_le, u] at hzz); (try (first | contradiction | (exfalso; omega))); (try (revert hzz; intro _)))
      all_goals try (rename Unit => hq; clear hq)
      all_goals try ((with_reducible refine Held.mk ?_); (with_reducible (first | refine Frz.mk ?_ | refine And.intro (Frz.mk ?_) ?_ | refine And.intro ?_ (Frz.mk ?_))); repeat' first | exact True.intro | (change _ = _; with_reducible rfl) | refine And.intro ?_ ?_ | (with_reducible refine Frz.mk ?_))
      all_goals try (refine Held.mk ?_; (try dsimp only at *); (try simp only [resTy, argTy, eqD, inR, big, wantOf, Bool.not_true, Bool.not_false, Bool.true_eq, decide_eq_true_eq, decide_eq_false_iff_not, Bool.not_eq_true', Bool.not_eq_false', Bool.and_eq_true, Prod.mk.injEq, and_true, true_and, Int.not_lt, Int.not_le, gt_iff_lt, ge_iff_le] at *); (try simp only [resTy, argTy, eqD, inR, big, wantOf, Bool.not_true, Bool.not_false, Bool.true_eq, decide_eq_true_eq, decide_eq_false_iff_not, Bool.not_eq_true', Bool.not_eq_false', Bool.and_eq_true, Prod.mk.injEq, and_true, true_and, Int.not_lt, Int.not_le, gt_iff_lt, ge_iff_le, u] at *))
      all_goals try omega
  · have u : pmB L ts s = false := by unfold pmB; rw [decide_eq_false h8]; rfl
    repeat' (intro hzz; (try (rename Two => hq; cases hq)); (try dsimp only at hzz); (try simp only [resTy, argTy, eqD, inR, big, wantOf, Bool.not_true, Bool.not_false, Bool.true_eq, decide_eq_true_eq, decide_eq_false_iff_not, Bool.not_eq_true', Bool.not_eq_false', Bool.and_eq_true, Prod.mk.injEq, and_true, true_and, Int.not_lt, Int.not_le, gt_iff_lt, ge_iff_le] at hzz); (try simp only [resTy, argTy, eqD, inR, big, wantOf, Bool.not_true, Bool.not_false, Bool.true_eq, decide_eq_true_eq, decide_eq_false_iff_not, Bool.not_eq_true', Bool.not_eq_false', Bool.and_eq_true, Prod.mk.injEq, and_true, true_and, Int.not_lt, Int.not_le, gt_iff_lt, ge_iff_le, u] at hzz); (try (first | contradiction | (exfalso; omega))); (try (revert hzz; intro _)))
    all_goals try (rename Unit => hq; clear hq)
    all_goals try ((with_reducible refine Held.mk ?_); (with_reducible (first | refine Frz.mk ?_ | refine And.intro (Frz.mk ?_) ?_ | refine And.intro ?_ (Frz.mk ?_))); repeat' first | exact True.intro | (change _ = _; with_reducible rfl) | refine And.intro ?_ ?_ | (with_reducible refine Frz.mk ?_))
    all_goals try (refine Held.mk ?_; (try dsimp only at *); (try simp only [resTy, argTy, eqD, inR, big, wantOf, Bool.not_true, Bool.not_false, Bool.true_eq, decide_eq_true_eq, decide_eq_false_iff_not, Bool.not_eq_true', Bool.not_eq_false', Bool.and_eq_true, Prod.mk.injEq, and_true, true_and, Int.not_lt, Int.not_le, gt_iff_lt, ge_iff_le] at *); (try simp only [resTy, argTy, eqD, inR, big, wantOf, Bool.not_true, Bool.not_false, Bool.true_eq, decide_eq_true_eq, decide_eq_false_iff_not, Bool.not_eq_true', Bool.not_eq_false', Bool.and_eq_true, Prod.mk.injEq, and_true, true_and, Int.not_lt, Int.not_le, gt_iff_lt, ge_iff_le, u] at *))
    all_goals try omega

@[reducible] def sPulsed : Spec := { pats := [], res := [{ t := .bool }], pre := fun _ => True, f := fun _ => (true, ()) }

def ex1 : CL := lsL [(1082130432, 0, ()), (3212836864, 1073741824, ())]
def ex2 : CL := lsL [(3225419776, 3221225472, ()), (1084227584, 3221225472, ()), (3231711232, 1073741824, ())]
def ex3 : CL := lsL [(1082130432, 0, ()), (3212836864, 1073741824, ()), (0, 0, ())]
theorem ex_ok : exE ex1 2 [1, 2] 1 = 0 ∧ exR ex1 2 [1, 2] 1 = ex2 ∧ ufE ex2 2 [1, 2] 1 = 0 ∧ ufR ex2 2 [1, 2] 1 = ex3 := by decide +kernel

end Go.Eng.Pu

/- Maximal registers: a recording that is unfolded is what is excited of the result. Plain laws. Conditions: the register is right and maximal. -/
namespace Go.Eng.Pu
open Go.Eng Go.Proofs
set_option linter.all false
set_option maxRecDepth 100000

theorem sm_front (f : Nat → Int) : ∀ n : Nat, sm f (n + 1) = f 0 + sm (fun i => f (i + 1)) n
  | 0 => by show sm f 0 + f 0 = f 0 + sm _ 0; simp [sm]
  | n + 1 => by
    show sm f (n + 1) + f (n + 1) = f 0 + (sm (fun i => f (i + 1)) n + f (n + 1))
    rw [sm_front f n]; omega

theorem sm_rev (F : Nat → Int) : ∀ n : Nat, sm (fun j => F (n - j)) n = sm (fun i => F (i + 1)) n
  | 0 => rfl
  | n + 1 => by
    rw [sm_front]
    have e : sm (fun i => F (n + 1 - (i + 1))) n = sm (fun j => F (n - j)) n := sm_congr n fun i _ => by rw [Nat.add_sub_add_right]
    rw [e, sm_rev F n]
    show F (n + 1) + _ = sm (fun i => F (i + 1)) n + F (n + 1)
    omega

theorem sum_signs' {L : Int} {ts : List Int} {s : Int} (m : Mx L ts s) (t : Nat) : sm (fun k => sgA (sgL L ts s) ((t : Int) - k)) (most L).toNat = -1 := by
  have e : sm (fun k => sgA (sgL L ts s) ((t : Int) - k)) (most L).toNat = sm (fun k => (fun i => sgI L ts s (i + t)) ((most L).toNat - k)) (most L).toNat := sm_congr _ fun k hk => by
    rw [sgA_diff m (Nat.le_of_lt hk), Nat.add_comm]
  rw [e, sm_rev (fun i => sgI L ts s (i + t))]
  have h := sm_turn (sgI_turn m) (t + 1)
  have a := sumS_one m.hst.1 m.hst.2.1 m.hM m.hst m.hs
  rw [sum_max m.hst.1 m.hst.2.1 m.hM] at a
  unfold sumS at a
  rw [m.N] at a
  rw [← a, ← h]
  exact sm_congr _ fun i _ => by show sgI L ts s (i + 1 + t) = _; rw [show i + 1 + t = i + (t + 1) by omega]

theorem cor_two' {L : Int} {ts : List Int} {s : Int} (m : Mx L ts s) {j t : Nat} (hj : j < (most L).toNat) (ht : t < (most L).toNat) :
    sm (fun k => sgA (sgL L ts s) ((j : Int) - k) * sgA (sgL L ts s) ((t : Int) - k)) (most L).toNat = if j = t then most L else -1 := by
  have e : sm (fun k => sgA (sgL L ts s) ((j : Int) - k) * sgA (sgL L ts s) ((t : Int) - k)) (most L).toNat = sm (fun k => (fun i => sgI L ts s (i + j) * sgI L ts s (i + t)) ((most L).toNat - k)) (most L).toNat := sm_congr _ fun k hk => by
    rw [sgA_diff m (Nat.le_of_lt hk), sgA_diff m (Nat.le_of_lt hk), Nat.add_comm, Nat.add_comm t]
  rw [e, sm_rev (fun i => sgI L ts s (i + j) * sgI L ts s (i + t))]
  have key : ∀ a b : Nat, a ≤ b → b < (most L).toNat → sm (fun i => sgI L ts s (i + 1 + a) * sgI L ts s (i + 1 + b)) (most L).toNat = if a = b then most L else -1 := fun a b hab hb => by
    have := cor_le m (a := a + 1) (b := b + 1) (by omega) (by omega)
    rw [sm_congr _ fun i _ => by rw [show i + 1 + a = i + (a + 1) by omega, show i + 1 + b = i + (b + 1) by omega], this]
    by_cases h : a = b
    · rw [if_pos h, if_pos (by omega)]
    · rw [if_neg h, if_neg (by omega)]
  rcases Nat.le_total j t with h | h
  · exact key j t h ht
  · rw [sm_congr _ fun i _ => Int.mul_comm _ _, key t j h hj]
    by_cases e : j = t
    · rw [if_pos e, if_pos e.symm]
    · rw [if_neg e, if_neg (fun h => e h.symm)]

/-- The response that correlation tells excites the recording. -/
theorem forth_sum {L : Int} {ts : List Int} {s : Int} (m : Mx L ts s) (y h : Nat → Int) (hh : ∀ k, k < (most L).toNat → (most L + 1) * h k = sm (fun t => y t * sgA (sgL L ts s) ((t : Int) - k)) (most L).toNat - sm y (most L).toNat) {t : Nat} (ht : t < (most L).toNat) :
    sm (fun k => h k * sgA (sgL L ts s) ((t : Int) - k)) (most L).toNat = y t := by
  have hpos := m.pos
  have e0 : (most L + 1) * sm (fun k => h k * sgA (sgL L ts s) ((t : Int) - k)) (most L).toNat = (most L + 1) * y t := by
    rw [← sm_mul]
    have e1 : ∀ k, k < (most L).toNat → (most L + 1) * (h k * sgA (sgL L ts s) ((t : Int) - k)) = sm (fun u => y u * (sgA (sgL L ts s) ((u : Int) - k) * sgA (sgL L ts s) ((t : Int) - k))) (most L).toNat + -sm y (most L).toNat * sgA (sgL L ts s) ((t : Int) - k) := fun k hk => by
      have a : sm (fun u => y u * (sgA (sgL L ts s) ((u : Int) - k) * sgA (sgL L ts s) ((t : Int) - k))) (most L).toNat = sgA (sgL L ts s) ((t : Int) - k) * sm (fun u => y u * sgA (sgL L ts s) ((u : Int) - k)) (most L).toNat := by
        rw [← sm_mul]; exact sm_congr _ fun u _ => by grind
      rw [a, ← Int.mul_assoc, hh k hk]; grind
    rw [sm_congr _ e1, sm_add, sm_comm, sm_mul, sum_signs' m t]
    have e2 : sm (fun u => sm (fun k => y u * (sgA (sgL L ts s) ((u : Int) - k) * sgA (sgL L ts s) ((t : Int) - k))) (most L).toNat) (most L).toNat = sm (fun u => y u * (if u = t then most L else -1)) (most L).toNat := sm_congr _ fun u hu => by
      rw [sm_mul, cor_two' m hu ht]
    rw [e2, sm_pick, if_pos ht]; grind
  exact Int.eq_of_mul_eq_mul_left (by omega) e0

/-- A list folded to its own length. -/
theorem flL_self {ps : List IP} {n : Nat} (h : ps.length = n) : flL ps n ps.length = ps := by
  unfold flL
  refine Eq.trans (tab_congr n fun i hi => ?_) (by rw [← h]; exact tab_getD (0, 0, ()) ps)
  have key : ∀ k, k ≤ n → flV ps n i k = if i < k then ps.getD i (0, 0, ()) else (0, 0, ()) := by
    intro k
    induction k with
    | zero => intro _; rw [if_neg (by omega)]; rfl
    | succ k ih =>
      intro hk
      show (if i = k % n then plusP (flV ps n i k) (ps.getD k (0, 0, ())) else flV ps n i k) = _
      rw [Nat.mod_eq_of_lt (by omega), ih (by omega)]
      by_cases e : i = k
      · subst e; rw [if_pos rfl, if_neg (by omega), if_pos (by omega), plusP_zero']
      · rw [if_neg e]
        by_cases h2 : i < k
        · rw [if_pos h2, if_pos (by omega)]
        · rw [if_neg h2, if_neg (by omega)]
  rw [h, key n (Nat.le_refl _), if_pos hi]

theorem mul_of_mod {a n : Int} (h : a % n = 0) : n * (a / n) = a := Int.mul_ediv_cancel' (Int.dvd_of_emod_eq_zero h)

/-- What is excited of what is unfolded is the recording. -/
theorem excite_back {Y X : CL} {L : Int} {ts : List Int} {s : Int} (m : Mx L ts s) (hl : (lP Y).length = (most L).toNat) (hB : ufB Y L ts s = true) (hX : lP X = ufL Y L ts s) : exf X L = ufL Y L ts s ∧ exL X L ts s = lP Y := by
  have hpos := m.pos
  have hul : (ufL Y L ts s).length = (most L).toNat := tab_len _ _
  have hx : exf X L = ufL Y L ts s := by
    unfold exf
    rw [hX]
    exact flL_self hul
  refine ⟨hx, ?_⟩
  have hd : ∀ k, k < (most L).toNat → dvB (most L + 1) (ufV Y L ts s k) = true := fun k hk => by
    unfold ufB at hB
    exact List.all_eq_true.1 hB _ (mem_tab' hk)
  have hg : ∀ k, k < (most L).toNat → (ufL Y L ts s).getD k (0, 0, ()) = qoP (most L + 1) (ufV Y L ts s k) := fun k hk => tab_get _ _ _ _ hk
  have hs : ∀ k t : Nat, sgA (sgL L ts s) (-1 * ((k : Int) - t)) = sgA (sgL L ts s) ((t : Int) - k) := fun k t => by rw [show -1 * ((k : Int) - t) = (t : Int) - k by omega]
  have h1 : ∀ k, k < (most L).toNat → (most L + 1) * ((ufL Y L ts s).getD k (0, 0, ())).1 = sm (fun t => ((lP Y).getD t (0, 0, ())).1 * sgA (sgL L ts s) ((t : Int) - k)) (most L).toNat - sm (fun t => ((lP Y).getD t (0, 0, ())).1) (most L).toNat := fun k hk => by
    have d := hd k hk
    unfold dvB at d
    rw [Bool.and_eq_true] at d
    rw [hg k hk]
    show (most L + 1) * ((ufV Y L ts s k).1 / (most L + 1)) = _
    rw [mul_of_mod (of_decide_eq_true d.1)]
    show (trV (lP Y) (sgL L ts s) k (-1) (lP Y).length).1 - (flV (lP Y) 1 0 (lP Y).length).1 = _
    rw [trV_1, flV_1, hl, sm_congr _ fun t _ => by rw [hs k t]]
  have h2 : ∀ k, k < (most L).toNat → (most L + 1) * ((ufL Y L ts s).getD k (0, 0, ())).2.1 = sm (fun t => ((lP Y).getD t (0, 0, ())).2.1 * sgA (sgL L ts s) ((t : Int) - k)) (most L).toNat - sm (fun t => ((lP Y).getD t (0, 0, ())).2.1) (most L).toNat := fun k hk => by
    have d := hd k hk
    unfold dvB at d
    rw [Bool.and_eq_true] at d
    rw [hg k hk]
    show (most L + 1) * ((ufV Y L ts s k).2.1 / (most L + 1)) = _
    rw [mul_of_mod (of_decide_eq_true d.2)]
    show (trV (lP Y) (sgL L ts s) k (-1) (lP Y).length).2.1 - (flV (lP Y) 1 0 (lP Y).length).2.1 = _
    rw [trV_2, flV_2, hl, sm_congr _ fun t _ => by rw [hs k t]]
  unfold exL
  refine Eq.trans (tab_congr _ fun t ht => ?_) (by rw [← hl]; exact tab_getD (0, 0, ()) (lP Y))
  have a := forth_sum m _ _ h1 ht
  have b := forth_sum m _ _ h2 ht
  refine Prod.ext ?_ (Prod.ext ?_ rfl)
  · rw [exF_1, hx]; exact a
  · rw [exF_2, hx]; exact b

/-- Small recordings are unfolded to small responses. -/
theorem sm_in {f : Nat → Int} {B : Int} (h : ∀ i, -B ≤ f i ∧ f i ≤ B) : ∀ n : Nat, -(n * B) ≤ sm f n ∧ sm f n ≤ n * B
  | 0 => by simp [sm]
  | n + 1 => by
    have a := sm_in h n
    have b := h n
    have e : ((n + 1 : Nat) : Int) * B = n * B + B := by rw [Int.natCast_add, Int.add_mul]; simp
    show _ ≤ sm f n + f n ∧ sm f n + f n ≤ _
    rw [e]; omega

theorem ufV_small {Y : CL} {L : Int} {ts : List Int} {s : Int} (hst : pSt L ts s) (hl : (lP Y).length = (most L).toNat) (hb : ∀ i, inBP 10000 ((lP Y).getD i (0, 0, ()))) (k : Nat) : inBP (most L * 20000) (ufV Y L ts s k) := by
  have hpos := most_in (chk_zero hst.1).1
  have hso := sgL_ok hst
  have a1 := sm_in (f := fun t => ((lP Y).getD t (0, 0, ())).1 * sgA (sgL L ts s) (-1 * ((k : Int) - t))) (B := 10000) (fun t => by_in (hb t).1.1 (hb t).1.2 (hso _).1 (hso _).2) (most L).toNat
  have a2 := sm_in (f := fun t => ((lP Y).getD t (0, 0, ())).2.1 * sgA (sgL L ts s) (-1 * ((k : Int) - t))) (B := 10000) (fun t => by_in (hb t).2.1 (hb t).2.2 (hso _).1 (hso _).2) (most L).toNat
  have b1 := sm_in (f := fun t => ((lP Y).getD t (0, 0, ())).1) (B := 10000) (fun t => (hb t).1) (most L).toNat
  have b2 := sm_in (f := fun t => ((lP Y).getD t (0, 0, ())).2.1) (B := 10000) (fun t => (hb t).2) (most L).toNat
  have e1 : (ufV Y L ts s k).1 = sm (fun t => ((lP Y).getD t (0, 0, ())).1 * sgA (sgL L ts s) (-1 * ((k : Int) - t))) (most L).toNat - sm (fun t => ((lP Y).getD t (0, 0, ())).1) (most L).toNat := by
    show (trV (lP Y) (sgL L ts s) k (-1) (lP Y).length).1 - (flV (lP Y) 1 0 (lP Y).length).1 = _
    rw [trV_1, flV_1, hl]
  have e2 : (ufV Y L ts s k).2.1 = sm (fun t => ((lP Y).getD t (0, 0, ())).2.1 * sgA (sgL L ts s) (-1 * ((k : Int) - t))) (most L).toNat - sm (fun t => ((lP Y).getD t (0, 0, ())).2.1) (most L).toNat := by
    show (trV (lP Y) (sgL L ts s) k (-1) (lP Y).length).2.1 - (flV (lP Y) 1 0 (lP Y).length).2.1 = _
    rw [trV_2, flV_2, hl]
  have hn : (((most L).toNat : Nat) : Int) = most L := by omega
  rw [hn] at a1 a2 b1 b2
  exact ⟨⟨by rw [e1]; omega, by rw [e1]; omega⟩, ⟨by rw [e2]; omega, by rw [e2]; omega⟩⟩

theorem quo_small {a n : Int} (hn : 0 < n) (h : -(n * 20000) ≤ a ∧ a ≤ n * 20000) : -20000 ≤ a / (n + 1) ∧ a / (n + 1) ≤ 20000 := by
  constructor
  · exact (Int.le_ediv_iff_mul_le (by omega)).2 (by omega)
  · exact Int.le_trans (Int.ediv_le_ediv (by omega) (show a ≤ (n + 1) * 20000 by omega)) (by rw [Int.mul_ediv_cancel_left _ (by omega)]; omega)

theorem ufL_small {Y : CL} {L : Int} {ts : List Int} {s : Int} (hst : pSt L ts s) (hl : (lP Y).length = (most L).toNat) (hb : ∀ i, inBP 10000 ((lP Y).getD i (0, 0, ()))) : okL 20000 (ufL Y L ts s) := okL_tab (by decide) fun k _ => by
  have hpos := most_in (chk_zero hst.1).1
  have h := ufV_small hst hl hb k
  exact ⟨quo_small (by omega) h.1, quo_small (by omega) h.2⟩

theorem uw_small {p w n : Int} (hp : 2 ≤ p) (hp2 : p ≤ 16000403) (ps : List IP) (sg : List Int) : okL 16777216 (uwL p w n ps sg) := okL_tab (by decide) fun i _ => by
  have h : ∀ xs bs : List Int, -16777216 ≤ uiF p w n xs bs i ∧ uiF p w n xs bs i ≤ 16777216 := fun xs bs => by
    have := backF_in (w := w) (n := n) hp (quL p w xs bs) i
    unfold uiF hfc
    split <;> omega
  exact ⟨h (prtL ps 0) (dftL p w sg), h (prtL ps 1) (dftL p w sg)⟩

theorem okL_fit {ps : List IP} (h : okL 16777216 ps) : allFit ps = true := by
  unfold allFit
  rw [List.all_eq_true]
  intro p hp
  obtain ⟨j, hj, e⟩ := List.mem_iff_getElem.1 hp
  have := h j
  rw [List.getD_eq_getElem?_getD, List.getElem?_eq_getElem hj, Option.getD_some, e] at this
  show (fRec p.1 && fRec p.2.1) = true
  rw [show fRec p.1 = true from decide_eq_true this.1, show fRec p.2.1 = true from decide_eq_true this.2]; rfl

end Go.Eng.Pu

/- pulsed: the examples. Conditions: none. -/
namespace Go.Eng.Pu
open Go.Eng Go.Proofs
set_option linter.all false
set_option maxRecDepth 100000
set_option maxHeartbeats 8000000

/-- pulsed -/
theorem h77 : Ok 77 sPulsed := by
  refine mk (ctr := [(30, sListW), (82, sTwo), (31, sExc), (53, sUnf), (34, sSameN)]) ⟨h30n, h82, h31n, h53n, h34n, trivial⟩ (nt := 48) Try.func77 rfl rfl rfl rfl (by kernel_rfl) (by kernel_rfl) (fun _ => []) ?_
  rintro _ _
  have p2 : pLen 2 := by decide
  obtain ⟨A, hA⟩ : ∃ A, lsL [(1082130432, 0, ()), (3212836864, 1073741824, ())] = A := ⟨_, rfl⟩
  obtain ⟨B, hB⟩ : ∃ B, lsL [(3225419776, 3221225472, ()), (1084227584, 3221225472, ()), (3231711232, 1073741824, ())] = B := ⟨_, rfl⟩
  obtain ⟨C, hC⟩ : ∃ C, lsL [(1082130432, 0, ()), (3212836864, 1073741824, ()), (0, 0, ())] = C := ⟨_, rfl⟩
  have e1 : exE A 2 [1, 2] 1 = 0 := hA ▸ ex_ok.1
  have e2 : exR A 2 [1, 2] 1 = B := hA ▸ hB ▸ ex_ok.2.1
  have e3 : ufE B 2 [1, 2] 1 = 0 := hB ▸ ex_ok.2.2.1
  have e4 : ufR B 2 [1, 2] 1 = C := hB ▸ hC ▸ ex_ok.2.2.2
  repeat' (intro hzz; (try (rename Two => hq; cases hq)); (try dsimp only at hzz); (try simp only [resTy, argTy, eqD, inR, big, wantOf, Bool.not_true, Bool.not_false, Bool.true_eq, decide_eq_true_eq, decide_eq_false_iff_not, Bool.not_eq_true', Bool.not_eq_false', Bool.and_eq_true, Prod.mk.injEq, and_true, true_and, Int.not_lt, Int.not_le, gt_iff_lt, ge_iff_le] at hzz); (try simp only [resTy, argTy, eqD, inR, big, wantOf, Bool.not_true, Bool.not_false, Bool.true_eq, decide_eq_true_eq, decide_eq_false_iff_not, Bool.not_eq_true', Bool.not_eq_false', Bool.and_eq_true, Prod.mk.injEq, and_true, true_and, Int.not_lt, Int.not_le, gt_iff_lt, ge_iff_le, hA, hB, hC, e1, e2, e3, e4] at hzz); (try (first | contradiction | (exfalso; omega))); (try (revert hzz; intro _)))
  all_goals try (rename Unit => hq; clear hq)
  all_goals try ((with_reducible refine Held.mk ?_); (with_reducible (first | refine Frz.mk ?_ | refine And.intro (Frz.mk ?_) ?_ | refine And.intro ?_ (Frz.mk ?_))); repeat' first | exact True.intro | (change _ = _; with_reducible rfl) | refine And.intro ?_ ?_ | (with_reducible refine Frz.mk ?_))
  all_goals try (refine Held.mk ?_; (try dsimp only at *); (try simp only [resTy, argTy, eqD, inR, big, wantOf, Bool.not_true, Bool.not_false, Bool.true_eq, decide_eq_true_eq, decide_eq_false_iff_not, Bool.not_eq_true', Bool.not_eq_false', Bool.and_eq_true, Prod.mk.injEq, and_true, true_and, Int.not_lt, Int.not_le, gt_iff_lt, ge_iff_le] at *); (try simp only [resTy, argTy, eqD, inR, big, wantOf, Bool.not_true, Bool.not_false, Bool.true_eq, decide_eq_true_eq, decide_eq_false_iff_not, Bool.not_eq_true', Bool.not_eq_false', Bool.and_eq_true, Prod.mk.injEq, and_true, true_and, Int.not_lt, Int.not_le, gt_iff_lt, ge_iff_le, hA, hB, hC, e1, e2, e3, e4] at *))
  all_goals try omega
  · decide
  · decide
  · decide
  · exact ⟨Nat.le_trans (Nat.le_of_eq (congrArg List.length ex_ok.2.1)) (by decide +kernel), ex_ok.2.1, exR_ok _ _ _ _⟩
  · decide
  · exact ⟨Nat.le_trans (Nat.le_of_eq (congrArg List.length ex_ok.2.2.2)) (by decide +kernel), ex_ok.2.2.2, ufR_ok _ _ _ _⟩

end Go.Eng.Pu

/- The law TopTwoUnfoldings. Conditions: none. -/
namespace Go.Eng.Pu
open Go.Eng Go.Proofs
set_option linter.all false
set_option maxRecDepth 100000
set_option maxHeartbeats 8000000

theorem pm_yes {L : Int} {ts : List Int} {s : Int} (h : pmB L ts s = true) : ts.length ≤ 8 ∧ opErr L ts s = 0 ∧ L ≤ 5 ∧ (per L ts 1 : Int) = most L := by
  unfold pmB at h
  rw [Bool.and_eq_true, Bool.and_eq_true, Bool.and_eq_true] at h
  exact ⟨of_decide_eq_true h.1, of_decide_eq_true h.2.1, of_decide_eq_true h.2.2.1, of_decide_eq_true h.2.2.2⟩

theorem tL_eq {ps : List IP} (h : allFit ps = true) : tL ps = tab (nmF ps) ps.length := by unfold tL; rw [if_pos h]

@[reducible] def sLaw16 : Spec := { pats := [.dat (.sl PairT), .dat StartT', .dat I64], res := [{ t := .bool }], pre := fun _ => True, f := fun _ => (true, ()) }

/-- TopTwoUnfoldings -/
theorem h16 : Ok 16 sLaw16 := by
  refine mk (ctr := [(77, sPulsed), (78, sPMax), (68, sMost), (25, sWithin), (79, sPNum), (43, sFieldOf), (80, sCopyC), (19, sCopy), (53, sUnf), (81, sStartL), (69, sUwI), (31, sExc), (34, sSameG)]) ⟨h77, h78, h68, h25, h79, h43, h80, h19, h53n, h81, h69, h31n, h34g, trivial⟩ (nt := 145) Try.func16 rfl rfl rfl rfl (by kernel_rfl) (by kernel_rfl) (fun _ => []) ?_
  rintro ⟨(l : List IP), ⟨⟨(L : Int), (ts : List Int), _⟩, (s : Int), _⟩, (lo : Int), _⟩ _
  by_cases hl0 : l.length = 0
  · 
    repeat' (intro hzz; (try (rename Two => hq; cases hq)); (try dsimp only at hzz); (try simp only [resTy, argTy, eqD, inR, big, wantOf, Bool.not_true, Bool.not_false, Bool.true_eq, decide_eq_true_eq, decide_eq_false_iff_not, Bool.not_eq_true', Bool.not_eq_false', Bool.and_eq_true, Prod.mk.injEq, and_true, true_and, Int.not_lt, Int.not_le, gt_iff_lt, ge_iff_le] at hzz); (try (first | contradiction | (exfalso; omega))); (try (revert hzz; intro _)))
    all_goals try (rename Unit => hq; clear hq)
    all_goals try ((with_reducible refine Held.mk ?_); (with_reducible (first | refine Frz.mk ?_ | refine And.intro (Frz.mk ?_) ?_ | refine And.intro ?_ (Frz.mk ?_))); repeat' first | exact True.intro | (change _ = _; with_reducible rfl) | refine And.intro ?_ ?_ | (with_reducible refine Frz.mk ?_))
    all_goals try (refine Held.mk ?_; (try dsimp only at *); (try simp only [resTy, argTy, eqD, inR, big, wantOf, Bool.not_true, Bool.not_false, Bool.true_eq, decide_eq_true_eq, decide_eq_false_iff_not, Bool.not_eq_true', Bool.not_eq_false', Bool.and_eq_true, Prod.mk.injEq, and_true, true_and, Int.not_lt, Int.not_le, gt_iff_lt, ge_iff_le] at *))
    all_goals try omega
  by_cases hl1 : 31 < l.length
  · 
    repeat' (intro hzz; (try (rename Two => hq; cases hq)); (try dsimp only at hzz); (try simp only [resTy, argTy, eqD, inR, big, wantOf, Bool.not_true, Bool.not_false, Bool.true_eq, decide_eq_true_eq, decide_eq_false_iff_not, Bool.not_eq_true', Bool.not_eq_false', Bool.and_eq_true, Prod.mk.injEq, and_true, true_and, Int.not_lt, Int.not_le, gt_iff_lt, ge_iff_le] at hzz); (try (first | contradiction | (exfalso; omega))); (try (revert hzz; intro _)))
    all_goals try (rename Unit => hq; clear hq)
    all_goals try ((with_reducible refine Held.mk ?_); (with_reducible (first | refine Frz.mk ?_ | refine And.intro (Frz.mk ?_) ?_ | refine And.intro ?_ (Frz.mk ?_))); repeat' first | exact True.intro | (change _ = _; with_reducible rfl) | refine And.intro ?_ ?_ | (with_reducible refine Frz.mk ?_))
    all_goals try (refine Held.mk ?_; (try dsimp only at *); (try simp only [resTy, argTy, eqD, inR, big, wantOf, Bool.not_true, Bool.not_false, Bool.true_eq, decide_eq_true_eq, decide_eq_false_iff_not, Bool.not_eq_true', Bool.not_eq_false', Bool.and_eq_true, Prod.mk.injEq, and_true, true_and, Int.not_lt, Int.not_le, gt_iff_lt, ge_iff_le] at *))
    all_goals try omega
  by_cases hm : pmB L ts s = true
  · obtain ⟨h8, ho, h5, hM⟩ := pm_yes hm
    have htp : pLen ts.length := by unfold pLen; omega
    obtain ⟨hst, hs1⟩ := op_pSt htp ho
    have hL := (chk_zero hst.1).1
    have m : Mx L ts s := ⟨hst, hs1, hM⟩
    have hpos := m.pos
    by_cases hn : (l.length : Int) = most L
    · by_cases hlo : 3000000 ≤ lo ∧ lo ≤ 16000000
      · have hw : fWithin lo 3000000 16000000 = true := decide_eq_true hlo
        by_cases hin : inAll 10000 l = true
        · have hb := inAll_at (B := 10000) (by decide) hin
          have hfit : allFit l = true := okL_fit fun i => inBP_mono (hb i) (by decide)
          have hsp : tab (nmF l) l.length = tL l := (tL_eq hfit).symm
          obtain ⟨y1, y2, y3⟩ := tL_read hfit (by omega) (by omega)
          have y3i : ((tL l).length : Int) = most L := by omega
          have yl : (lP (tL l)).length = (most L).toNat := by rw [y2]; omega
          obtain ⟨q, q1, q2, q3, q4⟩ := prime_mid ⟨hL.1, h5⟩
          obtain ⟨f1, f2, f3, f4, f5⟩ := fo_ok (n := most L) (lo := lo) (q := q) (by omega) (by omega) (by omega) (by omega) (by omega) q3 q4
          have hfo := cf_zero f2
          rw [f5] at hfo
          have hp2 := hfo.h1
          have fit2 : allFit (uwL (foP (most L) lo) (foW (most L) lo) (most L) l (sgL L ts s)) = true := okL_fit (uw_small hp2 (by omega) _ _)
          have w1 : uwE (tL l) L ts s (foP (most L) lo) (foW (most L) lo) (foN (most L) lo) = 0 := by
            unfold uwE
            rw [if_pos y1, if_pos ho, if_pos f2, if_pos hM, if_pos ⟨y3i, f5⟩, y2, f5]
            unfold tE; rw [if_pos fit2]
          have w2 : uwR (tL l) L ts s (foP (most L) lo) (foW (most L) lo) (foN (most L) lo) = tL (uwL (foP (most L) lo) (foW (most L) lo) (most L) l (sgL L ts s)) := by
            unfold uwR
            rw [if_pos y1, if_pos ho, if_pos f2, if_pos hM, if_pos ⟨y3i, f5⟩, y2, f5]
          have cl : (uwL (foP (most L) lo) (foW (most L) lo) (most L) l (sgL L ts s)).length = l.length := tab_len _ _
          obtain ⟨c1, c2, c3⟩ := tL_read fit2 (by omega) (by omega)
          have c3i : ((tL (uwL (foP (most L) lo) (foW (most L) lo) (most L) l (sgL L ts s))).length : Int) = most L := by omega
          have oC := tL_ok (uwL (foP (most L) lo) (foW (most L) lo) (most L) l (sgL L ts s))
          have oY := tL_ok l
          by_cases hB : ufB (tL l) L ts s = true
          · have fit3 : allFit (ufL (tL l) L ts s) = true := okL_fit (okL_mono (ufL_small hst yl (fun i => by rw [y2]; exact hb i)) (by decide))
            have u1 : ufE (tL l) L ts s = 0 := by
              unfold ufE
              rw [if_pos y1, if_pos ho, if_pos hM, if_pos y3i, if_pos hB]
              unfold tE; rw [if_pos fit3]
            have u2 : ufR (tL l) L ts s = tL (ufL (tL l) L ts s) := by
              unfold ufR
              rw [if_pos y1, if_pos ho, if_pos hM, if_pos y3i, if_pos hB]
            have al : (ufL (tL l) L ts s).length = (most L).toNat := tab_len _ _
            obtain ⟨a1, a2, a3⟩ := tL_read fit3 (by omega) (by omega)
            obtain ⟨x1, x2⟩ := excite_back m yl hB a2
            rw [y2] at x2
            have b1 : exE (tL (ufL (tL l) L ts s)) L ts s = 0 := by
              unfold exE
              rw [if_pos a1, if_pos ho, x1, if_pos fit3, x2]
              unfold tE; rw [if_pos hfit]
            have b2 : exR (tL (ufL (tL l) L ts s)) L ts s = tL l := by
              unfold exR
              rw [if_pos a1, if_pos ho, x1, if_pos fit3, x2]
            have hsm := ufL_small (s := s) (ts := ts) hst yl (fun i => by rw [y2]; exact hb i)
            have ue := uw_exact (xs := tL (ufL (tL l) L ts s)) (p := foP (most L) lo) (w := foW (most L) lo) m hfo (by omega) (fun k hk => by
              rw [x1]
              have := hsm k
              exact ⟨⟨by omega, by omega⟩, ⟨by omega, by omega⟩⟩)
            rw [x1, x2] at ue
            have w2' : uwR (tL l) L ts s (foP (most L) lo) (foW (most L) lo) (foN (most L) lo) = tL (ufL (tL l) L ts s) := by rw [w2, ue]
            have a3i : ((tL (ufL (tL l) L ts s)).length : Int) = most L := by omega
            have oA := tL_ok (ufL (tL l) L ts s)
            have r1 := sameL_refl (tL l)
            have r2 := sameL_refl (tL (ufL (tL l) L ts s))
            have pT : ts.length ≤ 8 := h8
            have pY : (tL l).length ≤ 2000000000 := by omega
            have pA : (tL (ufL (tL l) L ts s)).length ≤ 2000000000 := by omega
            repeat' (intro hzz; (try (rename Two => hq; cases hq)); (try dsimp only at hzz); (try simp only [resTy, argTy, eqD, inR, big, wantOf, Bool.not_true, Bool.not_false, Bool.true_eq, decide_eq_true_eq, decide_eq_false_iff_not, Bool.not_eq_true', Bool.not_eq_false', Bool.and_eq_true, Prod.mk.injEq, and_true, true_and, Int.not_lt, Int.not_le, gt_iff_lt, ge_iff_le] at hzz); (try simp only [resTy, argTy, eqD, inR, big, wantOf, Bool.not_true, Bool.not_false, Bool.true_eq, decide_eq_true_eq, decide_eq_false_iff_not, Bool.not_eq_true', Bool.not_eq_false', Bool.and_eq_true, Prod.mk.injEq, and_true, true_and, Int.not_lt, Int.not_le, gt_iff_lt, ge_iff_le, not_true_eq_false, not_false_eq_true, hl0, hl1, hm, hn, hw, hin, if_true, hsp, y3i, f1, u1, u2, w1, w2', a3i, b1, b2, r1, r2] at hzz); (try (revert hzz; intro _)))
            all_goals try (rename Unit => hq; clear hq)
            all_goals try ((with_reducible refine Held.mk ?_); (with_reducible (first | refine Frz.mk ?_ | refine And.intro (Frz.mk ?_) ?_ | refine And.intro ?_ (Frz.mk ?_))); repeat' first | exact True.intro | (change _ = _; with_reducible rfl) | refine And.intro ?_ ?_ | (with_reducible refine Frz.mk ?_))
            all_goals try (refine Held.mk ?_; (try dsimp only at *); (try simp only [resTy, argTy, eqD, inR, big, wantOf, Bool.not_true, Bool.not_false, Bool.true_eq, decide_eq_true_eq, decide_eq_false_iff_not, Bool.not_eq_true', Bool.not_eq_false', Bool.and_eq_true, Prod.mk.injEq, and_true, true_and, Int.not_lt, Int.not_le, gt_iff_lt, ge_iff_le] at *); (try simp only [resTy, argTy, eqD, inR, big, wantOf, Bool.not_true, Bool.not_false, Bool.true_eq, decide_eq_true_eq, decide_eq_false_iff_not, Bool.not_eq_true', Bool.not_eq_false', Bool.and_eq_true, Prod.mk.injEq, and_true, true_and, Int.not_lt, Int.not_le, gt_iff_lt, ge_iff_le, not_true_eq_false, not_false_eq_true, hl0, hl1, hm, hn, hw, hin, if_true, hsp, y3i, f1, u1, u2, w1, w2', a3i, b1, b2, r1, r2] at *))
            all_goals try omega
            all_goals first
              | exact ⟨by omega, by decide, by decide⟩
              | exact ⟨htp, Nat.le_trans pT (by decide)⟩
              | exact ⟨pY, oY, oY⟩
              | exact ⟨pA, oA, oA⟩
              | exact pY
              | exact ⟨Nat.le_trans rl (by decide), oR, oY⟩
          · have hB : ufB (tL l) L ts s = false := by simpa using hB
            have u1 : ufE (tL l) L ts s = 20 := by
              unfold ufE
              rw [if_pos y1, if_pos ho, if_pos hM, if_pos y3i, hB]; rfl
            have hC : exf (tL (uwL (foP (most L) lo) (foW (most L) lo) (most L) l (sgL L ts s))) L = uwL (foP (most L) lo) (foW (most L) lo) (most L) l (sgL L ts s) := by
              unfold exf
              rw [c2]; exact flL_self (by omega)
            have hE : exE (tL (uwL (foP (most L) lo) (foW (most L) lo) (most L) l (sgL L ts s))) L ts s = tE (exL (tL (uwL (foP (most L) lo) (foW (most L) lo) (most L) l (sgL L ts s))) L ts s) := by
              unfold exE
              rw [if_pos c1, if_pos ho, hC, if_pos fit2]
            have hR : exR (tL (uwL (foP (most L) lo) (foW (most L) lo) (most L) l (sgL L ts s))) L ts s = tL (exL (tL (uwL (foP (most L) lo) (foW (most L) lo) (most L) l (sgL L ts s))) L ts s) := by
              unfold exR
              rw [if_pos c1, if_pos ho, hC, if_pos fit2]
            by_cases hx : allFit (exL (tL (uwL (foP (most L) lo) (foW (most L) lo) (most L) l (sgL L ts s))) L ts s) = true
            · have hE2 : exE (tL (uwL (foP (most L) lo) (foW (most L) lo) (most L) l (sgL L ts s))) L ts s = 0 := by rw [hE]; unfold tE; rw [if_pos hx]
              have oR := tL_ok (exL (tL (uwL (foP (most L) lo) (foW (most L) lo) (most L) l (sgL L ts s))) L ts s)
              have hno : sameL (tL (exL (tL (uwL (foP (most L) lo) (foW (most L) lo) (most L) l (sgL L ts s))) L ts s)) (tL l) = false := by
                cases hs : sameL (tL (exL (tL (uwL (foP (most L) lo) (foW (most L) lo) (most L) l (sgL L ts s))) L ts s)) (tL l) with
                | false => rfl
                | true =>
                  exfalso
                  have e := same_eq hx hfit hs
                  have : ufB (tL l) L ts s = true := ufB_yes fun k hk => by
                    rw [ufV_eq (xs := tL (uwL (foP (most L) lo) (foW (most L) lo) (most L) l (sgL L ts s))) m (by rw [y2, e]) hk]
                    unfold dvB
                    simp
                  rw [this] at hB; cases hB
              have rl : (tL (exL (tL (uwL (foP (most L) lo) (foW (most L) lo) (most L) l (sgL L ts s))) L ts s)).length ≤ 1024 := by
                have := tL_len (exL (tL (uwL (foP (most L) lo) (foW (most L) lo) (most L) l (sgL L ts s))) L ts s)
                have : (exL (tL (uwL (foP (most L) lo) (foW (most L) lo) (most L) l (sgL L ts s))) L ts s).length = (most L).toNat := tab_len _ _
                omega
              have pT : ts.length ≤ 8 := h8
              have pY : (tL l).length ≤ 2000000000 := by omega
              repeat' (intro hzz; (try (rename Two => hq; cases hq)); (try dsimp only at hzz); (try simp only [resTy, argTy, eqD, inR, big, wantOf, Bool.not_true, Bool.not_false, Bool.true_eq, decide_eq_true_eq, decide_eq_false_iff_not, Bool.not_eq_true', Bool.not_eq_false', Bool.and_eq_true, Prod.mk.injEq, and_true, true_and, Int.not_lt, Int.not_le, gt_iff_lt, ge_iff_le] at hzz); (try simp only [resTy, argTy, eqD, inR, big, wantOf, Bool.not_true, Bool.not_false, Bool.true_eq, decide_eq_true_eq, decide_eq_false_iff_not, Bool.not_eq_true', Bool.not_eq_false', Bool.and_eq_true, Prod.mk.injEq, and_true, true_and, Int.not_lt, Int.not_le, gt_iff_lt, ge_iff_le, not_true_eq_false, not_false_eq_true, hl0, hl1, hm, hn, hw, hin, if_true, hsp, y3i, f1, u1, w1, w2, c3i, hE2, hR, hno] at hzz); (try (revert hzz; intro _)))
              all_goals try (rename Unit => hq; clear hq)
              all_goals try ((with_reducible refine Held.mk ?_); (with_reducible (first | refine Frz.mk ?_ | refine And.intro (Frz.mk ?_) ?_ | refine And.intro ?_ (Frz.mk ?_))); repeat' first | exact True.intro | (change _ = _; with_reducible rfl) | refine And.intro ?_ ?_ | (with_reducible refine Frz.mk ?_))
              all_goals try (refine Held.mk ?_; (try dsimp only at *); (try simp only [resTy, argTy, eqD, inR, big, wantOf, Bool.not_true, Bool.not_false, Bool.true_eq, decide_eq_true_eq, decide_eq_false_iff_not, Bool.not_eq_true', Bool.not_eq_false', Bool.and_eq_true, Prod.mk.injEq, and_true, true_and, Int.not_lt, Int.not_le, gt_iff_lt, ge_iff_le] at *); (try simp only [resTy, argTy, eqD, inR, big, wantOf, Bool.not_true, Bool.not_false, Bool.true_eq, decide_eq_true_eq, decide_eq_false_iff_not, Bool.not_eq_true', Bool.not_eq_false', Bool.and_eq_true, Prod.mk.injEq, and_true, true_and, Int.not_lt, Int.not_le, gt_iff_lt, ge_iff_le, not_true_eq_false, not_false_eq_true, hl0, hl1, hm, hn, hw, hin, if_true, hsp, y3i, f1, u1, w1, w2, c3i, hE2, hR, hno] at *))
              all_goals try omega
              all_goals first
                | exact ⟨by omega, by decide, by decide⟩
                | exact ⟨htp, Nat.le_trans pT (by decide)⟩
                | exact ⟨pY, oY, oY⟩
                | exact ⟨pA, oA, oA⟩
                | exact pY
                | exact ⟨Nat.le_trans rl (by decide), oR, oY⟩
            · have hx : allFit (exL (tL (uwL (foP (most L) lo) (foW (most L) lo) (most L) l (sgL L ts s))) L ts s) = false := by simpa using hx
              have hE2 : exE (tL (uwL (foP (most L) lo) (foW (most L) lo) (most L) l (sgL L ts s))) L ts s = 8 := by rw [hE]; unfold tE; rw [hx]; rfl
              have pT : ts.length ≤ 8 := h8
              have pY : (tL l).length ≤ 2000000000 := by omega
              repeat' (intro hzz; (try (rename Two => hq; cases hq)); (try dsimp only at hzz); (try simp only [resTy, argTy, eqD, inR, big, wantOf, Bool.not_true, Bool.not_false, Bool.true_eq, decide_eq_true_eq, decide_eq_false_iff_not, Bool.not_eq_true', Bool.not_eq_false', Bool.and_eq_true, Prod.mk.injEq, and_true, true_and, Int.not_lt, Int.not_le, gt_iff_lt, ge_iff_le] at hzz); (try simp only [resTy, argTy, eqD, inR, big, wantOf, Bool.not_true, Bool.not_false, Bool.true_eq, decide_eq_true_eq, decide_eq_false_iff_not, Bool.not_eq_true', Bool.not_eq_false', Bool.and_eq_true, Prod.mk.injEq, and_true, true_and, Int.not_lt, Int.not_le, gt_iff_lt, ge_iff_le, not_true_eq_false, not_false_eq_true, hl0, hl1, hm, hn, hw, hin, if_true, hsp, y3i, f1, u1, w1, w2, c3i, hE2] at hzz); (try (revert hzz; intro _)))
              all_goals try (rename Unit => hq; clear hq)
              all_goals try ((with_reducible refine Held.mk ?_); (with_reducible (first | refine Frz.mk ?_ | refine And.intro (Frz.mk ?_) ?_ | refine And.intro ?_ (Frz.mk ?_))); repeat' first | exact True.intro | (change _ = _; with_reducible rfl) | refine And.intro ?_ ?_ | (with_reducible refine Frz.mk ?_))
              all_goals try (refine Held.mk ?_; (try dsimp only at *); (try simp only [resTy, argTy, eqD, inR, big, wantOf, Bool.not_true, Bool.not_false, Bool.true_eq, decide_eq_true_eq, decide_eq_false_iff_not, Bool.not_eq_true', Bool.not_eq_false', Bool.and_eq_true, Prod.mk.injEq, and_true, true_and, Int.not_lt, Int.not_le, gt_iff_lt, ge_iff_le] at *); (try simp only [resTy, argTy, eqD, inR, big, wantOf, Bool.not_true, Bool.not_false, Bool.true_eq, decide_eq_true_eq, decide_eq_false_iff_not, Bool.not_eq_true', Bool.not_eq_false', Bool.and_eq_true, Prod.mk.injEq, and_true, true_and, Int.not_lt, Int.not_le, gt_iff_lt, ge_iff_le, not_true_eq_false, not_false_eq_true, hl0, hl1, hm, hn, hw, hin, if_true, hsp, y3i, f1, u1, w1, w2, c3i, hE2] at *))
              all_goals try omega
              all_goals first
                | exact ⟨by omega, by decide, by decide⟩
                | exact ⟨htp, Nat.le_trans pT (by decide)⟩
                | exact ⟨pY, oY, oY⟩
                | exact ⟨pA, oA, oA⟩
                | exact pY
                | exact ⟨Nat.le_trans rl (by decide), oR, oY⟩
        · have hin : inAll 10000 l = false := by simpa using hin
          repeat' (intro hzz; (try (rename Two => hq; cases hq)); (try dsimp only at hzz); (try simp only [resTy, argTy, eqD, inR, big, wantOf, Bool.not_true, Bool.not_false, Bool.true_eq, decide_eq_true_eq, decide_eq_false_iff_not, Bool.not_eq_true', Bool.not_eq_false', Bool.and_eq_true, Prod.mk.injEq, and_true, true_and, Int.not_lt, Int.not_le, gt_iff_lt, ge_iff_le] at hzz); (try simp only [resTy, argTy, eqD, inR, big, wantOf, Bool.not_true, Bool.not_false, Bool.true_eq, decide_eq_true_eq, decide_eq_false_iff_not, Bool.not_eq_true', Bool.not_eq_false', Bool.and_eq_true, Prod.mk.injEq, and_true, true_and, Int.not_lt, Int.not_le, gt_iff_lt, ge_iff_le, hm, hn, hw, hin] at hzz); (try (first | contradiction | (exfalso; omega))); (try (revert hzz; intro _)))
          all_goals try (rename Unit => hq; clear hq)
          all_goals try ((with_reducible refine Held.mk ?_); (with_reducible (first | refine Frz.mk ?_ | refine And.intro (Frz.mk ?_) ?_ | refine And.intro ?_ (Frz.mk ?_))); repeat' first | exact True.intro | (change _ = _; with_reducible rfl) | refine And.intro ?_ ?_ | (with_reducible refine Frz.mk ?_))
          all_goals try (refine Held.mk ?_; (try dsimp only at *); (try simp only [resTy, argTy, eqD, inR, big, wantOf, Bool.not_true, Bool.not_false, Bool.true_eq, decide_eq_true_eq, decide_eq_false_iff_not, Bool.not_eq_true', Bool.not_eq_false', Bool.and_eq_true, Prod.mk.injEq, and_true, true_and, Int.not_lt, Int.not_le, gt_iff_lt, ge_iff_le] at *); (try simp only [resTy, argTy, eqD, inR, big, wantOf, Bool.not_true, Bool.not_false, Bool.true_eq, decide_eq_true_eq, decide_eq_false_iff_not, Bool.not_eq_true', Bool.not_eq_false', Bool.and_eq_true, Prod.mk.injEq, and_true, true_and, Int.not_lt, Int.not_le, gt_iff_lt, ge_iff_le, hm, hn, hw, hin] at *))
          all_goals try omega
          exact ⟨by omega, by decide, by decide⟩
      · have hw : fWithin lo 3000000 16000000 = false := decide_eq_false hlo
        repeat' (intro hzz; (try (rename Two => hq; cases hq)); (try dsimp only at hzz); (try simp only [resTy, argTy, eqD, inR, big, wantOf, Bool.not_true, Bool.not_false, Bool.true_eq, decide_eq_true_eq, decide_eq_false_iff_not, Bool.not_eq_true', Bool.not_eq_false', Bool.and_eq_true, Prod.mk.injEq, and_true, true_and, Int.not_lt, Int.not_le, gt_iff_lt, ge_iff_le] at hzz); (try simp only [resTy, argTy, eqD, inR, big, wantOf, Bool.not_true, Bool.not_false, Bool.true_eq, decide_eq_true_eq, decide_eq_false_iff_not, Bool.not_eq_true', Bool.not_eq_false', Bool.and_eq_true, Prod.mk.injEq, and_true, true_and, Int.not_lt, Int.not_le, gt_iff_lt, ge_iff_le, hm, hn, hw] at hzz); (try (first | contradiction | (exfalso; omega))); (try (revert hzz; intro _)))
        all_goals try (rename Unit => hq; clear hq)
        all_goals try ((with_reducible refine Held.mk ?_); (with_reducible (first | refine Frz.mk ?_ | refine And.intro (Frz.mk ?_) ?_ | refine And.intro ?_ (Frz.mk ?_))); repeat' first | exact True.intro | (change _ = _; with_reducible rfl) | refine And.intro ?_ ?_ | (with_reducible refine Frz.mk ?_))
        all_goals try (refine Held.mk ?_; (try dsimp only at *); (try simp only [resTy, argTy, eqD, inR, big, wantOf, Bool.not_true, Bool.not_false, Bool.true_eq, decide_eq_true_eq, decide_eq_false_iff_not, Bool.not_eq_true', Bool.not_eq_false', Bool.and_eq_true, Prod.mk.injEq, and_true, true_and, Int.not_lt, Int.not_le, gt_iff_lt, ge_iff_le] at *); (try simp only [resTy, argTy, eqD, inR, big, wantOf, Bool.not_true, Bool.not_false, Bool.true_eq, decide_eq_true_eq, decide_eq_false_iff_not, Bool.not_eq_true', Bool.not_eq_false', Bool.and_eq_true, Prod.mk.injEq, and_true, true_and, Int.not_lt, Int.not_le, gt_iff_lt, ge_iff_le, hm, hn, hw] at *))
        all_goals try omega
        all_goals skip
    · 
      repeat' (intro hzz; (try (rename Two => hq; cases hq)); (try dsimp only at hzz); (try simp only [resTy, argTy, eqD, inR, big, wantOf, Bool.not_true, Bool.not_false, Bool.true_eq, decide_eq_true_eq, decide_eq_false_iff_not, Bool.not_eq_true', Bool.not_eq_false', Bool.and_eq_true, Prod.mk.injEq, and_true, true_and, Int.not_lt, Int.not_le, gt_iff_lt, ge_iff_le] at hzz); (try simp only [resTy, argTy, eqD, inR, big, wantOf, Bool.not_true, Bool.not_false, Bool.true_eq, decide_eq_true_eq, decide_eq_false_iff_not, Bool.not_eq_true', Bool.not_eq_false', Bool.and_eq_true, Prod.mk.injEq, and_true, true_and, Int.not_lt, Int.not_le, gt_iff_lt, ge_iff_le, hm] at hzz); (try (first | contradiction | (exfalso; omega))); (try (revert hzz; intro _)))
      all_goals try (rename Unit => hq; clear hq)
      all_goals try ((with_reducible refine Held.mk ?_); (with_reducible (first | refine Frz.mk ?_ | refine And.intro (Frz.mk ?_) ?_ | refine And.intro ?_ (Frz.mk ?_))); repeat' first | exact True.intro | (change _ = _; with_reducible rfl) | refine And.intro ?_ ?_ | (with_reducible refine Frz.mk ?_))
      all_goals try (refine Held.mk ?_; (try dsimp only at *); (try simp only [resTy, argTy, eqD, inR, big, wantOf, Bool.not_true, Bool.not_false, Bool.true_eq, decide_eq_true_eq, decide_eq_false_iff_not, Bool.not_eq_true', Bool.not_eq_false', Bool.and_eq_true, Prod.mk.injEq, and_true, true_and, Int.not_lt, Int.not_le, gt_iff_lt, ge_iff_le] at *); (try simp only [resTy, argTy, eqD, inR, big, wantOf, Bool.not_true, Bool.not_false, Bool.true_eq, decide_eq_true_eq, decide_eq_false_iff_not, Bool.not_eq_true', Bool.not_eq_false', Bool.and_eq_true, Prod.mk.injEq, and_true, true_and, Int.not_lt, Int.not_le, gt_iff_lt, ge_iff_le, hm] at *))
      all_goals try omega
      all_goals skip
  · have hm : pmB L ts s = false := by simpa using hm
    repeat' (intro hzz; (try (rename Two => hq; cases hq)); (try dsimp only at hzz); (try simp only [resTy, argTy, eqD, inR, big, wantOf, Bool.not_true, Bool.not_false, Bool.true_eq, decide_eq_true_eq, decide_eq_false_iff_not, Bool.not_eq_true', Bool.not_eq_false', Bool.and_eq_true, Prod.mk.injEq, and_true, true_and, Int.not_lt, Int.not_le, gt_iff_lt, ge_iff_le] at hzz); (try simp only [resTy, argTy, eqD, inR, big, wantOf, Bool.not_true, Bool.not_false, Bool.true_eq, decide_eq_true_eq, decide_eq_false_iff_not, Bool.not_eq_true', Bool.not_eq_false', Bool.and_eq_true, Prod.mk.injEq, and_true, true_and, Int.not_lt, Int.not_le, gt_iff_lt, ge_iff_le, hm] at hzz); (try (first | contradiction | (exfalso; omega))); (try (revert hzz; intro _)))
    all_goals try (rename Unit => hq; clear hq)
    all_goals try ((with_reducible refine Held.mk ?_); (with_reducible (first | refine Frz.mk ?_ | refine And.intro (Frz.mk ?_) ?_ | refine And.intro ?_ (Frz.mk ?_))); repeat' first | exact True.intro | (change _ = _; with_reducible rfl) | refine And.intro ?_ ?_ | (with_reducible refine Frz.mk ?_))
    all_goals try (refine Held.mk ?_; (try dsimp only at *); (try simp only [resTy, argTy, eqD, inR, big, wantOf, Bool.not_true, Bool.not_false, Bool.true_eq, decide_eq_true_eq, decide_eq_false_iff_not, Bool.not_eq_true', Bool.not_eq_false', Bool.and_eq_true, Prod.mk.injEq, and_true, true_and, Int.not_lt, Int.not_le, gt_iff_lt, ge_iff_le] at *); (try simp only [resTy, argTy, eqD, inR, big, wantOf, Bool.not_true, Bool.not_false, Bool.true_eq, decide_eq_true_eq, decide_eq_false_iff_not, Bool.not_eq_true', Bool.not_eq_false', Bool.and_eq_true, Prod.mk.injEq, and_true, true_and, Int.not_lt, Int.not_le, gt_iff_lt, ge_iff_le, hm] at *))
    all_goals try omega

end Go.Eng.Pu

/- The law TopTwoUnfoldings: for every input the law returns true, and each argument reads behind the call as before. Conditions: none. -/
namespace Go.Proofs.Ytcoimlnplaidiaa
open Go.Eng Go.Eng.Pu Go.ChangeShapes Go.WideShapes Go.ChangeAt Go.RowKit
set_option linter.all false
set_option maxRecDepth 100000

theorem topTwoUnfoldings_ok : Ok 16 (lawSpec [(.sl PairT), StartT', I64]) := ⟨fun w M x vs bs hM hA _ => h16.1 w M x vs bs hM hA trivial, h16.2⟩

theorem topTwoUnfoldings_lifted (os : Os) (started : os.Started) (H : Type) (enc : TypeId × Value → H) :
    ReturnsInHanded {} Try.checked os 16 .any (Rows.topTwoUnfoldingsSpec.pre6 enc Try.prog Try.f16 Rows.topTwoUnfoldingsRow.domain false) (Rows.topTwoUnfoldingsSpec.post enc Try.prog Try.f16 false true false false) :=
  law_lifted topTwoUnfoldings_ok Try.func16 (by kernel_rfl) ⟨by kernel_rfl, by kernel_rfl, by kernel_rfl, trivial⟩ rfl (by kernel_rfl) (by kernel_rfl) (by kernel_rfl)
    (fun H ds hl => by
      have hn : Try.f16.params.size = 3 := by kernel_rfl
      rw [hn] at hl
      match ds, hl with
      | [d0, d1, d2], _ => rfl) os started H enc
    (ChangeSpec.witness6 (enc := enc) (C := Try.checked) false ⟨#[], #[.slice none 0 0, .agg #[.int .i64 0, .slice none 0 0, .int .i64 0], .int .i64 0], []⟩ 8 (by kernel_rfl) (by kernel_rfl) (by kernel_rfl) (by kernel_rfl))

theorem topTwoUnfoldings_holds : Rows.TopTwoUnfoldingsSaid :=
  OpenClaim.holds_of_wide 16 Try.f16 rfl rfl rfl rfl rfl rfl rfl ⟨rfl, rfl, rfl, rfl, rfl⟩ rfl rfl rfl rfl rfl (by kernel_rfl) Try.func16 (by kernel_rfl)
    (of_decide_eq_true (by kernel_rfl)) (by unfold Func.isWrapper; first | (rw [if_pos (by decide +kernel)]; kernel_rfl) | (rw [if_neg (by decide +kernel)]; exact ⟨rfl, rfl⟩))
    (fun os started H enc _ => topTwoUnfoldings_lifted os started H enc)
#print axioms topTwoUnfoldings_holds
end Go.Proofs.Ytcoimlnplaidiaa
