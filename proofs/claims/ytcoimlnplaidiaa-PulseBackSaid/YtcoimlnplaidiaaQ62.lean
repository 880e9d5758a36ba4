/- Maximal registers: what is excited is unfolded to the response; numbers read back. Plain laws. Conditions: the register is right and maximal. -/
import Derived.Test.YtcoimlnplaidiaaQ51
import Derived.Test.YtcoimlnplaidiaaQ23
namespace Go.Eng.Pu
open Go.Eng Go.Proofs
set_option linter.all false
set_option maxRecDepth 100000

/-! ### Numbers read back -/

theorem pE_int {n : Int} (h1 : -16777216 ≤ n) (h2 : n ≤ 16777216) : pE (floatOfInt .f32 n) = 0 ∧ fT .f32 (floatOfInt .f32 n) = n := by
  obtain ⟨a, b⟩ := foi_num h1 h2
  have h0 := fS_pos .f32
  have ht : fT .f32 (floatOfInt .f32 n) = n := by
    unfold fT; rw [b, Int.mul_tdiv_cancel _ (by omega)]
  have hw : fWh .f32 (floatOfInt .f32 n) = true := by
    unfold fWh; rw [ht, b]; exact decide_eq_true rfl
  refine ⟨?_, ht⟩
  unfold pE M32
  rw [if_pos a, b, hw, if_neg ?_, if_pos rfl]
  generalize fS .f32 = S at *
  rintro (h | h)
  · have := Int.mul_le_mul_of_nonneg_right h2 (show 0 ≤ S by omega); omega
  · have := Int.mul_le_mul_of_nonneg_right h1 (show 0 ≤ S by omega); omega

theorem tab_getD {α : Type} (d : α) (l : List α) : tab (fun i => l.getD i d) l.length = l := by
  apply List.ext_getElem
  · exact tab_len _ _
  · intro i h1 h2
    have h3 := tab_get (fun i => l.getD i d) d l.length i h2
    have e1 : (tab (fun i => l.getD i d) l.length).getD i d = (tab (fun i => l.getD i d) l.length)[i] := by
      rw [List.getD_eq_getElem?_getD, List.getElem?_eq_getElem h1]; rfl
    have e2 : l.getD i d = l[i] := by
      rw [List.getD_eq_getElem?_getD, List.getElem?_eq_getElem h2]; rfl
    rw [← e1, h3, e2]

theorem lF_zero {xs : CL} (h : ∀ i, i < xs.length → eE (xs.getD i (0, 0)) = 0) : lF xs = 0 := by
  have key : ∀ k, k ≤ xs.length → lF (xs.drop (xs.length - k)) = 0 := by
    intro k
    induction k with
    | zero => intro _; rw [List.drop_eq_nil_of_le (by omega)]; rfl
    | succ k ih =>
      intro hk
      rw [lF_step (by omega), if_pos (h _ (by omega)), show xs.length - (k + 1) + 1 = xs.length - k by omega]
      exact ih (by omega)
  have := key xs.length (Nat.le_refl _)
  rwa [Nat.sub_self, List.drop_zero] at this

theorem nm_eE {ps : List IP} (hf : allFit ps = true) (i : Nat) : eE (nmF ps i) = 0 ∧ prT (nmF ps i) = ps.getD i (0, 0, ()) := by
  have h := allFit_at hf i
  have a := pE_int h.1.1 h.1.2
  have b := pE_int h.2.1 h.2.2
  refine ⟨eE_c a.1 b.1, ?_⟩
  show (fT .f32 (floatOfInt .f32 _), fT .f32 (floatOfInt .f32 _), ()) = _
  rw [a.2, b.2]

/-- Numbers that fit are read back. -/
theorem tL_read {ps : List IP} (hf : allFit ps = true) (h1 : 1 ≤ ps.length) (h2 : ps.length ≤ 1024) : lE (tL ps) = 0 ∧ lP (tL ps) = ps ∧ (tL ps).length = ps.length := by
  have e : tL ps = tab (nmF ps) ps.length := by unfold tL; rw [if_pos hf]
  have hl : (tL ps).length = ps.length := by rw [e]; exact tab_len _ _
  have hg : ∀ i, i < ps.length → (tL ps).getD i (0, 0) = nmF ps i := fun i hi => by rw [e, tab_get _ _ _ _ hi]
  have hE : lE (tL ps) = 0 := by
    unfold lE
    rw [if_neg (by omega), if_neg (by omega)]
    exact lF_zero fun i hi => by rw [hg i (by omega)]; exact (nm_eE hf i).1
  refine ⟨hE, ?_, hl⟩
  unfold lP
  rw [if_pos hE, hl]
  refine Eq.trans (tab_congr _ fun i hi => ?_) (tab_getD (0, 0, ()) ps)
  rw [hg i hi]; exact (nm_eE hf i).2

/-! ### Sums by parts -/

theorem trV_1 (ps : List IP) (sg : List Int) (a way : Int) : ∀ n : Nat, (trV ps sg a way n).1 = sm (fun k => (ps.getD k (0, 0, ())).1 * sgA sg (way * (a - k))) n
  | 0 => rfl
  | n + 1 => by
    show (trV ps sg a way n).1 + _ = sm _ n + _
    rw [trV_1 ps sg a way n]; rfl
theorem trV_2 (ps : List IP) (sg : List Int) (a way : Int) : ∀ n : Nat, (trV ps sg a way n).2.1 = sm (fun k => (ps.getD k (0, 0, ())).2.1 * sgA sg (way * (a - k))) n
  | 0 => rfl
  | n + 1 => by
    show (trV ps sg a way n).2.1 + _ = sm _ n + _
    rw [trV_2 ps sg a way n]; rfl
theorem flV_1 (ps : List IP) : ∀ n : Nat, (flV ps 1 0 n).1 = sm (fun k => (ps.getD k (0, 0, ())).1) n
  | 0 => rfl
  | n + 1 => by rw [flV1]; show (flV ps 1 0 n).1 + _ = sm _ n + _; rw [flV_1 ps n]
theorem flV_2 (ps : List IP) : ∀ n : Nat, (flV ps 1 0 n).2.1 = sm (fun k => (ps.getD k (0, 0, ())).2.1) n
  | 0 => rfl
  | n + 1 => by rw [flV1]; show (flV ps 1 0 n).2.1 + _ = sm _ n + _; rw [flV_2 ps n]

/-! ### Signs of a maximal register -/

structure Mx (L : Int) (ts : List Int) (s : Int) : Prop where
  hst : pSt L ts s
  hs : 1 ≤ s
  hM : (per L ts 1 : Int) = most L

theorem Mx.N {L : Int} {ts : List Int} {s : Int} (m : Mx L ts s) : per L ts 1 = (most L).toNat := by have := m.hM; omega
theorem Mx.per {L : Int} {ts : List Int} {s : Int} (m : Mx L ts s) : per L ts s = (most L).toNat := (per_max m.hst.1 m.hst.2.1 m.hM m.hst m.hs).trans m.N
theorem Mx.pos {L : Int} {ts : List Int} {s : Int} (m : Mx L ts s) : 3 ≤ most L ∧ most L ≤ 255 := most_in (chk_zero m.hst.1).1

theorem sgA_nat {L : Int} {ts : List Int} {s : Int} (m : Mx L ts s) (i : Nat) : sgA (sgL L ts s) (i : Int) = sgI L ts s i := by
  have hp := m.pos
  unfold sgA
  rw [sgL_len]
  have e : (fMod (i : Int) ((most L).toNat : Nat)).toNat = i % (most L).toNat := by
    show ((i : Int) % ((most L).toNat : Nat)).toNat = _
    rw [← Int.natCast_emod]; rfl
  rw [e]
  unfold sgL
  rw [tab_get _ _ _ _ (Nat.mod_lt _ (by omega)), ← m.per, sgI_mod m.hst]

theorem sgA_diff {L : Int} {ts : List Int} {s : Int} (m : Mx L ts s) {t j : Nat} (hj : j ≤ (most L).toNat) : sgA (sgL L ts s) ((t : Int) - j) = sgI L ts s (t + ((most L).toNat - j)) := by
  rw [← sgA_nat m]
  have hp := m.pos
  unfold sgA
  rw [sgL_len]
  have e : fMod ((t : Int) - j) ((most L).toNat : Nat) = fMod ((t + ((most L).toNat - j) : Nat) : Int) ((most L).toNat : Nat) := by
    show ((t : Int) - j) % _ = ((t + ((most L).toNat - j) : Nat) : Int) % _
    rw [show ((t + ((most L).toNat - j) : Nat) : Int) = (t : Int) - j + ((most L).toNat : Nat) by omega, Int.add_emod_right]
  rw [e]

theorem sgI_turn {L : Int} {ts : List Int} {s : Int} (m : Mx L ts s) (i : Nat) : sgI L ts s (i + (most L).toNat) = sgI L ts s i := by
  have := sgI_per m.hst i
  rwa [m.per] at this

theorem sum_signs {L : Int} {ts : List Int} {s : Int} (m : Mx L ts s) (j : Nat) (hj : j ≤ (most L).toNat) : sm (fun t => sgA (sgL L ts s) ((t : Int) - j)) (most L).toNat = -1 := by
  rw [sm_congr _ fun t _ => sgA_diff m hj, sm_turn (sgI_turn m)]
  have a := sumS_one m.hst.1 m.hst.2.1 m.hM m.hst m.hs
  rw [sum_max m.hst.1 m.hst.2.1 m.hM] at a
  unfold sumS at a
  rwa [m.N] at a

theorem cor_le {L : Int} {ts : List Int} {s : Int} (m : Mx L ts s) {a b : Nat} (hab : a ≤ b) (hb : b < a + (most L).toNat) : sm (fun t => sgI L ts s (t + a) * sgI L ts s (t + b)) (most L).toNat = if a = b then most L else -1 := by
  have hp := m.pos
  have e : sm (fun t => sgI L ts s (t + a) * sgI L ts s (t + b)) (most L).toNat = corS L ts s (b - a) := by
    unfold corS
    rw [m.N]
    have h := sm_turn (f := fun i => sgI L ts s i * sgI L ts s (i + (b - a))) (n := (most L).toNat) (fun i => by
      show sgI L ts s (i + (most L).toNat) * sgI L ts s (i + (most L).toNat + (b - a)) = _
      rw [sgI_turn m, show i + (most L).toNat + (b - a) = i + (b - a) + (most L).toNat by omega, sgI_turn m]) a
    rw [← h]
    refine sm_congr _ fun t _ => ?_
    show _ = sgI L ts s (t + a) * sgI L ts s (t + a + (b - a))
    rw [show t + a + (b - a) = t + b by omega]
  rw [e]
  by_cases h : a = b
  · rw [if_pos h, cor_zero m.hst (m.per.trans m.N.symm) (by rw [show b - a = 0 by omega, Nat.zero_mod])]; exact m.hM
  · rw [if_neg h, cor_shift m.hst.1 m.hst.2.1 m.hM m.hst m.hs (by rw [m.N, Nat.mod_eq_of_lt (by omega)]; omega), sum_max m.hst.1 m.hst.2.1 m.hM]

theorem cor_two {L : Int} {ts : List Int} {s : Int} (m : Mx L ts s) {j k : Nat} (hj : j < (most L).toNat) (hk : k < (most L).toNat) :
    sm (fun t => sgA (sgL L ts s) ((t : Int) - j) * sgA (sgL L ts s) ((t : Int) - k)) (most L).toNat = if j = k then most L else -1 := by
  rw [sm_congr _ fun t _ => by rw [sgA_diff m (Nat.le_of_lt hj), sgA_diff m (Nat.le_of_lt hk)]]
  rcases Nat.le_total j k with h | h
  · have := cor_le m (a := (most L).toNat - k) (b := (most L).toNat - j) (by omega) (by omega)
    rw [sm_congr _ fun t _ => Int.mul_comm _ _, this]
    by_cases e : j = k
    · rw [if_pos (by omega), if_pos e]
    · rw [if_neg (by omega), if_neg e]
  · have := cor_le m (a := (most L).toNat - j) (b := (most L).toNat - k) (by omega) (by omega)
    rw [this]
    by_cases e : j = k
    · rw [if_pos (by omega), if_pos e]
    · rw [if_neg (by omega), if_neg e]

theorem sm_pick (c d : Int) (f : Nat → Int) (k : Nat) : ∀ n : Nat, sm (fun j => f j * (if j = k then c else d)) n = d * sm f n + (if k < n then (c - d) * f k else 0)
  | 0 => by simp [sm]
  | n + 1 => by
    show sm _ n + f n * (if n = k then c else d) = d * (sm f n + f n) + _
    rw [sm_pick c d f k n]
    by_cases h : n = k
    · subst h
      rw [if_pos rfl, if_neg (by omega), if_pos (by omega)]; grind
    · rw [if_neg h]
      by_cases h2 : k < n
      · rw [if_pos h2, if_pos (by omega)]; grind
      · rw [if_neg h2, if_neg (by omega)]; grind

/-- What is excited, correlated with the signs, less its sum, is N + 1 times the response. -/
theorem back_sum {L : Int} {ts : List Int} {s : Int} (m : Mx L ts s) (h : Nat → Int) {k : Nat} (hk : k < (most L).toNat) :
    sm (fun t => sm (fun j => h j * sgA (sgL L ts s) ((t : Int) - j)) (most L).toNat * sgA (sgL L ts s) ((t : Int) - k)) (most L).toNat - sm (fun t => sm (fun j => h j * sgA (sgL L ts s) ((t : Int) - j)) (most L).toNat) (most L).toNat = (most L + 1) * h k := by
  have e1 : sm (fun t => sm (fun j => h j * sgA (sgL L ts s) ((t : Int) - j)) (most L).toNat * sgA (sgL L ts s) ((t : Int) - k)) (most L).toNat = sm (fun j => h j * (if j = k then most L else -1)) (most L).toNat := by
    have : ∀ t, t < (most L).toNat → sm (fun j => h j * sgA (sgL L ts s) ((t : Int) - j)) (most L).toNat * sgA (sgL L ts s) ((t : Int) - k) = sm (fun j => h j * (sgA (sgL L ts s) ((t : Int) - j) * sgA (sgL L ts s) ((t : Int) - k))) (most L).toNat := fun t _ => by
      rw [Int.mul_comm, ← sm_mul]
      refine sm_congr _ fun j _ => ?_
      rw [Int.mul_comm, Int.mul_assoc]
    rw [sm_congr _ this, sm_comm]
    refine sm_congr _ fun j hj => ?_
    rw [sm_mul, cor_two m hj hk]
  have e2 : sm (fun t => sm (fun j => h j * sgA (sgL L ts s) ((t : Int) - j)) (most L).toNat) (most L).toNat = sm (fun j => h j * -1) (most L).toNat := by
    rw [sm_comm]
    refine sm_congr _ fun j hj => ?_
    rw [sm_mul, sum_signs m j (Nat.le_of_lt hj)]
  have e3 : sm (fun j => h j * -1) (most L).toNat = -1 * sm h (most L).toNat := by
    rw [← sm_mul]; exact sm_congr _ fun j _ => Int.mul_comm _ _
  rw [e1, e2, e3, sm_pick, if_pos hk]
  grind

end Go.Eng.Pu
