/- Contracts: recordings unfolded by transforms, of the program and of the reference. Conditions: each contract's own. Transformed and Back; the law PulseTransforms. Conditions: each contract's own. Maximal registers: what is excited is unfolded by transforms, too. Plain laws. Conditions: the register is right and maximal, the field is right. Generators: modulo a prime there is a root for each divisor of p - 1. Plain laws. Contracts: the field of a period, of the program and of the reference. Conditions: each contract's own. -/
import Derived.Test.YtcoimlnplaidiaaDoorWC9
import Derived.Test.YtcoimlnplaidiaaDoorWC12
import Derived.Test.YtcoimlnplaidiaaDoorWC8
import Derived.Test.YtcoimlnplaidiaaDoorWC11
namespace Go.Eng.Pu
open Go.Eng Go.Proofs
set_option linter.all false
set_option maxRecDepth 100000
set_option maxHeartbeats 8000000

abbrev StartT' : Ty := .cons Reg0 (.cons I64 .nil)

/-- A transform divided by another one, transformed back; numbers greater than half of the prime are below 0. -/
def quF (p w : Int) (xs bs : List Int) (i : Nat) : Int := dft p w (at0 xs) xs.length i * inv (bs.getD i 0) p % p
def quL (p w : Int) (xs bs : List Int) : List Int := tab (quF p w xs bs) xs.length
def hfc (p v : Int) : Int := if p < 2 * v then v - p else v
def uiF (p w n : Int) (xs bs : List Int) (i : Nat) : Int := hfc p (backF p w n (quL p w xs bs) i)
def uiL (p w n : Int) (xs bs : List Int) : List Int := tab (uiF p w n xs bs) xs.length

@[reducible] def sUfd : Spec := { pats := [.dat Fld, .dat (.sl I64), .dat (.sl I64)], res := [{ t := .sl I64 }], pre := fun x => FOk x.1.1.1 x.1.1.2.1 x.1.1.2.2.1 ∧ (List.length (α := Int) x.2.1 : Int) = x.1.1.2.2.1 ∧ List.length (α := Int) x.2.2.1 = List.length (α := Int) x.2.1, f := fun x => (uiL x.1.1.1 x.1.1.2.1 x.1.1.2.2.1 x.2.1 x.2.2.1, ()) }

theorem quL_len (p w : Int) (xs bs : List Int) : (quL p w xs bs).length = xs.length := tab_len _ _
theorem backL_len (p w n : Int) (xs : List Int) : (backL p w n xs).length = xs.length := tab_len _ _
theorem backF_in {p w n : Int} (hp : 2 ≤ p) (xs : List Int) (i : Nat) : 0 ≤ backF p w n xs i ∧ backF p w n xs i < p := em_in hp _

theorem mixT_same {f g : Nat → Int} {n k : Nat} (h : k < n) : (mixT f g n k).set k (g k) = mixT f g n k := by
  have := mixT_get (f := f) (g := g) h
  unfold mixT at *
  rw [tab_set]
  refine tab_congr _ fun i hi => ?_
  by_cases he : i = k
  · rw [if_pos he, he, if_neg (by omega)]
  · rw [if_neg he]

/-- What is unfolded by transforms. -/
def uwF (p w n : Int) (ps : List IP) (sg : List Int) (k : Nat) : IP := (uiF p w n (prtL ps 0) (dftL p w sg) k, uiF p w n (prtL ps 1) (dftL p w sg) k, ())
def uwL (p w n : Int) (ps : List IP) (sg : List Int) : List IP := tab (uwF p w n ps sg) ps.length

noncomputable def uwE (xs : CL) (L : Int) (ts : List Int) (s p w n : Int) : Int :=
  if lE xs = 0 then (if opErr L ts s = 0 then (if cfE p w n = 0 then (if (per L ts 1 : Int) = most L then (if (xs.length : Int) = most L ∧ n = most L then tE (uwL p w n (lP xs) (sgL L ts s)) else 13) else 22) else cfE p w n) else opErr L ts s) else lE xs
noncomputable def uwR (xs : CL) (L : Int) (ts : List Int) (s p w n : Int) : CL :=
  if lE xs = 0 then (if opErr L ts s = 0 then (if cfE p w n = 0 then (if (per L ts 1 : Int) = most L then (if (xs.length : Int) = most L ∧ n = most L then tL (uwL p w n (lP xs) (sgL L ts s)) else []) else []) else []) else []) else []

@[reducible] noncomputable def sUwI : Spec := { pats := [.dat (.sl C64), .dat StartT', .dat Fld0], res := [{ own := some 48, t := .sl C64 }, { t := I64 }], pre := fun x => pLen (List.length (α := Int) x.2.1.1.2.1), f := fun x => (uwR x.1 x.2.1.1.1 x.2.1.1.2.1 x.2.1.2.1 x.2.2.1.1 x.2.2.1.2.1 x.2.2.1.2.2.1, uwE x.1 x.2.1.1.1 x.2.1.1.2.1 x.2.1.2.1 x.2.2.1.1 x.2.2.1.2.1 x.2.2.1.2.2.1, ()) }

theorem uiL_len (p w n : Int) (xs bs : List Int) : (uiL p w n xs bs).length = xs.length := tab_len _ _


end Go.Eng.Pu

namespace Go.Eng.Pu
open Go.Eng Go.Proofs
set_option linter.all false
set_option maxRecDepth 100000
set_option maxHeartbeats 8000000

noncomputable def trL (xs : List Int) (p w n : Int) : List Int := if ofE xs p w n = 0 then dftL p w xs else []
noncomputable def bkL (xs : List Int) (p w n : Int) : List Int := if ofE xs p w n = 0 then backL p w n xs else []

@[reducible] noncomputable def sPTrf : Spec := { pats := [.dat (.sl I64), .dat Fld0], res := [{ t := .sl I64 }, { t := I64 }], pre := fun x => pLen (List.length (α := Int) x.1), f := fun x => (trL x.1 x.2.1.1 x.2.1.2.1 x.2.1.2.2.1, ofE x.1 x.2.1.1 x.2.1.2.1 x.2.1.2.2.1, ()) }
@[reducible] noncomputable def sPBack : Spec := { pats := [.dat (.sl I64), .dat Fld0], res := [{ t := .sl I64 }, { t := I64 }], pre := fun x => pLen (List.length (α := Int) x.1), f := fun x => (bkL x.1 x.2.1.1 x.2.1.2.1 x.2.1.2.2.1, ofE x.1 x.2.1.1 x.2.1.2.1 x.2.1.2.2.1, ()) }

/-- Transformed -/
theorem h35 : Ok 26 sPTrf := by
  refine mk (ctr := [(56, sOField), (57, sTrf)]) ⟨h102, h103, trivial⟩ (nt := 20) Tryd.func26 rfl rfl rfl rfl (by kernel_rfl) (by kernel_rfl) (fun _ => []) ?_
  rintro ⟨(xs : List Int), ⟨(p : Int), (w : Int), (n : Int), _⟩, _⟩ (h : pLen xs.length)
  by_cases ho : ofE xs p w n = 0
  · have hz := ofE_zero ho
    have u : trL xs p w n = dftL p w xs := if_pos ho
    repeat' (intro hzz; (try (rename Two => hq; cases hq)); (try dsimp only at hzz); (try simp only [resTy, argTy, eqD, inR, big, wantOf, Bool.not_true, Bool.not_false, Bool.true_eq, decide_eq_true_eq, decide_eq_false_iff_not, Bool.not_eq_true', Bool.not_eq_false', Bool.and_eq_true, Prod.mk.injEq, and_true, true_and, Int.not_lt, Int.not_le, gt_iff_lt, ge_iff_le] at hzz); (try simp only [resTy, argTy, eqD, inR, big, wantOf, Bool.not_true, Bool.not_false, Bool.true_eq, decide_eq_true_eq, decide_eq_false_iff_not, Bool.not_eq_true', Bool.not_eq_false', Bool.and_eq_true, Prod.mk.injEq, and_true, true_and, Int.not_lt, Int.not_le, gt_iff_lt, ge_iff_le, ho] at hzz); (try (first | contradiction | (exfalso; omega))); (try (revert hzz; intro _)))
    all_goals try (rename Unit => hq; clear hq)
    all_goals try ((with_reducible refine Held.mk ?_); (with_reducible (first | refine Frz.mk ?_ | refine And.intro (Frz.mk ?_) ?_ | refine And.intro ?_ (Frz.mk ?_))); repeat' first | exact True.intro | (change _ = _; with_reducible rfl) | refine And.intro ?_ ?_ | (with_reducible refine Frz.mk ?_))
    all_goals try (refine Held.mk ?_; (try dsimp only at *); (try simp only [resTy, argTy, eqD, inR, big, wantOf, Bool.not_true, Bool.not_false, Bool.true_eq, decide_eq_true_eq, decide_eq_false_iff_not, Bool.not_eq_true', Bool.not_eq_false', Bool.and_eq_true, Prod.mk.injEq, and_true, true_and, Int.not_lt, Int.not_le, gt_iff_lt, ge_iff_le] at *); (try simp only [resTy, argTy, eqD, inR, big, wantOf, Bool.not_true, Bool.not_false, Bool.true_eq, decide_eq_true_eq, decide_eq_false_iff_not, Bool.not_eq_true', Bool.not_eq_false', Bool.and_eq_true, Prod.mk.injEq, and_true, true_and, Int.not_lt, Int.not_le, gt_iff_lt, ge_iff_le, ho] at *))
    all_goals try omega
    · exact ⟨hz.1, hz.2.1⟩
    · exact u.symm
  · have u : trL xs p w n = [] := if_neg ho
    repeat' (intro hzz; (try (rename Two => hq; cases hq)); (try dsimp only at hzz); (try simp only [resTy, argTy, eqD, inR, big, wantOf, Bool.not_true, Bool.not_false, Bool.true_eq, decide_eq_true_eq, decide_eq_false_iff_not, Bool.not_eq_true', Bool.not_eq_false', Bool.and_eq_true, Prod.mk.injEq, and_true, true_and, Int.not_lt, Int.not_le, gt_iff_lt, ge_iff_le] at hzz); (try simp only [resTy, argTy, eqD, inR, big, wantOf, Bool.not_true, Bool.not_false, Bool.true_eq, decide_eq_true_eq, decide_eq_false_iff_not, Bool.not_eq_true', Bool.not_eq_false', Bool.and_eq_true, Prod.mk.injEq, and_true, true_and, Int.not_lt, Int.not_le, gt_iff_lt, ge_iff_le, ho] at hzz); (try (first | contradiction | (exfalso; omega))); (try (revert hzz; intro _)))
    all_goals try (rename Unit => hq; clear hq)
    all_goals try ((with_reducible refine Held.mk ?_); (with_reducible (first | refine Frz.mk ?_ | refine And.intro (Frz.mk ?_) ?_ | refine And.intro ?_ (Frz.mk ?_))); repeat' first | exact True.intro | (change _ = _; with_reducible rfl) | refine And.intro ?_ ?_ | (with_reducible refine Frz.mk ?_))
    all_goals try (refine Held.mk ?_; (try dsimp only at *); (try simp only [resTy, argTy, eqD, inR, big, wantOf, Bool.not_true, Bool.not_false, Bool.true_eq, decide_eq_true_eq, decide_eq_false_iff_not, Bool.not_eq_true', Bool.not_eq_false', Bool.and_eq_true, Prod.mk.injEq, and_true, true_and, Int.not_lt, Int.not_le, gt_iff_lt, ge_iff_le] at *); (try simp only [resTy, argTy, eqD, inR, big, wantOf, Bool.not_true, Bool.not_false, Bool.true_eq, decide_eq_true_eq, decide_eq_false_iff_not, Bool.not_eq_true', Bool.not_eq_false', Bool.and_eq_true, Prod.mk.injEq, and_true, true_and, Int.not_lt, Int.not_le, gt_iff_lt, ge_iff_le, ho] at *))
    all_goals try omega
    · exact u.symm

theorem fok_n {p w n : Int} (h : FOk p w n) : n < p := by
  obtain ⟨h1, h2, h3, h4, h5, h6, h7, h8, h9⟩ := h
  have := Int.le_of_dvd (by omega) (Int.dvd_of_emod_eq_zero h8)
  omega

theorem at_dftL {p w : Int} {xs : List Int} {k : Nat} (h : k < xs.length) : (dftL p w xs).getD k 0 = dft p w (at0 xs) xs.length k := tab_get _ _ _ _ h

/-- There and back. -/
theorem back_ok {p w n : Int} {xs : List Int} (hf : FOk p w n) (hl : (xs.length : Int) = n) {i : Nat} (hi : i < xs.length) : (backL p w n (dftL p w xs)).getD i 0 = xs.getD i 0 % p := by
  have hn := fok_n hf
  obtain ⟨h1, h2, h3, h4, h5, h6, h7, h8, h9⟩ := hf
  have hlen : n.toNat = xs.length := by omega
  rw [hlen] at h9
  unfold backL
  rw [tab_get _ _ _ _ (by rw [dftL_len]; exact hi)]
  unfold backF
  rw [dftL_len]
  have e : dft p (inv w p) (at0 (dftL p w xs)) xs.length i = dft p (inv w p) (dft p w (at0 xs) xs.length) xs.length i := by
    refine congrArg (· % p) (sm_congr xs.length fun k hk => ?_)
    show at0 (dftL p w xs) k * _ = dft p w (at0 xs) xs.length k * _
    rw [show at0 (dftL p w xs) k = dft p w (at0 xs) xs.length k from at_dftL hk]
  rw [e]
  have hv := inv_mul h7 (root_unit h7 (by omega) h9.1)
  have hc : Cg p ((xs.length : Int) * inv n p) 1 := by
    rw [hl]
    exact inv_mul h7 (pr_small (by omega) hn)
  exact there_back h7 h9 hv hc (at0 xs) hi

def turnL (xs : List Int) : List Int := [xs.getD (xs.length - 1) 0] ++ xs.take (xs.length - 1)

theorem turnL_len {xs : List Int} (h : 1 ≤ xs.length) : (turnL xs).length = xs.length := by
  unfold turnL
  rw [List.length_append, List.length_take]
  simp; omega

theorem sm_head (f : Nat → Int) : ∀ n : Nat, sm f (n + 1) = f 0 + sm (fun i => f (i + 1)) n
  | 0 => by show 0 + f 0 = f 0 + 0; omega
  | n + 1 => by
    have e : sm f (n + 1 + 1) = sm f (n + 1) + f (n + 1) := rfl
    have e2 : sm (fun i => f (i + 1)) (n + 1) = sm (fun i => f (i + 1)) n + f (n + 1) := rfl
    rw [e, sm_head f n, e2]; omega

theorem turn_at {xs : List Int} {j : Nat} (h : j + 1 < xs.length) : at0 (turnL xs) (j + 1) = at0 xs j := by
  unfold at0 turnL
  simp only [List.getD]
  rw [List.getElem?_append_right (by simp)]
  simp only [List.length_singleton, Nat.add_sub_cancel]
  rw [List.getElem?_take_of_lt (by omega)]

/-- A list turned by one number. -/
theorem turn_ok {p w n : Int} {xs : List Int} (hf : FOk p w n) (hl : (xs.length : Int) = n) {k : Nat} (hk : k < xs.length) : (dftL p w (turnL xs)).getD k 0 = ((dftL p w xs).getD k 0 * pw w k p).tmod p := by
  obtain ⟨h1, h2, h3, h4, h5, h6, h7, h8, h9⟩ := hf
  have hlen : n.toNat = xs.length := by omega
  rw [hlen] at h9
  have hw := h9.1
  have ht := turnL_len (xs := xs) (by omega)
  rw [at_dftL (by omega), at_dftL hk, ht]
  have g1 := dft_in h1 w (at0 xs) xs.length k
  have g2 : 0 ≤ pw w k p ∧ pw w k p < p := em_in h1 _
  rw [Int.tmod_eq_emod_of_nonneg (Int.mul_nonneg g1.1 g2.1)]
  obtain ⟨m, hm⟩ : ∃ m, xs.length = m + 1 := ⟨xs.length - 1, by omega⟩
  have hr : Cg p (dft p w (at0 xs) xs.length k * pw w k p) (sm (fun j => at0 xs j * w ^ (j * k)) xs.length * w ^ k) := (Cg.mod p _).mul (Cg.mod p _)
  refine Cg.trans ?_ hr.symm
  rw [hm]
  rw [hm] at hw
  have e1 : sm (fun j => at0 (turnL xs) j * w ^ (j * k)) (m + 1) = at0 xs m + sm (fun j => at0 xs j * w ^ ((j + 1) * k)) m := by
    rw [sm_head]
    have a1 : at0 (turnL xs) 0 = at0 xs m := by
      unfold at0 turnL
      rw [hm]; rfl
    rw [a1, Nat.zero_mul, Int.pow_zero, Int.mul_one]
    refine congrArg (at0 xs m + ·) (sm_congr m fun j hj => ?_)
    show at0 (turnL xs) (j + 1) * _ = at0 xs j * _
    rw [turn_at (by omega)]
  rw [e1]
  have e2 : sm (fun j => at0 xs j * w ^ (j * k)) (m + 1) * w ^ k = at0 xs m * w ^ ((m + 1) * k) + sm (fun j => at0 xs j * w ^ ((j + 1) * k)) m := by
    have a2 : sm (fun j => at0 xs j * w ^ (j * k)) (m + 1) = sm (fun j => at0 xs j * w ^ (j * k)) m + at0 xs m * w ^ (m * k) := rfl
    rw [a2, Int.add_mul, Int.mul_comm (sm _ m), ← sm_mul, Int.add_comm]
    congr 1
    · rw [Int.mul_assoc, ← Int.pow_add, Nat.add_mul, Nat.one_mul]
    · refine sm_congr m fun j _ => ?_
      rw [Nat.add_mul, Nat.one_mul, Int.pow_add]
      generalize w ^ (j * k) = A
      generalize w ^ k = B
      grind
  rw [e2]
  have h := (Cg.refl p (at0 xs m)).mul (pow_one_mul hw k)
  rw [Int.mul_one] at h
  exact h.symm.add (Cg.refl p _)

end Go.Eng.Pu

namespace Go.Eng.Pu
open Go.Eng Go.Proofs
set_option linter.all false
set_option maxRecDepth 100000

theorem Cg.sub {p x y u v : Int} (h : Cg p x y) (h' : Cg p u v) : Cg p (x - u) (y - v) := by
  have := h.add ((Cg.refl p (-1)).mul h')
  have e1 : x + -1 * u = x - u := by omega
  have e2 : y + -1 * v = y - v := by omega
  rwa [e1, e2] at this

/-! ### By correlation -/

theorem exF_1 (xs : CL) (L : Int) (ts : List Int) (s : Int) (t : Nat) : (exF xs L ts s t).1 = sm (fun j => ((exf xs L).getD j (0, 0, ())).1 * sgA (sgL L ts s) ((t : Int) - j)) (most L).toNat := by
  unfold exF
  rw [trV_1, exf_len]
  exact sm_congr _ fun j _ => by rw [Int.one_mul]
theorem exF_2 (xs : CL) (L : Int) (ts : List Int) (s : Int) (t : Nat) : (exF xs L ts s t).2.1 = sm (fun j => ((exf xs L).getD j (0, 0, ())).2.1 * sgA (sgL L ts s) ((t : Int) - j)) (most L).toNat := by
  unfold exF
  rw [trV_2, exf_len]
  exact sm_congr _ fun j _ => by rw [Int.one_mul]

theorem ufV_eq {ys : CL} {xs : CL} {L : Int} {ts : List Int} {s : Int} (m : Mx L ts s) (hy : lP ys = exL xs L ts s) {k : Nat} (hk : k < (most L).toNat) :
    ufV ys L ts s k = ((most L + 1) * ((exf xs L).getD k (0, 0, ())).1, (most L + 1) * ((exf xs L).getD k (0, 0, ())).2.1, ()) := by
  have hl : (exL xs L ts s).length = (most L).toNat := tab_len _ _
  have hg : ∀ t, t < (most L).toNat → (exL xs L ts s).getD t (0, 0, ()) = exF xs L ts s t := fun t ht => tab_get _ _ _ _ ht
  have a := back_sum m (fun j => ((exf xs L).getD j (0, 0, ())).1) hk
  have b := back_sum m (fun j => ((exf xs L).getD j (0, 0, ())).2.1) hk
  unfold ufV lessP
  rw [hy, hl, trV_1, trV_2, flV_1, flV_2]
  have e1 : sm (fun t => ((exL xs L ts s).getD t (0, 0, ())).1 * sgA (sgL L ts s) (-1 * ((k : Int) - t))) (most L).toNat = sm (fun t => sm (fun j => ((exf xs L).getD j (0, 0, ())).1 * sgA (sgL L ts s) ((t : Int) - j)) (most L).toNat * sgA (sgL L ts s) ((t : Int) - k)) (most L).toNat := sm_congr _ fun t ht => by
    rw [hg t ht, exF_1, show -1 * ((k : Int) - t) = (t : Int) - k by omega]
  have e2 : sm (fun t => ((exL xs L ts s).getD t (0, 0, ())).2.1 * sgA (sgL L ts s) (-1 * ((k : Int) - t))) (most L).toNat = sm (fun t => sm (fun j => ((exf xs L).getD j (0, 0, ())).2.1 * sgA (sgL L ts s) ((t : Int) - j)) (most L).toNat * sgA (sgL L ts s) ((t : Int) - k)) (most L).toNat := sm_congr _ fun t ht => by
    rw [hg t ht, exF_2, show -1 * ((k : Int) - t) = (t : Int) - k by omega]
  have e3 : sm (fun t => ((exL xs L ts s).getD t (0, 0, ())).1) (most L).toNat = sm (fun t => sm (fun j => ((exf xs L).getD j (0, 0, ())).1 * sgA (sgL L ts s) ((t : Int) - j)) (most L).toNat) (most L).toNat := sm_congr _ fun t ht => by
    rw [hg t ht, exF_1]
  have e4 : sm (fun t => ((exL xs L ts s).getD t (0, 0, ())).2.1) (most L).toNat = sm (fun t => sm (fun j => ((exf xs L).getD j (0, 0, ())).2.1 * sgA (sgL L ts s) ((t : Int) - j)) (most L).toNat) (most L).toNat := sm_congr _ fun t ht => by
    rw [hg t ht, exF_2]
  rw [e1, e2, e3, e4, a, b]

/-- What is excited, unfolded, is the response, folded. -/
theorem unfold_exact {ys xs : CL} {L : Int} {ts : List Int} {s : Int} (m : Mx L ts s) (h1 : lE ys = 0) (hy : lP ys = exL xs L ts s) (hf : allFit (exf xs L) = true) :
    ufE ys L ts s = 0 ∧ ufR ys L ts s = tL (exf xs L) := by
  have hp := m.pos
  have ho : opErr L ts s = 0 := by
    unfold opErr
    rw [if_pos m.hst.1]
    unfold stErr
    have h2 := m.hst.2.2.2
    have : s ≤ most L := by unfold most; omega
    simp only [m.hs, this, and_self, if_true]
  have hl : (ys.length : Int) = most L := by
    have a := lP_len h1
    have b : (exL xs L ts s).length = (most L).toNat := tab_len _ _
    rw [hy, b] at a; omega
  have hB : ufB ys L ts s = true := ufB_yes fun k hk => by
    rw [ufV_eq m hy hk]
    unfold dvB
    simp
  have hL : ufL ys L ts s = exf xs L := by
    unfold ufL
    refine Eq.trans (tab_congr _ fun k hk => ?_) (Eq.trans (congrArg (tab fun i => (exf xs L).getD i (0, 0, ())) (exf_len xs L).symm) (tab_getD (0, 0, ()) (exf xs L)))
    unfold ufQ
    rw [ufV_eq m hy hk]
    unfold qoP
    show ((most L + 1) * _ / (most L + 1), (most L + 1) * _ / (most L + 1), ()) = _
    rw [Int.mul_ediv_cancel_left _ (by omega), Int.mul_ediv_cancel_left _ (by omega)]
  constructor
  · unfold ufE
    rw [if_pos h1, if_pos ho, if_pos m.hM, if_pos hl, if_pos hB, hL]
    unfold tE; rw [if_pos hf]
  · unfold ufR
    rw [if_pos h1, if_pos ho, if_pos m.hM, if_pos hl, if_pos hB, hL]

/-! ### By transforms -/

/-- The transform of the signs. -/
def sgT (L : Int) (ts : List Int) (s w : Int) (k : Nat) : Int := sm (fun t => sgI L ts s t * w ^ (t * k)) (most L).toNat

theorem pow_turn {p v : Int} {n : Nat} (h : Cg p (v ^ n) 1) (u : Nat) : Cg p (v ^ (u % n)) (v ^ u) := pow_modN h u

/-- A sum over a whole turn, from any place on. -/
theorem turn_sum {p v : Int} {L : Int} {ts : List Int} {s : Int} (m : Mx L ts s) (hv : Cg p (v ^ (most L).toNat) 1) (a : Nat) :
    Cg p (sm (fun t => sgI L ts s (t + a) * v ^ (t + a)) (most L).toNat) (sm (fun t => sgI L ts s t * v ^ t) (most L).toNat) := by
  have h := sm_turn (f := fun u => sgI L ts s u * v ^ (u % (most L).toNat)) (n := (most L).toNat) (fun i => by
    show sgI L ts s (i + (most L).toNat) * v ^ ((i + (most L).toNat) % (most L).toNat) = _
    rw [sgI_turn m, Nat.add_mod_right]) a
  have e1 : Cg p (sm (fun t => sgI L ts s (t + a) * v ^ (t + a)) (most L).toNat) (sm (fun t => sgI L ts s (t + a) * v ^ ((t + a) % (most L).toNat)) (most L).toNat) :=
    Cg.sm _ fun t _ => (Cg.refl p _).mul (pow_turn hv (t + a)).symm
  have e2 : Cg p (sm (fun t => sgI L ts s t * v ^ (t % (most L).toNat)) (most L).toNat) (sm (fun t => sgI L ts s t * v ^ t) (most L).toNat) :=
    Cg.sm _ fun t _ => (Cg.refl p _).mul (pow_turn hv t)
  exact (e1.trans (by rw [← h]; exact Cg.refl p _)).trans e2

theorem pow_swap (w : Int) (t k : Nat) : w ^ (t * k) = (w ^ k) ^ t := by rw [Nat.mul_comm, Int.pow_mul]

theorem sgT_v (L : Int) (ts : List Int) (s w : Int) (k : Nat) : sgT L ts s w k = sm (fun t => sgI L ts s t * (w ^ k) ^ t) (most L).toNat :=
  sm_congr _ fun t _ => by rw [pow_swap]

/-- The transform of what is excited is the product of both transforms. -/
theorem conv {p w : Int} {L : Int} {ts : List Int} {s : Int} (m : Mx L ts s) (hw : Cg p (w ^ (most L).toNat) 1) (h : Nat → Int) (k : Nat) :
    Cg p (sm (fun t => sm (fun j => h j * sgA (sgL L ts s) ((t : Int) - j)) (most L).toNat * w ^ (t * k)) (most L).toNat) (sm (fun j => h j * w ^ (j * k)) (most L).toNat * sgT L ts s w k) := by
  have hv : Cg p ((w ^ k) ^ (most L).toNat) 1 := by
    rw [← Int.pow_mul, Nat.mul_comm]; exact pow_one_mul hw k
  have e1 : sm (fun t => sm (fun j => h j * sgA (sgL L ts s) ((t : Int) - j)) (most L).toNat * w ^ (t * k)) (most L).toNat = sm (fun j => h j * sm (fun t => sgA (sgL L ts s) ((t : Int) - j) * (w ^ k) ^ t) (most L).toNat) (most L).toNat := by
    have : ∀ t, t < (most L).toNat → sm (fun j => h j * sgA (sgL L ts s) ((t : Int) - j)) (most L).toNat * w ^ (t * k) = sm (fun j => h j * (sgA (sgL L ts s) ((t : Int) - j) * (w ^ k) ^ t)) (most L).toNat := fun t _ => by
      rw [Int.mul_comm, ← sm_mul]
      refine sm_congr _ fun j _ => ?_
      rw [Int.mul_comm, Int.mul_assoc, pow_swap]
    rw [sm_congr _ this, sm_comm]
    exact sm_congr _ fun j _ => sm_mul _ _ _
  have e2 : sm (fun j => h j * w ^ (j * k)) (most L).toNat * sgT L ts s w k = sm (fun j => h j * ((w ^ k) ^ j * sgT L ts s w k)) (most L).toNat := by
    rw [Int.mul_comm, ← sm_mul]
    refine sm_congr _ fun j _ => ?_
    rw [pow_swap, Int.mul_comm, Int.mul_assoc]
  rw [e1, e2]
  refine Cg.sm _ fun j hj => (Cg.refl p _).mul ?_
  have e3 : sm (fun t => sgA (sgL L ts s) ((t : Int) - j) * (w ^ k) ^ t) (most L).toNat = sm (fun t => sgI L ts s (t + ((most L).toNat - j)) * (w ^ k) ^ t) (most L).toNat := sm_congr _ fun t _ => by rw [sgA_diff m (Nat.le_of_lt hj)]
  rw [e3]
  have e4 := turn_sum m hv ((most L).toNat - j)
  rw [← sgT_v] at e4
  have e5 := (Cg.refl p ((w ^ k) ^ j)).mul e4
  refine Cg.trans ?_ e5
  rw [← sm_mul]
  refine Cg.sm _ fun t _ => ?_
  have e6 : (w ^ k) ^ j * (sgI L ts s (t + ((most L).toNat - j)) * (w ^ k) ^ (t + ((most L).toNat - j))) = sgI L ts s (t + ((most L).toNat - j)) * ((w ^ k) ^ t * (w ^ k) ^ (most L).toNat) := by
    have : (w ^ k) ^ j * (w ^ k) ^ (t + ((most L).toNat - j)) = (w ^ k) ^ t * (w ^ k) ^ (most L).toNat := by
      rw [← Int.pow_add, ← Int.pow_add, show j + (t + ((most L).toNat - j)) = t + (most L).toNat by omega]
    rw [← this]; grind
  rw [e6]
  have := (Cg.refl p ((w ^ k) ^ t)).mul hv
  rw [Int.mul_one] at this
  exact (Cg.refl p _).mul this.symm

/-- No transform of the signs is divided by the prime. -/
theorem sgT_unit {p w : Int} {L : Int} {ts : List Int} {s : Int} (m : Mx L ts s) (hp : Pr p) (hw : Cg p (w ^ (most L).toNat) 1) (hlt : most L + 1 < p) (k : Nat) : ¬ p ∣ sgT L ts s w k := by
  have hpos := m.pos
  have hv : Cg p ((w ^ k) ^ (most L).toNat) 1 := by
    rw [← Int.pow_mul, Nat.mul_comm]; exact pow_one_mul hw k
  rw [sgT_v]
  generalize w ^ k = v at *
  intro hd
  have hA : Cg p (sm (fun t => sgI L ts s t * v ^ t) (most L).toNat) 0 := cg_zero.2 hd
  -- times the transform at the opposite place
  have key : Cg p (sm (fun r => sgI L ts s r * v ^ (((most L).toNat - 1) * r) * sm (fun t => sgI L ts s t * v ^ t) (most L).toNat) (most L).toNat) (sm (fun c => (if c = 0 then most L else -1) * v ^ c) (most L).toNat) := by
    have e1 : Cg p (sm (fun r => sgI L ts s r * v ^ (((most L).toNat - 1) * r) * sm (fun t => sgI L ts s t * v ^ t) (most L).toNat) (most L).toNat) (sm (fun r => sgI L ts s r * v ^ (((most L).toNat - 1) * r) * sm (fun t => sgI L ts s (t + r) * v ^ (t + r)) (most L).toNat) (most L).toNat) :=
      Cg.sm _ fun r _ => (Cg.refl p _).mul (turn_sum m hv r).symm
    refine e1.trans ?_
    have e2 : ∀ r, r < (most L).toNat → sgI L ts s r * v ^ (((most L).toNat - 1) * r) * sm (fun t => sgI L ts s (t + r) * v ^ (t + r)) (most L).toNat = sm (fun t => sgI L ts s r * sgI L ts s (t + r) * v ^ t * v ^ ((most L).toNat * r)) (most L).toNat := fun r _ => by
      rw [← sm_mul]
      refine sm_congr _ fun t _ => ?_
      have : v ^ (((most L).toNat - 1) * r) * v ^ (t + r) = v ^ t * v ^ ((most L).toNat * r) := by
        rw [← Int.pow_add, ← Int.pow_add]
        have h1 : (most L).toNat * r = ((most L).toNat - 1) * r + r := by
          rw [← Nat.succ_mul]; congr 1; omega
        rw [h1]; congr 1; omega
      have h2 : sgI L ts s r * v ^ (((most L).toNat - 1) * r) * (sgI L ts s (t + r) * v ^ (t + r)) = sgI L ts s r * sgI L ts s (t + r) * (v ^ (((most L).toNat - 1) * r) * v ^ (t + r)) := by grind
      rw [h2, this]; grind
    rw [sm_congr _ e2]
    have e3 : Cg p (sm (fun r => sm (fun t => sgI L ts s r * sgI L ts s (t + r) * v ^ t * v ^ ((most L).toNat * r)) (most L).toNat) (most L).toNat) (sm (fun r => sm (fun t => sgI L ts s r * sgI L ts s (t + r) * v ^ t) (most L).toNat) (most L).toNat) :=
      Cg.sm _ fun r _ => Cg.sm _ fun t _ => by
        have := (Cg.refl p (sgI L ts s r * sgI L ts s (t + r) * v ^ t)).mul (pow_one_mul hv r)
        rwa [Int.mul_one] at this
    refine e3.trans ?_
    rw [sm_comm]
    refine Cg.sm _ fun t ht => ?_
    have e4 : sm (fun r => sgI L ts s r * sgI L ts s (t + r) * v ^ t) (most L).toNat = (if t = 0 then most L else -1) * v ^ t := by
      have e5 : sm (fun r => sgI L ts s r * sgI L ts s (t + r) * v ^ t) (most L).toNat = v ^ t * sm (fun r => sgI L ts s (r + 0) * sgI L ts s (r + t)) (most L).toNat := by
        rw [← sm_mul]
        refine sm_congr _ fun r _ => ?_
        rw [Nat.add_zero, Nat.add_comm t r]; grind
      rw [e5, cor_le m (Nat.zero_le t) (by omega), Int.mul_comm]
      by_cases h : t = 0
      · rw [if_pos h, if_pos h.symm]
      · rw [if_neg h, if_neg (fun e => h e.symm)]
    rw [e4]; exact Cg.refl p _
  have hz : Cg p (sm (fun r => sgI L ts s r * v ^ (((most L).toNat - 1) * r) * sm (fun t => sgI L ts s t * v ^ t) (most L).toNat) (most L).toNat) 0 := by
    have := Cg.sm (f := fun r => sgI L ts s r * v ^ (((most L).toNat - 1) * r) * sm (fun t => sgI L ts s t * v ^ t) (most L).toNat) (g := fun _ => 0) (p := p) (most L).toNat fun r _ => by
      have := (Cg.refl p (sgI L ts s r * v ^ (((most L).toNat - 1) * r))).mul hA
      rwa [Int.mul_zero] at this
    rwa [sm_const, Int.mul_zero] at this
  have e6 : sm (fun c => (if c = 0 then most L else -1) * v ^ c) (most L).toNat = (most L + 1) - sm (fun c => v ^ c) (most L).toNat := by
    have h := sm_pick (most L) (-1) (fun c => v ^ c) 0 (most L).toNat
    rw [if_pos (by omega), Int.pow_zero] at h
    rw [sm_congr _ fun c _ => Int.mul_comm (if c = 0 then most L else -1) (v ^ c), h]
    omega
  rw [e6] at key
  have hfin := key.symm.trans hz
  by_cases h1 : Cg p v 1
  · have e7 : Cg p (sm (fun c => v ^ c) (most L).toNat) (most L) := by
      have := Cg.sm (f := fun c => v ^ c) (g := fun _ => 1) (p := p) (most L).toNat fun c _ => by
        have := h1.pow c
        rwa [Int.one_pow] at this
      rw [sm_const, Int.mul_one] at this
      rwa [show ((most L).toNat : Int) = most L by omega] at this
    have e8 := ((Cg.refl p (most L + 1)).sub e7).symm.trans hfin
    rw [show most L + 1 - most L = 1 by omega] at e8
    exact pr_small (p := p) (a := 1) (by omega) (by omega) (cg_zero.1 e8)
  · have e7 := geo_zero hp hv h1
    have e8 := ((Cg.refl p (most L + 1)).sub e7).symm.trans hfin
    rw [Int.sub_zero] at e8
    exact pr_small (p := p) (a := most L + 1) (by omega) hlt (cg_zero.1 e8)

end Go.Eng.Pu

namespace Go.Eng.Pu
open Go.Eng Go.Proofs
set_option linter.all false
set_option maxRecDepth 100000
set_option maxHeartbeats 8000000

/-! ### Sums of powers of all numbers -/

theorem ch_last : ∀ n : Nat, ch (n + 1) n = n + 1
  | 0 => rfl
  | n + 1 => by
    have e : ch (n + 1 + 1) (n + 1) = ch (n + 1) n + ch (n + 1) (n + 1) := rfl
    rw [e, ch_last n, ch_self]; omega

def pS (P k : Nat) : Int := sm (fun x => (x : Int) ^ k) P

theorem sm_tele (f : Nat → Int) : ∀ n : Nat, sm (fun x => f (x + 1) - f x) n = f n - f 0
  | 0 => by show (0 : Int) = f 0 - f 0; omega
  | n + 1 => by
    have e : sm (fun x => f (x + 1) - f x) (n + 1) = sm (fun x => f (x + 1) - f x) n + (f (n + 1) - f n) := rfl
    rw [e, sm_tele f n]; omega

theorem pS_sum (P d : Nat) : sm (fun k => ch (d + 1) k * pS P k) (d + 1) = (P : Int) ^ (d + 1) := by
  have h1 : ∀ x : Nat, ((x + 1 : Nat) : Int) ^ (d + 1) - (x : Int) ^ (d + 1) = sm (fun k => ch (d + 1) k * (x : Int) ^ k) (d + 1) := by
    intro x
    rw [show ((x + 1 : Nat) : Int) = (x : Int) + 1 by omega, binom]
    have e : sm (fun k => ch (d + 1) k * (x : Int) ^ k) (d + 1 + 1) = sm (fun k => ch (d + 1) k * (x : Int) ^ k) (d + 1) + ch (d + 1) (d + 1) * (x : Int) ^ (d + 1) := rfl
    rw [e, ch_self]; omega
  have h2 := sm_tele (fun x => (x : Int) ^ (d + 1)) P
  have h3 : sm (fun x => ((x + 1 : Nat) : Int) ^ (d + 1) - (x : Int) ^ (d + 1)) P = sm (fun k => ch (d + 1) k * pS P k) (d + 1) := by
    rw [sm_congr P fun x _ => h1 x, sm_comm]
    refine sm_congr (d + 1) fun k _ => ?_
    exact sm_mul _ _ _
  rw [← h3]
  refine h2.trans ?_
  show (P : Int) ^ (d + 1) - ((0 : Nat) : Int) ^ (d + 1) = _
  rw [Int.pow_succ ((0 : Nat) : Int)]; simp

theorem pS_zero {p : Int} (hp : Pr p) : ∀ d : Nat, (d : Int) + 1 < p → Cg p (pS p.toNat d) 0 := by
  have h2 := hp.1
  intro d
  induction d using Nat.strongRecOn with
  | _ d ih =>
    intro hd
    have h1 := pS_sum p.toNat d
    have e : sm (fun k => ch (d + 1) k * pS p.toNat k) (d + 1) = sm (fun k => ch (d + 1) k * pS p.toNat k) d + ch (d + 1) d * pS p.toNat d := rfl
    rw [e, ch_last] at h1
    have h3 : Cg p (sm (fun k => ch (d + 1) k * pS p.toNat k) d) (sm (fun _ => 0) d) := Cg.sm d fun k hk => by
      have := (Cg.refl p (ch (d + 1) k)).mul (ih k hk (by omega))
      rwa [Int.mul_zero] at this
    rw [sm_const, Int.mul_zero] at h3
    have h4 : Cg p ((p.toNat : Int) ^ (d + 1)) 0 := by
      rw [show (p.toNat : Int) = p by omega, Int.pow_succ]
      exact cg_zero.2 (Int.dvd_mul_left _ _)
    have h5 : Cg p (((d : Int) + 1) * pS p.toNat d) 0 := by
      have a := h3.add (Cg.refl p (((d : Int) + 1) * pS p.toNat d))
      rw [h1, Int.zero_add] at a
      exact a.symm.trans h4
    exact cg_zero.2 ((pr_mul hp (cg_zero.1 h5)).resolve_left (pr_small (by omega) (by omega)))

/-- Some number has another power than 1. -/
theorem not_all_one {p : Int} (hp : Pr p) {d : Nat} (h0 : 0 < d) (hd : (d : Int) + 1 < p) : ∃ x : Int, 1 ≤ x ∧ x < p ∧ ¬ Cg p (x ^ d) 1 := by
  have h2 := hp.1
  apply Classical.byContradiction
  intro hn
  have hall : ∀ x : Nat, 1 ≤ x → (x : Int) < p → Cg p ((x : Int) ^ d) 1 := by
    intro x h1 h3
    apply Classical.byContradiction
    intro h4
    exact hn ⟨x, by omega, h3, h4⟩
  have key : ∀ m : Nat, (m : Int) + 1 ≤ p → Cg p (sm (fun x => (x : Int) ^ d) (m + 1)) m := by
    intro m
    induction m with
    | zero =>
      intro _
      show Cg p (0 + ((0 : Nat) : Int) ^ d) 0
      obtain ⟨e, rfl⟩ : ∃ e, d = e + 1 := ⟨d - 1, by omega⟩
      rw [Int.pow_succ]; simp [Cg]
    | succ m ih =>
      intro hm
      have a := (ih (by omega)).add (hall (m + 1) (by omega) (by omega))
      have e : sm (fun x => (x : Int) ^ d) (m + 1 + 1) = sm (fun x => (x : Int) ^ d) (m + 1) + ((m + 1 : Nat) : Int) ^ d := rfl
      rw [e, show ((m + 1 : Nat) : Int) = (m : Int) + 1 by omega]
      exact a
  have h := key (p.toNat - 1) (by omega)
  rw [show p.toNat - 1 + 1 = p.toNat by omega] at h
  have hz := pS_zero hp d hd
  have h3 := hz.symm.trans h
  have h4 : p ∣ 0 - ((p.toNat - 1 : Nat) : Int) := cg_dvd.1 h3
  have h5 : p ∣ ((p.toNat - 1 : Nat) : Int) := by
    obtain ⟨c, hc⟩ := h4
    exact ⟨-c, by rw [Int.mul_neg]; omega⟩
  exact pr_small (by omega) (by omega) h5

theorem pow_gcd {p z : Int} : ∀ a b : Nat, Cg p (z ^ a) 1 → Cg p (z ^ b) 1 → Cg p (z ^ Nat.gcd a b) 1 := by
  intro a b
  induction a, b using Nat.gcd.induction with
  | H0 n => intro _ h; rw [Nat.gcd_zero_left]; exact h
  | H1 m n hm ih =>
    intro h1 h2
    rw [Nat.gcd_rec]
    exact ih ((pow_modN h1 n).trans h2) h1

theorem out_power {q : Nat} (hq : 2 ≤ q) : ∀ (b N : Nat), N ≤ b → 1 ≤ N → ∃ e m : Nat, N = q ^ e * m ∧ ¬ q ∣ m
  | 0, N, h, h1 => by omega
  | b + 1, N, h, h1 => by
    by_cases hd : q ∣ N
    · obtain ⟨c, hc⟩ := hd
      have hc1 : 1 ≤ c := by
        rcases Nat.eq_zero_or_pos c with h0 | h0
        · rw [h0] at hc; omega
        · exact h0
      have hlt : c < N := by
        have : 2 * c ≤ q * c := Nat.mul_le_mul_right c hq
        omega
      obtain ⟨e, m, h2, h3⟩ := out_power hq b c (by omega) hc1
      refine ⟨e + 1, m, ?_, h3⟩
      rw [hc, h2, Nat.pow_succ]
      rw [Nat.mul_comm (q ^ e) q, Nat.mul_assoc]
    · exact ⟨0, N, by simp, hd⟩

/-- For one prime divisor q of p - 1: a number that is no power with exponent q, but one for all others. -/
theorem one_prime {p : Int} (hp : Pr p) {N q : Nat} (hN : (N : Int) + 1 = p) (hq : Pr q) (hd : q ∣ N) : ∃ y : Int, ¬ p ∣ y ∧ ¬ Cg p (y ^ (N / q)) 1 ∧ ∀ r : Nat, Pr r → r ≠ q → r ∣ N → Cg p (y ^ (N / r)) 1 := by
  have h2 := hp.1
  have hq2 := hq.1
  have hqN := Nat.le_of_dvd (by omega) hd
  have hq0 : 0 < q := by omega
  obtain ⟨c, hc⟩ := hd
  have hdiv : N / q = c := by rw [hc]; exact Nat.mul_div_cancel_left c hq0
  have hc1 : 1 ≤ c := by
    rcases Nat.eq_zero_or_pos c with h0 | h0
    · rw [h0] at hc; omega
    · exact h0
  have hc2 : 2 * c ≤ N := by rw [hc]; exact Nat.mul_le_mul_right c (by omega)
  obtain ⟨x, x1, x2, x3⟩ := not_all_one hp (d := c) hc1 (by omega)
  have hx : ¬ p ∣ x := pr_small (by omega) x2
  have hfx : Cg p (x ^ N) 1 := by
    have := fermat hp hx
    rwa [show (p - 1).toNat = N by omega] at this
  obtain ⟨e, m, hm, hqm⟩ := out_power (q := q) (by omega) N N (Nat.le_refl _) (by omega)
  have hnd : ∀ k : Nat, ¬ p ∣ x ^ k := by
    intro k
    induction k with
    | zero => rw [Int.pow_zero]; exact pr_small (by omega) (by omega)
    | succ k ih => rw [Int.pow_succ]; exact fun h => (pr_mul hp h).elim ih hx
  refine ⟨x ^ m, hnd m, ?_, ?_⟩
  · rw [hdiv]
    intro h
    have hz1 : Cg p ((x ^ c) ^ m) 1 := by
      rw [← Int.pow_mul, Nat.mul_comm, Int.pow_mul]; exact h
    have hz2 : Cg p ((x ^ c) ^ q) 1 := by
      rw [← Int.pow_mul, Nat.mul_comm, ← hc]; exact hfx
    have hg := pow_gcd q m hz2 hz1
    have hcop : Nat.gcd q m = 1 := by
      have := pr_cop hq (a := (m : Int)) (fun hh => hqm (Int.ofNat_dvd.1 hh))
      simpa [Nat.Coprime] using this
    rw [hcop, Int.pow_one] at hg
    exact x3 hg
  · intro r hr hne hrN
    have hrm : r ∣ m := by
      have h1 : (r : Int) ∣ ((q ^ e * m : Nat) : Int) := by rw [← hm]; exact Int.ofNat_dvd.2 hrN
      rw [Int.natCast_mul] at h1
      rcases pr_mul hr h1 with h3 | h3
      · exfalso
        have h4 : (r : Int) ∣ (q : Int) := by
          rw [Int.natCast_pow] at h3
          generalize e = e' at h3
          induction e' with
          | zero =>
            rw [Int.pow_zero] at h3
            exact absurd h3 (pr_small (by omega) (by have := hr.1; omega))
          | succ e' ih =>
            rw [Int.pow_succ] at h3
            exact (pr_mul hr h3).elim ih id
        have h5 := Int.le_of_dvd (by omega) h4
        have h6 := hr.1
        by_cases h7 : r < q
        · exact hq.2 r (by omega) (by omega) (Int.emod_eq_zero_of_dvd h4)
        · omega
      · exact Int.ofNat_dvd.1 h3
    obtain ⟨m', hm'⟩ := hrm
    obtain ⟨c', hc'⟩ := hrN
    have hr0 : 0 < r := by have := hr.1; omega
    have e1 : N / r = c' := by rw [hc']; exact Nat.mul_div_cancel_left c' hr0
    rw [e1, ← Int.pow_mul]
    have e2 : m * c' = N * m' := by
      rw [hm', hc', Nat.mul_assoc, Nat.mul_assoc, Nat.mul_comm m' c']
    rw [e2]
    exact pow_one_mul hfx m'

/-- For a list of prime divisors of p - 1. -/
theorem all_primes {p : Int} (hp : Pr p) {N : Nat} (hN : (N : Int) + 1 = p) : ∀ qs : List Nat, (∀ q ∈ qs, Pr q ∧ q ∣ N) → ∃ g : Int, ¬ p ∣ g ∧ ∀ q ∈ qs, ¬ Cg p (g ^ (N / q)) 1
  | [], _ => ⟨1, pr_small (by omega) (by have := hp.1; omega), fun q hq => by cases hq⟩
  | q :: qs, h => by
    obtain ⟨g, g1, g2⟩ := all_primes hp hN qs fun r hr => h r (List.mem_cons_of_mem _ hr)
    obtain ⟨hq, hqN⟩ := h q (List.mem_cons_self ..)
    by_cases hg : Cg p (g ^ (N / q)) 1
    · obtain ⟨y, y1, y2, y3⟩ := one_prime hp hN hq hqN
      refine ⟨g * y, fun hd => (pr_mul hp hd).elim g1 y1, fun r hr => ?_⟩
      rw [Int.mul_pow]
      by_cases hrq : r = q
      · rw [hrq]
        intro hh
        have a := hg.mul (Cg.refl p (y ^ (N / q)))
        rw [Int.one_mul] at a
        exact y2 (a.symm.trans hh)
      · have hr' : r ∈ qs := by
          rcases List.mem_cons.1 hr with h1 | h1
          · exact absurd h1 hrq
          · exact h1
        obtain ⟨hrp, hrN⟩ := h r hr
        intro hh
        have a := (Cg.refl p (g ^ (N / r))).mul (y3 r hrp hrq hrN)
        rw [Int.mul_one] at a
        exact g2 r hr' (a.symm.trans hh)
    · refine ⟨g, g1, fun r hr => ?_⟩
      rcases List.mem_cons.1 hr with h1 | h1
      · rw [h1]; exact hg
      · exact g2 r h1

/-! ### What is found divides, and is prime -/

theorem rs_dvd {n : Int} : ∀ k : Nat, (rs n k).1 ∣ n
  | 0 => Int.dvd_refl n
  | k + 1 => Int.dvd_trans (strip_dvd _ _ _) (rs_dvd k)

theorem rs_mem {n : Int} (h1 : 1 ≤ n) (h2 : n ≤ 2000) : ∀ k : Nat, ∀ q ∈ (rs n k).2, Pr q ∧ q ∣ n
  | 0, q, hq => by cases hq
  | k + 1, q, hq => by
    have e2 : (rs n (k + 1)).2 = if (rs n k).1 % (k + 2 : Int) = 0 then (rs n k).2 ++ [(k + 2 : Int)] else (rs n k).2 := rfl
    rw [e2] at hq
    split at hq
    · rename_i hz
      rcases List.mem_append.1 hq with h | h
      · exact rs_mem h1 h2 k q h
      · rw [List.mem_singleton.1 h]
        have hd := Int.dvd_of_emod_eq_zero hz
        refine ⟨⟨by omega, fun d hd1 hd2 hd3 => ?_⟩, Int.dvd_trans hd (rs_dvd k)⟩
        exact rs_not h1 h2 k d hd1 hd2 (Int.emod_eq_zero_of_dvd (Int.dvd_trans (Int.dvd_of_emod_eq_zero hd3) hd))
    · exact rs_mem h1 h2 k q hq

theorem prO_pr {n : Int} (h1 : 1 ≤ n) (h2 : n ≤ 2000) : ∀ q ∈ prO n, Pr q ∧ q ∣ n := by
  intro q hq
  unfold prO at hq
  split at hq
  · rename_i hr
    rcases List.mem_append.1 hq with h | h
    · exact rs_mem h1 h2 _ q h
    · rw [List.mem_singleton.1 h]
      exact ⟨⟨by omega, left_pr h1 h2⟩, rs_dvd _⟩
  · exact rs_mem h1 h2 _ q hq

theorem rtE_mk {p w n : Int} : ∀ (m i : Nat), (∀ j, i ≤ j → j < i + m → ¬ pw w (n / (prO n).getD j 0) p = 1) → rtE p w n m i = true
  | 0, i, _ => rfl
  | m + 1, i, h => by
    rw [rtE, if_neg (h i (by omega) (by omega))]
    exact rtE_mk m (i + 1) fun j h1 h2 => h j (by omega) (by omega)

/-- A generator. -/
theorem gen_ex {p n : Int} (hp : Pr p) (h1 : 1 ≤ n) (h2 : n ≤ 1024) (hd : (p - 1) % n = 0) : ∃ g : Int, 1 ≤ g ∧ g < p ∧ rootB p (pw g ((p - 1) / n) p) n = true := by
  have hp2 := hp.1
  have hpr := prO_pr h1 (show n ≤ 2000 by omega)
  have hn : n * ((p - 1) / n) = p - 1 := by
    have := Int.mul_ediv_add_emod (p - 1) n
    rw [hd, Int.add_zero] at this
    exact this
  have hk0 : 0 ≤ (p - 1) / n := Int.ediv_nonneg (by omega) (by omega)
  have hN : (((p - 1).toNat : Nat) : Int) + 1 = p := by omega
  obtain ⟨g, g1, g2⟩ := all_primes hp hN ((prO n).map Int.toNat) fun q hq => by
    obtain ⟨r, hr, rfl⟩ := List.mem_map.1 hq
    obtain ⟨a, b⟩ := hpr r hr
    have ha := a.1
    have e : ((r.toNat : Nat) : Int) = r := by omega
    refine ⟨by rw [e]; exact a, Int.ofNat_dvd.1 ?_⟩
    rw [e, show (((p - 1).toNat : Nat) : Int) = p - 1 by omega, ← hn]
    exact Int.dvd_mul_of_dvd_left b
  have hgm := em_in hp2 g
  have hg0 : g % p ≠ 0 := fun h => g1 (Int.dvd_of_emod_eq_zero h)
  refine ⟨g % p, by omega, hgm.2, ?_⟩
  have hcg : ∀ k : Nat, Cg p ((g % p) ^ k) (g ^ k) := fun k => (Cg.mod p g).pow k
  have hpw : ∀ e : Int, Cg p (pw (g % p) ((p - 1) / n) p ^ e.toNat) (g ^ (((p - 1) / n).toNat * e.toNat)) := fun e => by
    rw [Int.pow_mul]
    exact ((Cg.mod p _).trans (hcg _)).pow _
  unfold rootB
  rw [Bool.and_eq_true]
  constructor
  · refine decide_eq_true ((pw_one hp2 _ _).2 ((hpw n).trans ?_))
    have e : ((p - 1) / n).toNat * n.toNat = (p - 1).toNat := by
      have : (((p - 1) / n).toNat * n.toNat : Nat) = (((p - 1).toNat : Nat)) := by
        apply Int.ofNat_inj.1
        rw [Int.natCast_mul, show (((p - 1) / n).toNat : Int) = (p - 1) / n by omega, show (n.toNat : Int) = n by omega, Int.mul_comm, hn]
        omega
      exact this
    rw [e]
    exact fermat hp g1
  · refine rtE_mk _ _ fun j _ hj => ?_
    have hj : j < (prO n).length := by omega
    have hm := getD_mem (d := 0) hj
    generalize (prO n).getD j 0 = q at hm
    obtain ⟨a, b⟩ := hpr q hm
    have ha := a.1
    rw [pw_one hp2]
    intro h
    have h := (hpw (n / q)).symm.trans h
    refine g2 q.toNat (List.mem_map.2 ⟨q, hm, rfl⟩) ?_
    obtain ⟨c, hc⟩ := b
    have hcq : n / q = c := by rw [hc]; exact Int.mul_ediv_cancel_left c (by omega)
    have hc0 : 0 ≤ c := by rw [← hcq]; exact Int.ediv_nonneg (by omega) (by omega)
    have e : ((p - 1) / n).toNat * (n / q).toNat = (p - 1).toNat / q.toNat := by
      rw [hcq]
      symm
      apply Nat.div_eq_of_eq_mul_right (by omega)
      apply Int.ofNat_inj.1
      rw [Int.natCast_mul, Int.natCast_mul, show (((p - 1) / n).toNat : Int) = (p - 1) / n by omega, show (q.toNat : Int) = q by omega, show (c.toNat : Int) = c by omega, show (((p - 1).toNat : Nat) : Int) = p - 1 by omega, ← hn, Int.mul_ediv_cancel_left _ (show n ≠ 0 by omega)]
      rw [show q * ((p - 1) / n * c) = q * c * ((p - 1) / n) by grind, ← hc]
    rw [e] at h
    exact h

end Go.Eng.Pu

namespace Go.Eng.Pu
open Go.Eng Go.Proofs
set_option linter.all false
set_option maxRecDepth 100000
set_option maxHeartbeats 8000000

/-- The least number of a kind. -/
noncomputable def least (P : Nat → Prop) : Nat := @dite _ (∃ k, P k ∧ ∀ j, j < k → ¬ P j) (Classical.propDecidable _) (fun h => Classical.choose h) (fun _ => 0)

theorem least_eq {P : Nat → Prop} {k : Nat} (h : P k) (hl : ∀ j, j < k → ¬ P j) : least P = k := by
  have hex : ∃ k, P k ∧ ∀ j, j < k → ¬ P j := ⟨k, h, hl⟩
  unfold least
  rw [dif_pos hex]
  obtain ⟨h1, h2⟩ := Classical.choose_spec hex
  by_cases a : Classical.choose hex < k
  · exact absurd h1 (hl _ a)
  · by_cases b : k < Classical.choose hex
    · exact absurd h (h2 _ b)
    · omega

/-- The first number from lo on that is 1 more than a multiple of n, and those behind it. -/
def fp0 (n lo : Int) : Int := lo + (1 - lo) % n
def fpK (n lo : Int) (k : Nat) : Int := fp0 n lo + k * n
def fpOn (n lo : Int) (k : Nat) : Prop := fpK n lo k ≤ 2147483647 ∧ isP (fpK n lo k) = false
noncomputable def fP (n lo : Int) : Int := fpK n lo (least fun k => ¬ fpOn n lo k)
/-- The root of the number g + 1. -/
def gW (p n : Int) (g : Nat) : Int := pw ((g : Int) + 1) ((p - 1) / n) p
noncomputable def fW (p n : Int) : Int := gW p n (least fun g => rootB p (gW p n g) n = true)
def gR (p n : Int) : Nat → Int
  | 0 => 1
  | k + 1 => gW p n k

noncomputable def foE (n lo : Int) : Int := if (1 ≤ n ∧ n ≤ 1024) ∧ (2 ≤ lo ∧ lo ≤ 2147483647) then (if fP n lo ≤ 2147483647 then 0 else 12) else 2
noncomputable def foP (n lo : Int) : Int := if foE n lo = 0 then fP n lo else 0
noncomputable def foW (n lo : Int) : Int := if foE n lo = 0 then fW (fP n lo) n else 0
noncomputable def foN (n lo : Int) : Int := if foE n lo = 0 then n else 0

theorem fpK_in {n lo : Int} (h1 : 1 ≤ n) (h2 : n ≤ 1024) (h3 : 2 ≤ lo) (h4 : lo ≤ 2147483647) : ∀ k : Nat, (∀ j, j < k → fpOn n lo j) → 2 ≤ fpK n lo k ∧ fpK n lo k ≤ 2147484672 ∧ (k : Int) ≤ fpK n lo k
  | 0, _ => by
    have := Int.emod_nonneg (1 - lo) (show n ≠ 0 by omega)
    have := Int.emod_lt_of_pos (1 - lo) (show 0 < n by omega)
    unfold fpK fp0
    omega
  | k + 1, h => by
    have a := fpK_in h1 h2 h3 h4 k fun j hj => h j (by omega)
    have b := (h k (by omega)).1
    have e : fpK n lo (k + 1) = fpK n lo k + n := by unfold fpK; rw [show ((k + 1 : Nat) : Int) = (k : Int) + 1 by omega, Int.add_mul]; omega
    omega

theorem fpK_step (n lo : Int) (k : Nat) : fpK n lo (k + 1) = fpK n lo k + n := by
  unfold fpK; rw [show ((k + 1 : Nat) : Int) = (k : Int) + 1 by omega, Int.add_mul]; omega

theorem fpK_mod {n lo : Int} (h1 : 1 ≤ n) (k : Nat) : (fpK n lo k - 1) % n = 0 := by
  apply Int.emod_eq_zero_of_dvd
  have e := Int.mul_ediv_add_emod (1 - lo) n
  refine ⟨k - (1 - lo) / n, ?_⟩
  unfold fpK fp0
  rw [Int.mul_sub, Int.mul_comm n k]
  omega

theorem ceil_eq {n lo : Int} (h1 : 1 ≤ n) : -(-(lo - 1) / n) * n + 1 = fp0 n lo := by
  unfold fp0
  have e := Int.mul_ediv_add_emod (1 - lo) n
  rw [show -(lo - 1) = 1 - lo by omega, Int.neg_mul, Int.mul_comm]
  omega

theorem fp0_eq (n lo : Int) : fpK n lo 0 = lo + (1 - lo) % n := by
  unfold fpK fp0; simp

theorem fP_eq {n lo : Int} {k : Nat} (h : ¬ fpOn n lo k) (hl : ∀ j, j < k → fpOn n lo j) : fP n lo = fpK n lo k := by
  unfold fP
  rw [least_eq (k := k) h fun j hj hn => hn (hl j hj)]

theorem gen_k {p n : Int} (hp : Pr p) (h1 : 1 ≤ n) (h2 : n ≤ 1024) (hd : (p - 1) % n = 0) : ∃ g : Nat, (g : Int) + 1 < p ∧ rootB p (gW p n g) n = true := by
  obtain ⟨g, g1, g2, g3⟩ := gen_ex hp h1 h2 hd
  refine ⟨(g - 1).toNat, by omega, ?_⟩
  unfold gW
  rw [show (((g - 1).toNat : Nat) : Int) + 1 = g by omega]
  exact g3

theorem gen_le {p n : Int} (hp : Pr p) (h1 : 1 ≤ n) (h2 : n ≤ 1024) (hd : (p - 1) % n = 0) {k : Nat} (hk : ∀ j, j < k → ¬ rootB p (gW p n j) n = true) : (k : Int) + 1 < p := by
  obtain ⟨g, g1, g2⟩ := gen_k hp h1 h2 hd
  by_cases h : g < k
  · exact absurd g2 (hk g h)
  · omega

theorem fW_eq {p n : Int} {k : Nat} (h : rootB p (gW p n k) n = true) (hk : ∀ j, j < k → ¬ rootB p (gW p n j) n = true) : fW p n = gW p n k := by
  unfold fW
  rw [least_eq (k := k) h hk]

/-- Found. -/
theorem fo_yes {n lo : Int} {k g : Nat} (hr : (1 ≤ n ∧ n ≤ 1024) ∧ (2 ≤ lo ∧ lo ≤ 2147483647)) (hl : ∀ j, j < k → fpOn n lo j) (hk : fpK n lo k ≤ 2147483647) (hp : isP (fpK n lo k) = true) (hg : rootB (fpK n lo k) (gW (fpK n lo k) n g) n = true) (hgl : ∀ j, j < g → ¬ rootB (fpK n lo k) (gW (fpK n lo k) n j) n = true) : foE n lo = 0 ∧ foP n lo = fpK n lo k ∧ foW n lo = gW (fpK n lo k) n g ∧ foN n lo = n := by
  have hf : fP n lo = fpK n lo k := fP_eq (fun h => by have h2 := h.2; rw [hp] at h2; cases h2) hl
  have he : foE n lo = 0 := by unfold foE; rw [if_pos hr, hf, if_pos hk]
  refine ⟨he, ?_, ?_, ?_⟩
  · unfold foP; rw [if_pos he, hf]
  · unfold foW; rw [if_pos he, hf, fW_eq hg hgl]
  · unfold foN; rw [if_pos he]

theorem fo_err {n lo e : Int} (h : foE n lo = e) (h0 : e ≠ 0) : foP n lo = 0 ∧ foW n lo = 0 ∧ foN n lo = 0 := by
  have hn : ¬ foE n lo = 0 := by rw [h]; exact h0
  refine ⟨?_, ?_, ?_⟩
  · unfold foP; rw [if_neg hn]
  · unfold foW; rw [if_neg hn]
  · unfold foN; rw [if_neg hn]

theorem fo_no {n lo : Int} {k : Nat} (hr : (1 ≤ n ∧ n ≤ 1024) ∧ (2 ≤ lo ∧ lo ≤ 2147483647)) (hl : ∀ j, j < k → fpOn n lo j) (hk : 2147483647 < fpK n lo k) : foE n lo = 12 := by
  have hf : fP n lo = fpK n lo k := fP_eq (fun h => by have := h.1; omega) hl
  unfold foE; rw [if_pos hr, hf, if_neg (by omega)]

theorem fo_bad {n lo : Int} (hr : ¬ ((1 ≤ n ∧ n ≤ 1024) ∧ (2 ≤ lo ∧ lo ≤ 2147483647))) : foE n lo = 2 := by
  unfold foE; rw [if_neg hr]

theorem gW_in {p n : Int} (hp : 2 ≤ p) (g : Nat) : 0 ≤ gW p n g ∧ gW p n g < p := em_in hp _

theorem div_le {a n : Int} (h0 : 0 ≤ a) (h1 : 1 ≤ n) : 0 ≤ a / n ∧ a / n ≤ a := ⟨Int.ediv_nonneg h0 (by omega), Int.ediv_le_self _ h0⟩

@[reducible] def sCeil : Spec := { pats := [.dat I64, .dat I64], res := [{ t := I64 }], pre := fun x => 0 < x.2.1 ∧ -9000000000000000000 ≤ x.1 ∧ x.1 ≤ (9000000000000000000 : Int), f := fun x => (-(-x.1 / x.2.1), ()) }

end Go.Eng.Pu
