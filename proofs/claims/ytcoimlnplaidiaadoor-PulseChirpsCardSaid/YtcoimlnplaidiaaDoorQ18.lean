/- Contracts: the state at a number of steps, the signs of a start. Conditions: the register is right, the start a state. -/
import Derived.Test.YtcoimlnplaidiaaDoorQ10
namespace Go.Eng.Pu
open Go.Eng Go.Proofs
set_option linter.all false
set_option maxRecDepth 100000
set_option maxHeartbeats 8000000

/-- The state at n steps. -/
def atI (L : Int) (xs : List Int) (s n : Int) : Int := stI L xs s (n % (per L xs s : Int)).toNat

@[reducible] def sAt : Spec := { pats := [.dat Reg, .dat I64, .dat I64], res := [{ t := I64 }], pre := fun x => pSt x.1.1.1 x.1.1.2.1 x.2.1 ∧ 0 ≤ x.2.2.1 ∧ x.2.2.1 ≤ (1000000000 : Int), f := fun x => (atI x.1.1.1 x.1.1.2.1 x.2.1 x.2.2.1, ()) }

def mixT (f g : Nat → Int) (n k : Nat) : List Int := tab (fun i => if i < k then f i else g i) n

def sgI (L : Int) (xs : List Int) (s : Int) (i : Nat) : Int := 1 - 2 * bitI L xs s i

@[reducible] def sSigns : Spec := { pats := [.dat Reg, .dat I64], res := [{ own := some 3, t := .sl I64 }], pre := fun x => pSt x.1.1.1 x.1.1.2.1 x.2.1, f := fun x => (tab (sgI x.1.1.1 x.1.1.2.1 x.2.1) (most x.1.1.1).toNat, ()) }

theorem mixT_len (f g : Nat → Int) (n k : Nat) : (mixT f g n k).length = n := tab_len _ _
theorem mixT_get {f g : Nat → Int} {n k : Nat} (h : k < n) : (mixT f g n k).getD k 0 = g k := by
  rw [mixT, tab_get _ _ _ _ h]; simp

theorem mixT_set {f g : Nat → Int} {n k : Nat} (h : k < n) : (mixT f g n k).set k (f k) = mixT f g n (k + 1) := by
  apply List.ext_getElem
  · rw [List.length_set, mixT_len, mixT_len]
  · intro i h1 h2
    have hi : i < n := by rw [mixT_len] at h2; exact h2
    have g1 : (mixT f g n k).getD i 0 = if i < k then f i else g i := tab_get _ _ _ _ hi
    have g2 : (mixT f g n (k + 1)).getD i 0 = if i < k + 1 then f i else g i := tab_get _ _ _ _ hi
    rw [List.getElem_set]
    simp only [List.getD, List.getElem?_eq_getElem h2, List.getElem?_eq_getElem (show i < (mixT f g n k).length by rw [mixT_len]; exact hi), Option.getD_some] at g1 g2
    rw [g2]
    by_cases he : k = i
    · subst he; simp
    · rw [if_neg he, g1]
      by_cases hik : i < k
      · rw [if_pos hik, if_pos (by omega)]
      · rw [if_neg hik, if_neg (by omega)]
theorem mixT_zero (f g : Nat → Int) (n : Nat) : mixT f g n 0 = tab g n := tab_congr n fun i _ => by simp
theorem mixT_all (f g : Nat → Int) (n : Nat) : mixT f g n n = tab f n := tab_congr n fun i hi => by simp [hi]

theorem toNat_k (k : Nat) : ((k : Int)).toNat = k := rfl

/-- register.signs -/
theorem h95 : Ok 47 sSigns := by
  refine mk (ctr := [(46, sFull), (53, sBits)]) ⟨h94, h87, trivial⟩ (nt := 28) Tryd.func47 rfl rfl rfl rfl (by kernel_rfl) (by kernel_rfl) (fun x => [fun _ => { σ := Nat, pat := fun k => [sI 15 k, .row 12 3 I64 (mixT (sgI x.1.1.1 x.1.1.2.1 x.2.1) (bitI x.1.1.1 x.1.1.2.1 x.2.1) (most x.1.1.1).toNat k)], inv := fun k => k ≤ (most x.1.1.1).toNat, meas := fun k => (most x.1.1.1).toNat - k }]) ?_
  rintro ⟨⟨⟨(L : Int), (xs : List Int), _⟩, _⟩, (s : Int), _⟩ (hp : pSt L xs s)
  have hL := (chk_zero hp.1).1
  have hP := P2_in hL
  repeat' (intro hzz; (try (rename Two => hq; cases hq)); (try dsimp only at hzz); (try simp only [resTy, argTy, eqD, inR, big, wantOf, Bool.not_true, Bool.not_false, Bool.true_eq, decide_eq_true_eq, decide_eq_false_iff_not, Bool.not_eq_true', Bool.not_eq_false', Bool.and_eq_true, Prod.mk.injEq, and_true, true_and, Int.not_lt, Int.not_le, gt_iff_lt, ge_iff_le] at hzz); (try simp only [resTy, argTy, eqD, inR, big, wantOf, Bool.not_true, Bool.not_false, Bool.true_eq, decide_eq_true_eq, decide_eq_false_iff_not, Bool.not_eq_true', Bool.not_eq_false', Bool.and_eq_true, Prod.mk.injEq, and_true, true_and, Int.not_lt, Int.not_le, gt_iff_lt, ge_iff_le, tab_len, getD_i, mixT_len] at hzz); (try (first | contradiction | (exfalso; omega))); (try (revert hzz; intro _)))
  all_goals try (rename Unit => hq; clear hq)
  all_goals try ((with_reducible refine Held.mk ?_); (with_reducible (first | refine Frz.mk ?_ | refine And.intro (Frz.mk ?_) ?_ | refine And.intro ?_ (Frz.mk ?_))); repeat' first | exact True.intro | (change _ = _; with_reducible rfl) | refine And.intro ?_ ?_ | (with_reducible refine Frz.mk ?_))
  all_goals try (refine Held.mk ?_; (try dsimp only at *); (try simp only [resTy, argTy, eqD, inR, big, wantOf, Bool.not_true, Bool.not_false, Bool.true_eq, decide_eq_true_eq, decide_eq_false_iff_not, Bool.not_eq_true', Bool.not_eq_false', Bool.and_eq_true, Prod.mk.injEq, and_true, true_and, Int.not_lt, Int.not_le, gt_iff_lt, ge_iff_le] at *); (try simp only [resTy, argTy, eqD, inR, big, wantOf, Bool.not_true, Bool.not_false, Bool.true_eq, decide_eq_true_eq, decide_eq_false_iff_not, Bool.not_eq_true', Bool.not_eq_false', Bool.and_eq_true, Prod.mk.injEq, and_true, true_and, Int.not_lt, Int.not_le, gt_iff_lt, ge_iff_le, tab_len, getD_i, mixT_len] at *))
  all_goals try omega
  · exact ⟨hp, (show (0 : Int) ≤ most L by unfold most; omega), (show most L ≤ (1024 : Int) by unfold most; omega)⟩
  · 
    refine GHeld.mk ?_
    refine Exists.intro 0 ?_
    refine And.intro (Leaf.mk ?_) ?_
    · repeat' first | exact True.intro | refine And.intro ?_ ?_
      all_goals try ((change _ = _ <;> try dsimp only) <;> try with_reducible rfl)
      all_goals try omega
      all_goals (first | exact (mixT_zero _ _ _).symm | rfl | (rw [tab_len]))
    exact Nat.zero_le _
  · rename_i k hk hg
    rw [mixT_get (by omega)]
    have := bit_01 (L := L) (xs := xs) (s := s) k
    omega
  · rename_i k hk hg
    rw [mixT_get (by omega)]
    have := bit_01 (L := L) (xs := xs) (s := s) k
    omega
  · rename_i k hk hg
    unfold most at hg
    omega
  · rename_i k hk hg
    have e : (mixT (sgI L xs s) (bitI L xs s) (most L).toNat k).set k (1 - 2 * (mixT (sgI L xs s) (bitI L xs s) (most L).toNat k).getD k 0) = mixT (sgI L xs s) (bitI L xs s) (most L).toNat (k + 1) := by
      rw [mixT_get (by omega)]
      exact mixT_set (by omega)
    refine GHeld.mk ?_
    refine Exists.intro (k + 1) ?_
    refine And.intro (Leaf.mk ?_) ?_
    · repeat' first | exact True.intro | refine And.intro ?_ ?_
      all_goals try ((change _ = _ <;> try dsimp only) <;> try with_reducible rfl)
      all_goals try omega
      all_goals (exact e)
    exact ⟨by show k + 1 ≤ (most L).toNat; omega, by show (most L).toNat - (k + 1) < (most L).toNat - k; omega⟩
  · rename_i k hk hg
    rw [show k = (most L).toNat from by omega, mixT_all]

/-- ref.Signs -/
@[reducible] def sRSigns : Spec := { pats := [.dat Reg0, .dat I64], res := [{ own := some 3, t := .sl I64 }], pre := fun x => pSt x.1.1 x.1.2.1 x.2.1, f := fun x => (tab (sgI x.1.1 x.1.2.1 x.2.1) (most x.1.1).toNat, ()) }
/-- ref.StateAt -/
@[reducible] def sRAt : Spec := { pats := [.dat Reg0, .dat I64, .dat I64], res := [{ t := I64 }], pre := fun x => pSt x.1.1 x.1.2.1 x.2.1 ∧ 0 ≤ x.2.2.1 ∧ x.2.2.1 ≤ (1000000000 : Int), f := fun x => (atI x.1.1 x.1.2.1 x.2.1 x.2.2.1, ()) }
end Go.Eng.Pu
