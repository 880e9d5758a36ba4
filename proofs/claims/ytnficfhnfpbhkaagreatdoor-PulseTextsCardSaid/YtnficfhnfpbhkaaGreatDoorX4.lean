/- Contracts on texts: the reference's ParseRegister. Conditions: each contract's own. -/
import Derived.Test.YtnficfhnfpbhkaaGreatDoorX3
namespace Go.Eng.Pu
open Go.Eng Go.Proofs Go.Lib
set_option linter.all false
set_option maxRecDepth 100000
set_option maxHeartbeats 8000000

/-- All pieces are numerals. -/
def allNum (L : List ByteArray) : Bool := L.all fun p => numOk (bL p) 9
def numsL (L : List ByteArray) : List Int := L.map fun p => numV (bL p)
def prQ (L : List ByteArray) : (Int × List Int × Unit) × Int × Unit :=
  if allNum L = true then
    (if chk ((numsL L).getD 0 0) ((numsL L).drop 1) = 0 then (((numsL L).getD 0 0, ((numsL L).drop 1), ()), 0, ()) else ((0, [], ()), chk ((numsL L).getD 0 0) ((numsL L).drop 1), ()))
  else ((0, [], ()), 7, ())
theorem prQ_no {L : List ByteArray} (h : allNum L = false) : prQ L = ((0, [], ()), 7, ()) := by unfold prQ; rw [h]; rfl
theorem prQ_bad {L : List ByteArray} (h : allNum L = true) (hc : ¬ chk ((numsL L).getD 0 0) ((numsL L).drop 1) = 0) : prQ L = ((0, [], ()), chk ((numsL L).getD 0 0) ((numsL L).drop 1), ()) := by unfold prQ; rw [if_pos h, if_neg hc]
theorem prQ_ok {L : List ByteArray} (h : allNum L = true) (hc : chk ((numsL L).getD 0 0) ((numsL L).drop 1) = 0) : prQ L = (((numsL L).getD 0 0, (numsL L).drop 1, ()), 0, ()) := by unfold prQ; rw [if_pos h, if_pos hc]
theorem numsL_len (L : List ByteArray) : (numsL L).length = L.length := List.length_map ..
def prR (s : ByteArray) : (Int × List Int × Unit) × Int × Unit := prQ (cutB 32 s)

theorem allNum_no {L : List ByteArray} {k : Nat} (hk : k < L.length) (h : numOk (bL (L.getD k ByteArray.empty)) 9 = false) : allNum L = false := by
  rw [Bool.eq_false_iff]
  intro ha
  have := List.all_eq_true.1 ha (L.getD k ByteArray.empty) (by rw [List.getD_eq_getElem?_getD, List.getElem?_eq_getElem hk]; exact List.getElem_mem hk)
  rw [h] at this; cases this
theorem allNum_step {L : List ByteArray} {k : Nat} (hk : k < L.length) (h : allNum (L.take k) = true) (hn : numOk (bL (L.getD k ByteArray.empty)) 9 = true) : allNum (L.take (k + 1)) = true := by
  rw [List.getD_eq_getElem?_getD, List.getElem?_eq_getElem hk] at hn
  unfold allNum at h ⊢
  rw [List.take_add_one, List.getElem?_eq_getElem hk, List.all_append, h]
  simpa using hn
theorem numsL_step {L : List ByteArray} {k : Nat} (hk : k < L.length) : numsL (L.take (k + 1)) = numsL (L.take k) ++ [numV (bL (L.getD k ByteArray.empty))] := by
  unfold numsL
  rw [List.take_add_one, List.getElem?_eq_getElem hk, List.map_append, List.getD_eq_getElem?_getD, List.getElem?_eq_getElem hk]
  rfl
theorem cut_pos (c : UInt8) (s : ByteArray) : 0 < (cutB c s).length := by
  unfold cutB
  rw [List.length_map]
  exact List.length_pos_iff.2 (pieces_ne c (bL s))

theorem fin_take {L : List ByteArray} {k : Nat} (hk : k ≤ L.length) (hl : (L.length : Int) ≤ (k : Int)) : L.take k = L := List.take_of_length_le (by omega)
@[reducible] def sParseR : Spec := { pats := [.dat .str], res := [{ t := Reg0 }, { t := I64 }], pre := fun x => x.1.size ≤ 1000000, f := fun x => prR x.1 }
def prAnn (s : ByteArray) : LoopAnn := { σ := Nat, pat := fun k => [sI 6 k] ++ sOwn 5 60005 3 (numsL ((cutB 32 s).take k)), inv := fun k => k ≤ (cutB 32 s).length ∧ allNum ((cutB 32 s).take k) = true, meas := fun k => (cutB 32 s).length - k }
/-- ref.ParseRegister -/
theorem hParseR : Ok 8 sParseR := by
  refine mk (ctr := [(27, sCut), (28, sNumberT), (11, sChk)]) ⟨h23t, hNumber, h22, trivial⟩ (nt := 47) Tryz.func8 rfl rfl rfl rfl (by kernel_rfl) (by kernel_rfl) (fun x => [fun _ => prAnn x.1]) ?_
  rintro ⟨(s : ByteArray), _⟩ (hs : s.size ≤ 1000000)
  have hc := cut_size s
  have hl := cutB_len 32 s
  have hp := cut_pos 32 s
  have e9 : Int.toNat 9 = 9 := rfl
  repeat' (intro hzz; (try (rename Two => hq; cases hq)); (try dsimp only at hzz); (try simp only [resTy, argTy, eqD, inR, big, wantOf, Bool.not_true, Bool.not_false, Bool.true_eq, decide_eq_true_eq, decide_eq_false_iff_not, Bool.not_eq_true', Bool.not_eq_false', Bool.and_eq_true, Prod.mk.injEq, and_true, true_and, Int.not_lt, Int.not_le, gt_iff_lt, ge_iff_le] at hzz); (try simp only [resTy, argTy, eqD, inR, big, wantOf, Bool.not_true, Bool.not_false, Bool.true_eq, decide_eq_true_eq, decide_eq_false_iff_not, Bool.not_eq_true', Bool.not_eq_false', Bool.and_eq_true, Prod.mk.injEq, and_true, true_and, Int.not_lt, Int.not_le, gt_iff_lt, ge_iff_le, e9, numsL_len, List.length_take, List.length_cons, List.length_nil] at hzz); (try (revert hzz; intro _)))
  all_goals try (rename Unit => hq; clear hq)
  all_goals try ((with_reducible refine Held.mk ?_); (with_reducible (first | refine Frz.mk ?_ | refine And.intro (Frz.mk ?_) ?_ | refine And.intro ?_ (Frz.mk ?_))); repeat' first | exact True.intro | (change _ = _; with_reducible rfl) | refine And.intro ?_ ?_ | (with_reducible refine Frz.mk ?_))
  all_goals try (refine Held.mk ?_; (try dsimp only at *); (try simp only [resTy, argTy, eqD, inR, big, wantOf, Bool.not_true, Bool.not_false, Bool.true_eq, decide_eq_true_eq, decide_eq_false_iff_not, Bool.not_eq_true', Bool.not_eq_false', Bool.and_eq_true, Prod.mk.injEq, and_true, true_and, Int.not_lt, Int.not_le, gt_iff_lt, ge_iff_le] at *); (try simp only [resTy, argTy, eqD, inR, big, wantOf, Bool.not_true, Bool.not_false, Bool.true_eq, decide_eq_true_eq, decide_eq_false_iff_not, Bool.not_eq_true', Bool.not_eq_false', Bool.and_eq_true, Prod.mk.injEq, and_true, true_and, Int.not_lt, Int.not_le, gt_iff_lt, ge_iff_le, e9, numsL_len, List.length_take, List.length_cons, List.length_nil] at *))
  all_goals try omega
  ·
    refine GHeld.mk ?_
    refine Exists.intro (0 : Nat) ?_
    refine And.intro (Leaf.mk ?_) ?_
    · repeat' first | exact True.intro | refine And.intro ?_ ?_
      all_goals try ((change _ = _ <;> try dsimp only) <;> try with_reducible rfl)
      all_goals try omega
      all_goals (rfl)
    exact ⟨Nat.zero_le _, rfl⟩
  · exact ⟨Nat.le_trans (hc _) hs, by decide, by decide⟩
  · rename_i k hk hlt hn
    have hk2 : k < (cutB 32 s).length := by omega
    rw [show prR s = ((0, [], ()), 7, ()) from prQ_no (allNum_no hk2 hn)]
    exact ⟨⟨rfl, rfl⟩, rfl⟩
  · rename_i k hk hlt hn
    have hk2 : k < (cutB 32 s).length := by omega
    have e := numsL_step hk2
    refine GHeld.mk ?_
    refine Exists.intro (k + 1) ?_
    refine And.intro (Leaf.mk ?_) ?_
    · repeat' first | exact True.intro | refine And.intro ?_ ?_
      all_goals try ((change _ = _ <;> try dsimp only) <;> try with_reducible rfl)
      all_goals try omega
      all_goals (first | rfl | exact e.symm | exact e | (rw [e9, if_pos hn]; exact e.symm) | (rw [e9, if_pos hn]; exact (congrArg List.length e).symm))
    exact ⟨⟨(show k + 1 ≤ (cutB 32 s).length by omega), allNum_step hk2 hk.2 hn⟩, (show (cutB 32 s).length - (k + 1) < (cutB 32 s).length - k by omega)⟩
  all_goals (clear e9; rename _ ≤ _ ∧ allNum _ = true => hk; rename ((List.length _ : Nat) : Int) ≤ _ => hlt; have e := fin_take hk.1 hlt; have ha := hk.2)
  · rw [e]
    show (((numsL (cutB 32 s)).drop 1).length : Int) ≤ 4611686018427387904
    rw [List.length_drop, numsL_len]; omega
  · rename_i hcc
    rw [e] at ha hcc ⊢
    rw [show prR s = _ from prQ_bad ha hcc]; exact ⟨⟨rfl, rfl⟩, rfl⟩
  · rename_i hcc
    rw [e] at ha hcc ⊢
    rw [show prR s = _ from prQ_ok ha hcc]; exact ⟨⟨rfl, rfl⟩, rfl⟩

end Go.Eng.Pu
