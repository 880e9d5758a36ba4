/- The parts of pulse.ParseRegister. Conditions: each lemma's own. -/
import Derived.Test.YtnficfhnfpbhkaaGreatDoorX9
namespace Go.Eng.Pu
open Go.Eng Go.Proofs Go.Lib Go
set_option linter.all false
set_option maxRecDepth 100000
set_option maxHeartbeats 4000000

theorem prog_num {l : List UInt8} {k : Nat} (hk : k ≤ 18) (h : numOk l k = true) : atoiR l = (numV l, false, ()) ∧ itoa (numV l) = l ∧ (trimPrefix l [45]).length ≤ k ∧ (-9223372036854775808 ≤ numV l ∧ numV l ≤ 9223372036854775807) := by
  obtain ⟨h1, h2⟩ := itoa_of_num h
  have hb := numV_bd h
  have hp : 10 ^ k ≤ 10 ^ 18 := Nat.pow_le_pow_right (by decide) hk
  have hr : -9223372036854775808 ≤ numV l ∧ numV l ≤ 9223372036854775807 := by omega
  have ha := atoi_itoa hr.1 hr.2
  rw [h1] at ha
  exact ⟨by simp only [atoiR, ha], h1, h2, hr⟩

theorem prog_bad {l : List UInt8} {k : Nat} (h : numOk l k = false) : ¬ ((atoiR l).2.1 = false ∧ itoa (atoiR l).1 = l ∧ (trimPrefix l [45]).length ≤ k) := by
  rintro ⟨_, h2, h3⟩
  rw [← h2] at h3
  have := (num_of_itoa h3).1
  rw [h2, h] at this
  cases this

theorem atoi_range {l : List UInt8} (h : (atoiR l).2.1 = false) : -9223372036854775808 ≤ (atoiR l).1 ∧ (atoiR l).1 ≤ 9223372036854775807 := by
  simp only [atoiR] at h ⊢
  cases ha : atoiAll l with
  | ok v => have := atoiAll_bounds ha; simp only; omega
  | _ => rw [ha] at h; cases h

theorem prog_ok {p : ByteArray} {n : Int} (h : (itoa n == p.data.toList) = true) (ht : ((bA (trimPrefix (bL p) (bL ⟨#[45]⟩))).size : Int) ≤ 9) : numOk (bL p) 9 = true ∧ numV (bL p) = n := by
  have h : itoa n = bL p := beq_iff_eq.1 h
  rw [bA_size] at ht
  have ht : (trimPrefix (bL p) [45]).length ≤ 9 := by have : ((trimPrefix (bL p) [45]).length : Int) ≤ 9 := ht; omega
  rw [← h] at ht ⊢
  exact num_of_itoa ht
theorem prog_no3 {p : ByteArray} (h : (9 : Int) < ((bA (trimPrefix (bL p) (bL ⟨#[45]⟩))).size : Int)) : numOk (bL p) 9 = false := by
  cases hn : numOk (bL p) 9 with
  | false => rfl
  | true =>
    have ht := (prog_num (by decide) hn).2.2.1
    rw [bA_size] at h
    have h : (9 : Int) < ((trimPrefix (bL p) [45]).length : Int) := h
    omega
theorem prog_no2 {p : ByteArray} (h : (itoa (atoiR (bL p)).1 == p.data.toList) = false) : numOk (bL p) 9 = false := by
  cases hn : numOk (bL p) 9 with
  | false => rfl
  | true =>
    obtain ⟨h1, h2, _⟩ := prog_num (by decide) hn
    rw [h1] at h
    exact absurd h2 (beq_eq_false_iff_ne.1 h)
theorem prog_no1 {p : ByteArray} (h : (atoiR (bL p)).2.1 = true) : numOk (bL p) 9 = false := by
  cases hn : numOk (bL p) 9 with
  | false => rfl
  | true =>
    obtain ⟨h1, _⟩ := prog_num (by decide) hn
    rw [h1] at h; cases h


noncomputable def b7 : Code := bodyOf Tryz.f7
noncomputable def q0 : Code := match b7 with | .seq x _ => x | c => c
noncomputable def q1 : Code := match b7 with | .seq _ (.seq x _) => x | c => c
noncomputable def q2 : Code := match b7 with | .seq _ (.seq _ (.seq (.seq x _) _)) => x | c => c
noncomputable def q3 : Code := match b7 with | .seq _ (.seq _ (.seq (.seq _ (.block _ (.rangeFunc _ _ x _))) _)) => x | c => c
noncomputable def q4 : Code := match b7 with | .seq _ (.seq _ (.seq (.seq _ (.block _ (.rangeFunc _ _ _ x))) _)) => x | c => c
noncomputable def q5 : Code := match b7 with | .seq _ (.seq _ (.seq _ x)) => x | c => c
theorem body7 : (Tryz.f7.body : Option Code) = some (.seq q0 (.seq q1 (.seq (.seq q2 (.block 0 (.rangeFunc (.tmp 11) #[12] q3 q4))) q5))) := rfl

@[reducible] def stG (s : ByteArray) (b0 b1 : Bool) (pw : PowT.Den) : St := [.slot 0 (.one (.d .str s)), .slot (1000000 + 1) (.one (.pw .err b0)), .slot (1000000 + 2) (.one (.pw .err b1)), .slot (1000000 + 3) (.one (.pw PowT pw))]
@[reducible] def stR : St := [.slot 4 (.one (.p 4 0)), .slot 3 (.one (.p 3 0)), .cell 3 0 (.d I64 0), .slot 2 (.one (.p 2 0)), .cell 2 0 (.d I64 0), .cell 2 1 (.v (.slice none 0 0))]
@[reducible] def hdP (s : ByteArray) (b0 b1 : Bool) (pw : PowT.Den) (k : Nat) : St := stR ++ (stG s b0 b1 pw ++ cOwn 4 0 60004 3 (numsL ((cutB 32 s).take k)))

@[reducible] def sParse : Spec := { pats := [.dat .str, .gw 1 .err, .gw 2 .err, .gw 3 PowT], res := [{ t := Reg0 }, { t := I64 }], pre := fun x => x.1.size ≤ 1000000 ∧ x.2.2.2.1 = powD, f := fun x => prR x.1 }
abbrev cPx : List (Nat × Spec) := [(20, sItoa), (24, sAtoi), (25, sTrim), (26, sChk)]
theorem cPx_ok : All cPx := ⟨hItoa, hAtoi, hTrim, h21, trivial⟩
abbrev cfP : Cfg := cfg {} cPx 50

theorem vcQ0 (s : ByteArray) (b0 b1 : Bool) (pw : PowT.Den) : vc cfP (par cfP) [] (.seq q0 q1) 0 (stG s b0 b1 pw)
    (fun e st => match e with | .normal => Goal (∃ _ : Unit, ent st (hdP s b0 b1 pw 0) ∧ True) | _ => False) := by
  repeat' (intro hzz; (try (rename Two => hq; cases hq)); (try dsimp only at hzz); (try simp only [resTy, argTy, eqD, inR, big, wantOf, Bool.not_true, Bool.not_false, Bool.true_eq, decide_eq_true_eq, decide_eq_false_iff_not, Bool.not_eq_true', Bool.not_eq_false', Bool.and_eq_true, Prod.mk.injEq, and_true, true_and, Int.not_lt, Int.not_le, gt_iff_lt, ge_iff_le] at hzz); (try (revert hzz; intro _)))
  all_goals try (rename Unit => hq; clear hq)
  all_goals try ((with_reducible refine Held.mk ?_); (with_reducible (first | refine Frz.mk ?_ | refine And.intro (Frz.mk ?_) ?_ | refine And.intro ?_ (Frz.mk ?_))); repeat' first | exact True.intro | (change _ = _; with_reducible rfl) | refine And.intro ?_ ?_ | (with_reducible refine Frz.mk ?_))
  all_goals try (refine Held.mk ?_; (try dsimp only at *); (try simp only [resTy, argTy, eqD, inR, big, wantOf, Bool.not_true, Bool.not_false, Bool.true_eq, decide_eq_true_eq, decide_eq_false_iff_not, Bool.not_eq_true', Bool.not_eq_false', Bool.and_eq_true, Prod.mk.injEq, and_true, true_and, Int.not_lt, Int.not_le, gt_iff_lt, ge_iff_le] at *))
  all_goals try omega
  ·
    refine GHeld.mk ?_
    refine Exists.intro () ?_
    refine And.intro (Leaf.mk ?_) ?_
    · repeat' first | exact True.intro | refine And.intro ?_ ?_
      all_goals try ((change _ = _ <;> try dsimp only) <;> try with_reducible rfl)
      all_goals try omega
      all_goals (rfl)
    trivial

/-- What the loop hands on. -/
@[reducible] noncomputable def KP (s : ByteArray) : XE → St → Prop
  | .ret, st => retVC cfP Tryz.f7.results.toList sParse.res (prR s) st
  | .normal, st => ∃ b0 b1, st = hdP s b0 b1 powD (cutB 32 s).length ∧ allNum (cutB 32 s) = true
  | _, _ => False

@[reducible] noncomputable def dsP : List Nat := 12 :: 12 :: (dsts q3 ++ dsts q4)

theorem vcQ5 (s : ByteArray) (hs : s.size ≤ 1000000) (b0 b1 : Bool) (ha : allNum (cutB 32 s) = true) : vc cfP (par cfP) [] q5 0 (hdP s b0 b1 powD (cutB 32 s).length)
    (fun e st => match e with | .ret | .normal => retVC cfP Tryz.f7.results.toList sParse.res (prR s) st | _ => False) := by
  have hl := cutB_len 32 s
  have hp := cut_pos 32 s
  have ht : (cutB 32 s).take (cutB 32 s).length = cutB 32 s := List.take_length
  simp only [hdP, ht]
  repeat' (intro hzz; (try (rename Two => hq; cases hq)); (try dsimp only at hzz); (try simp only [resTy, argTy, eqD, inR, big, wantOf, Bool.not_true, Bool.not_false, Bool.true_eq, decide_eq_true_eq, decide_eq_false_iff_not, Bool.not_eq_true', Bool.not_eq_false', Bool.and_eq_true, Prod.mk.injEq, and_true, true_and, Int.not_lt, Int.not_le, gt_iff_lt, ge_iff_le] at hzz); (try simp only [resTy, argTy, eqD, inR, big, wantOf, Bool.not_true, Bool.not_false, Bool.true_eq, decide_eq_true_eq, decide_eq_false_iff_not, Bool.not_eq_true', Bool.not_eq_false', Bool.and_eq_true, Prod.mk.injEq, and_true, true_and, Int.not_lt, Int.not_le, gt_iff_lt, ge_iff_le, numsL_len, List.length_take, List.length_cons, List.length_nil] at hzz); (try (revert hzz; intro _)))
  all_goals try (rename Unit => hq; clear hq)
  all_goals try ((with_reducible refine Held.mk ?_); (with_reducible (first | refine Frz.mk ?_ | refine And.intro (Frz.mk ?_) ?_ | refine And.intro ?_ (Frz.mk ?_))); repeat' first | exact True.intro | (change _ = _; with_reducible rfl) | refine And.intro ?_ ?_ | (with_reducible refine Frz.mk ?_))
  all_goals try (refine Held.mk ?_; (try dsimp only at *); (try simp only [resTy, argTy, eqD, inR, big, wantOf, Bool.not_true, Bool.not_false, Bool.true_eq, decide_eq_true_eq, decide_eq_false_iff_not, Bool.not_eq_true', Bool.not_eq_false', Bool.and_eq_true, Prod.mk.injEq, and_true, true_and, Int.not_lt, Int.not_le, gt_iff_lt, ge_iff_le] at *); (try simp only [resTy, argTy, eqD, inR, big, wantOf, Bool.not_true, Bool.not_false, Bool.true_eq, decide_eq_true_eq, decide_eq_false_iff_not, Bool.not_eq_true', Bool.not_eq_false', Bool.and_eq_true, Prod.mk.injEq, and_true, true_and, Int.not_lt, Int.not_le, gt_iff_lt, ge_iff_le, numsL_len, List.length_take, List.length_cons, List.length_nil] at *))
  all_goals try omega
  · show (((numsL (cutB 32 s)).drop 1).length : Int) ≤ 4611686018427387904
    rw [List.length_drop, numsL_len]; omega
  · rename_i hcc
    rw [show prR s = _ from prQ_bad ha hcc]; exact ⟨⟨rfl, rfl⟩, rfl⟩
  · rename_i hcc
    rw [show prR s = _ from prQ_ok ha hcc]; exact ⟨⟨rfl, rfl⟩, rfl⟩

theorem vcQ3 (s : ByteArray) (hs : s.size ≤ 1000000) (b0 b1 : Bool) (k : Nat) (hk : k < (cutB 32 s).length) (ha : allNum ((cutB 32 s).take k) = true) : vc cfP (par cfP) [] q3 0 (.slot 12 (.one (.d .str ((cutB 32 s).getD k ByteArray.empty))) :: hdP s b0 b1 powD k)
    (fun e st1 => match e with
      | .normal => vc cfP (par cfP) [] q4 0 st1 fun e st' => match e with
        | .normal => Goal (∃ k' : Nat, ent st' (hdP s b0 b1 powD k') ∧ (k' ≤ (cutB 32 s).length ∧ allNum ((cutB 32 s).take k') = true) ∧ k' = k + 1)
        | e => KP s e (dropS dsP st')
      | _ => False) := by
  have hc := cut_size s k
  have hl := cutB_len 32 s
  obtain ⟨p, hp⟩ : ∃ p, (cutB 32 s).getD k ByteArray.empty = p := ⟨_, rfl⟩
  rw [hp] at hc ⊢
  have bad : numOk (bL p) 9 = false → (0 = (prR s).fst.fst ∧ [] = (prR s).fst.snd.fst) ∧ 7 = (prR s).snd.fst := fun h => by
    rw [show prR s = ((0, [], ()), 7, ()) from prQ_no (allNum_no hk (by rw [hp]; exact h))]
    exact ⟨⟨rfl, rfl⟩, rfl⟩
  have hlen : (numsL ((cutB 32 s).take k)).length ≤ 1000001 := by rw [numsL_len, List.length_take]; omega
  repeat' (intro hzz; (try (rename Two => hq; cases hq)); (try dsimp only at hzz); (try simp only [resTy, argTy, eqD, inR, big, wantOf, Bool.not_true, Bool.not_false, Bool.true_eq, decide_eq_true_eq, decide_eq_false_iff_not, Bool.not_eq_true', Bool.not_eq_false', Bool.and_eq_true, Prod.mk.injEq, and_true, true_and, Int.not_lt, Int.not_le, gt_iff_lt, ge_iff_le] at hzz); (try simp only [resTy, argTy, eqD, inR, big, wantOf, Bool.not_true, Bool.not_false, Bool.true_eq, decide_eq_true_eq, decide_eq_false_iff_not, Bool.not_eq_true', Bool.not_eq_false', Bool.and_eq_true, Prod.mk.injEq, and_true, true_and, Int.not_lt, Int.not_le, gt_iff_lt, ge_iff_le, bL_bA] at hzz); (try (revert hzz; intro _)))
  all_goals try (rename Unit => hq; clear hq)
  all_goals try ((with_reducible refine Held.mk ?_); (with_reducible (first | refine Frz.mk ?_ | refine And.intro (Frz.mk ?_) ?_ | refine And.intro ?_ (Frz.mk ?_))); repeat' first | exact True.intro | (change _ = _; with_reducible rfl) | refine And.intro ?_ ?_ | (with_reducible refine Frz.mk ?_))
  all_goals try (refine Held.mk ?_; (try dsimp only at *); (try simp only [resTy, argTy, eqD, inR, big, wantOf, Bool.not_true, Bool.not_false, Bool.true_eq, decide_eq_true_eq, decide_eq_false_iff_not, Bool.not_eq_true', Bool.not_eq_false', Bool.and_eq_true, Prod.mk.injEq, and_true, true_and, Int.not_lt, Int.not_le, gt_iff_lt, ge_iff_le] at *); (try simp only [resTy, argTy, eqD, inR, big, wantOf, Bool.not_true, Bool.not_false, Bool.true_eq, decide_eq_true_eq, decide_eq_false_iff_not, Bool.not_eq_true', Bool.not_eq_false', Bool.and_eq_true, Prod.mk.injEq, and_true, true_and, Int.not_lt, Int.not_le, gt_iff_lt, ge_iff_le, bL_bA] at *))
  all_goals try omega
  · rename_i h
    exact atoi_range h
  · rename_i h2 h1 h
    exact bad (prog_no3 h)
  · show _ + 1 ≤ _
    omega
  · rename_i h2 h1 h
    obtain ⟨q1, q2⟩ := prog_ok h1 h
    have e := numsL_step hk
    rw [hp, q2] at e
    refine GHeld.mk ?_
    refine Exists.intro (k + 1) ?_
    refine And.intro (Leaf.mk ?_) ?_
    · repeat' first | exact True.intro | refine And.intro ?_ ?_
      all_goals try ((change _ = _ <;> try dsimp only) <;> try with_reducible rfl)
      all_goals try omega
      all_goals (first | rfl | exact e.symm | exact e | exact congrArg List.length e | exact (congrArg List.length e).symm)
    exact ⟨⟨hk, allNum_step hk ha (by rw [hp]; exact q1)⟩, rfl⟩
  · rename_i h1 h
    exact bad (prog_no2 h)
  · rename_i h
    exact bad (prog_no1 h)

end Go.Eng.Pu
