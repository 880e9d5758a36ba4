/- Contracts on texts: Decimal, both FormatMargin, Cut. Conditions: each contract's own. -/
import Derived.Test.YtacgcendcdiodaaDoorX1
import Derived.Test.YtacgcendcdiodaaDoorL17
namespace Go.Eng.Lp
open Go.Eng Go.Proofs Go.Lib
set_option linter.all false
set_option maxRecDepth 100000
set_option maxHeartbeats 8000000

/-! ### Decimal -/

def sg (n : Int) (r : Nat) : Int := if n < 0 then -(r : Int) else r
theorem sg_self (n : Int) : sg n n.natAbs = n := by simp only [sg]; split <;> omega
theorem sg_div (n : Int) (r : Nat) : (sg n r).tdiv 10 = sg n (r / 10) := by
  simp only [sg]
  split
  · rw [Int.neg_tdiv]; rfl
  · rfl
theorem sg_mod (n : Int) (r : Nat) : (sg n r).tmod 10 = sg n (r % 10) := by
  simp only [sg]
  split
  · rw [Int.neg_tmod]; rfl
  · rfl

def ddx (u : Nat) : List UInt8 := if u = 0 then [] else decDigits u
theorem ddx_step {u : Nat} (h : u ≠ 0) : ddx u = ddx (u / 10) ++ [UInt8.ofNat (48 + u % 10)] := by
  simp only [ddx]
  rw [if_neg h]
  by_cases h1 : u < 10
  · rw [if_pos (by omega), decDigits, dif_pos h1, Nat.mod_eq_of_lt h1]; rfl
  · rw [if_neg (by omega), decDigits, dif_neg h1]

theorem digit_text (k : Nat) (t : List UInt8) : strOfNums [48 + (k : Int)] ++ bA t = bA (UInt8.ofNat (48 + k) :: t) := by
  have : strOfNums [48 + (k : Int)] = bA [UInt8.ofNat (48 + k)] := by
    simp only [strOfNums, bA, List.map_cons, List.map_nil]
    rw [show (48 + (k : Int)).toNat = 48 + k by omega]
  rw [this, bA_append]; rfl

theorem sg_size (n : Int) (r : Nat) : fSize (sg n r) = r := by simp only [fSize, sg]; (repeat' split) <;> omega
theorem sg_zero {n : Int} {r : Nat} : sg n r = 0 ↔ r = 0 := by simp only [sg]; split <;> omega
theorem dec_len : ∀ (k u : Nat), u < 10 ^ k → 0 < k → (decDigits u).length ≤ k
  | 0, u, _, h => absurd h (Nat.lt_irrefl 0)
  | k + 1, u, h, _ => by
    rw [decDigits]
    split
    · simp
    · rename_i hu
      have hk : 0 < k := by
        rcases Nat.eq_zero_or_pos k with rfl | h1
        · simp at h; omega
        · exact h1
      have := dec_len k (u / 10) (by rw [Nat.pow_succ] at h; omega) hk
      simp only [List.length_append, List.length_cons, List.length_nil]; omega

theorem itoa_neg {n : Int} (h : n < 0) : itoa n = 45 :: decDigits n.natAbs := by unfold itoa; rw [if_pos h]
theorem itoa_pos {n : Int} (h : ¬ n < 0) : itoa n = decDigits n.natAbs := by unfold itoa; rw [if_neg h, show n.toNat = n.natAbs by omega]
theorem itoa_len {n : Int} (h0 : -9223372036854775808 ≤ n) (h1 : n ≤ 9223372036854775807) : (itoa n).length ≤ 20 := by
  have := dec_len 19 n.natAbs (by omega) (by decide)
  by_cases h : n < 0
  · rw [itoa_neg h, List.length_cons]; omega
  · rw [itoa_pos h]; omega

theorem digit_size (k : Nat) (t : List UInt8) : (strOfNums [48 + (k : Int)]).size + (bA t).size = t.length + 1 := by rw [strOfNums_size, bA_size]; simp [Nat.add_comm]

@[reducible] def sDecimal : Spec := { pats := [.dat I64], res := [{ t := .str }], pre := fun x => -9223372036854775808 ≤ x.1 ∧ x.1 ≤ 9223372036854775807, f := fun x => (bA (itoa x.1), ()) }
def decInv (n : Int) (s : Nat × List UInt8) : Prop := s.1 ≤ n.natAbs ∧ s.2.length ≤ 20 ∧ ddx s.1 ++ s.2 = decDigits n.natAbs
def decAnn (n : Int) : LoopAnn := { σ := Nat × List UInt8, pat := fun s => [sI 0 (sg n s.1), .slot 3 (.one (.d .str (bA s.2)))], inv := decInv n, meas := fun s => s.1 }

theorem dec_first {n : Int} (h : ¬ n = 0) : decInv n (n.natAbs, []) := by
  refine ⟨Nat.le_refl _, by simp, ?_⟩
  simp only [ddx]; rw [if_neg (by omega), List.append_nil]
theorem dec_next {n : Int} {r : Nat} {t : List UInt8} (h0 : -9223372036854775808 ≤ n) (h1 : n ≤ 9223372036854775807) (h : decInv n (r, t)) (hr : r ≠ 0) : decInv n (r / 10, UInt8.ofNat (48 + r % 10) :: t) := by
  obtain ⟨i1, i2, i3⟩ := h
  have e : ddx (r / 10) ++ (UInt8.ofNat (48 + r % 10) :: t) = decDigits n.natAbs := by
    rw [← i3, ddx_step hr, List.append_assoc]; rfl
  have hl := dec_len 19 n.natAbs (by omega) (by decide)
  refine ⟨(show r / 10 ≤ n.natAbs by have : r ≤ n.natAbs := i1; omega), ?_, e⟩
  have := congrArg List.length e
  rw [List.length_append] at this
  show (_ :: t).length ≤ 20
  omega
theorem dec_last {n : Int} {r : Nat} {t : List UInt8} (h : decInv n (r, t)) (hr : r = 0) : t = decDigits n.natAbs := by
  subst hr; exact h.2.2

/-- base.Decimal -/
theorem h25t : Ok 25 sDecimal := by
  refine mk (ctr := [(42, sSize)]) ⟨h87, trivial⟩ (nt := 27) Tryd.func25 rfl rfl rfl rfl (by kernel_rfl) (by kernel_rfl) (fun x => [fun _ => decAnn x.1]) ?_
  rintro ⟨(n : Int), _⟩ ⟨(h0 : -9223372036854775808 ≤ n), (h1 : n ≤ 9223372036854775807)⟩
  repeat' (intro hzz; (try (rename Two => hq; cases hq)); (try dsimp only at hzz); (try simp only [resTy, argTy, eqD, inR, big, wantOf, Bool.not_true, Bool.not_false, Bool.true_eq, decide_eq_true_eq, decide_eq_false_iff_not, Bool.not_eq_true', Bool.not_eq_false', Bool.and_eq_true, Prod.mk.injEq, and_true, true_and, Int.not_lt, Int.not_le, gt_iff_lt, ge_iff_le] at hzz); (try simp only [resTy, argTy, eqD, inR, big, wantOf, Bool.not_true, Bool.not_false, Bool.true_eq, decide_eq_true_eq, decide_eq_false_iff_not, Bool.not_eq_true', Bool.not_eq_false', Bool.and_eq_true, Prod.mk.injEq, and_true, true_and, Int.not_lt, Int.not_le, gt_iff_lt, ge_iff_le, sg_mod, sg_div, sg_size, sg_zero] at hzz); (try (revert hzz; intro _)))
  all_goals try (rename Unit => hq; clear hq)
  all_goals try ((with_reducible refine Held.mk ?_); (with_reducible (first | refine Frz.mk ?_ | refine And.intro (Frz.mk ?_) ?_ | refine And.intro ?_ (Frz.mk ?_))); repeat' first | exact True.intro | (change _ = _; with_reducible rfl) | refine And.intro ?_ ?_ | (with_reducible refine Frz.mk ?_))
  all_goals try (refine Held.mk ?_; (try dsimp only at *); (try simp only [resTy, argTy, eqD, inR, big, wantOf, Bool.not_true, Bool.not_false, Bool.true_eq, decide_eq_true_eq, decide_eq_false_iff_not, Bool.not_eq_true', Bool.not_eq_false', Bool.and_eq_true, Prod.mk.injEq, and_true, true_and, Int.not_lt, Int.not_le, gt_iff_lt, ge_iff_le] at *); (try simp only [resTy, argTy, eqD, inR, big, wantOf, Bool.not_true, Bool.not_false, Bool.true_eq, decide_eq_true_eq, decide_eq_false_iff_not, Bool.not_eq_true', Bool.not_eq_false', Bool.and_eq_true, Prod.mk.injEq, and_true, true_and, Int.not_lt, Int.not_le, gt_iff_lt, ge_iff_le, sg_mod, sg_div, sg_size, sg_zero] at *))
  · rename_i h; subst h
    have : itoa 0 = [48] := by rw [itoa_pos (by decide), decDigits, dif_pos (by decide)]; rfl
    rw [this]; rfl
  all_goals try (rename_i s hi hr; obtain ⟨r, t⟩ := s; have hi1 : r ≤ n.natAbs := hi.1; have hi2 : t.length ≤ 20 := hi.2.1; dsimp only at hr ⊢)
  all_goals try omega
  all_goals try (simp only [pSize, sg]; split <;> omega)
  all_goals try (refine ⟨by decide, ?_⟩; simp only [sg]; split <;> omega)
  all_goals try (rw [digit_size]; omega)
  ·
    refine GHeld.mk ?_
    refine Exists.intro (n.natAbs, ([] : List UInt8)) ?_
    refine And.intro (Leaf.mk ?_) ?_
    · repeat' first | exact True.intro | refine And.intro ?_ ?_
      all_goals try ((change _ = _ <;> try dsimp only) <;> try with_reducible rfl)
      all_goals try omega
      all_goals (first | rfl | exact (sg_self n).symm)
    exact dec_first (by assumption)
  ·
    refine GHeld.mk ?_
    refine Exists.intro (r / 10, UInt8.ofNat (48 + r % 10) :: t) ?_
    refine And.intro (Leaf.mk ?_) ?_
    · repeat' first | exact True.intro | refine And.intro ?_ ?_
      all_goals try ((change _ = _ <;> try dsimp only) <;> try with_reducible rfl)
      all_goals try omega
      all_goals (first | rfl | exact sg_div n r | (rw [sg_mod, sg_size]; exact digit_text _ _))
    exact ⟨dec_next h0 h1 hi hr, (show r / 10 < r by omega)⟩
  · rw [bA_size]; show 1 + _ ≤ _; omega
  · rw [dec_last hi hr]
    rename_i hn
    rw [itoa_neg hn]; exact bA_append [45] _
  ·
    refine GHeld.mk ?_
    refine Exists.intro (n.natAbs, ([] : List UInt8)) ?_
    refine And.intro (Leaf.mk ?_) ?_
    · repeat' first | exact True.intro | refine And.intro ?_ ?_
      all_goals try ((change _ = _ <;> try dsimp only) <;> try with_reducible rfl)
      all_goals try omega
      all_goals (first | rfl | exact (sg_self n).symm)
    exact dec_first (by assumption)
  ·
    refine GHeld.mk ?_
    refine Exists.intro (r / 10, UInt8.ofNat (48 + r % 10) :: t) ?_
    refine And.intro (Leaf.mk ?_) ?_
    · repeat' first | exact True.intro | refine And.intro ?_ ?_
      all_goals try ((change _ = _ <;> try dsimp only) <;> try with_reducible rfl)
      all_goals try omega
      all_goals (first | rfl | exact sg_div n r | (rw [sg_mod, sg_size]; exact digit_text _ _))
    exact ⟨dec_next h0 h1 hi hr, (show r / 10 < r by omega)⟩
  · rw [bA_size]; show 0 + _ ≤ _; omega
  · rw [dec_last hi hr]
    rename_i hn
    rw [itoa_pos (by omega)]; exact bA_append [] _


/-! ### Texts of margins -/

def fmtM (m : ByteArray) (n : Int) : ByteArray := bA (bL m ++ 32 :: itoa n)
theorem fmt_eq (m : ByteArray) (n : Int) : m ++ (⟨#[32]⟩ : ByteArray) ++ bA (itoa n) = fmtM m n := by
  refine bL_inj ?_
  rw [bL_append, bL_append, bL_bA, fmtM, bL_bA, List.append_assoc]; rfl
@[reducible] def sFormat : Spec := { pats := [.dat MargT, .gw 2 PowT], res := [{ t := .str }], pre := fun x => x.1.1.size ≤ 1000000 ∧ (-9223372036854775808 ≤ x.1.2.1 ∧ x.1.2.1 ≤ 9223372036854775807) ∧ x.2.1 = powD, f := fun x => (fmtM x.1.1 x.1.2.1, ()) }
/-- loop.FormatMargin -/
theorem h5t : Ok 5 sFormat := by
  refine mk (ctr := [(17, sItoa)]) ⟨hItoa, trivial⟩ (nt := 10) Tryd.func5 rfl rfl rfl rfl (by kernel_rfl) (by kernel_rfl) (fun _ => []) ?_
  rintro ⟨⟨(m : ByteArray), (n : Int), _⟩, (p : PowT.Den), _⟩ ⟨(hm : m.size ≤ 1000000), (hn : -9223372036854775808 ≤ n ∧ n ≤ 9223372036854775807), (hp : p = powD)⟩
  have hl := itoa_len hn.1 hn.2
  repeat' (intro hzz; (try (rename Two => hq; cases hq)); (try dsimp only at hzz); (try simp only [resTy, argTy, eqD, inR, big, wantOf, Bool.not_true, Bool.not_false, Bool.true_eq, decide_eq_true_eq, decide_eq_false_iff_not, Bool.not_eq_true', Bool.not_eq_false', Bool.and_eq_true, Prod.mk.injEq, and_true, true_and, Int.not_lt, Int.not_le, gt_iff_lt, ge_iff_le] at hzz); (try simp only [resTy, argTy, eqD, inR, big, wantOf, Bool.not_true, Bool.not_false, Bool.true_eq, decide_eq_true_eq, decide_eq_false_iff_not, Bool.not_eq_true', Bool.not_eq_false', Bool.and_eq_true, Prod.mk.injEq, and_true, true_and, Int.not_lt, Int.not_le, gt_iff_lt, ge_iff_le, bA_size, ByteArray.size_append] at hzz); (try (revert hzz; intro _)))
  all_goals try (rename Unit => hq; clear hq)
  all_goals try ((with_reducible refine Held.mk ?_); (with_reducible (first | refine Frz.mk ?_ | refine And.intro (Frz.mk ?_) ?_ | refine And.intro ?_ (Frz.mk ?_))); repeat' first | exact True.intro | (change _ = _; with_reducible rfl) | refine And.intro ?_ ?_ | (with_reducible refine Frz.mk ?_))
  all_goals try (refine Held.mk ?_; (try dsimp only at *); (try simp only [resTy, argTy, eqD, inR, big, wantOf, Bool.not_true, Bool.not_false, Bool.true_eq, decide_eq_true_eq, decide_eq_false_iff_not, Bool.not_eq_true', Bool.not_eq_false', Bool.and_eq_true, Prod.mk.injEq, and_true, true_and, Int.not_lt, Int.not_le, gt_iff_lt, ge_iff_le] at *); (try simp only [resTy, argTy, eqD, inR, big, wantOf, Bool.not_true, Bool.not_false, Bool.true_eq, decide_eq_true_eq, decide_eq_false_iff_not, Bool.not_eq_true', Bool.not_eq_false', Bool.and_eq_true, Prod.mk.injEq, and_true, true_and, Int.not_lt, Int.not_le, gt_iff_lt, ge_iff_le, bA_size, ByteArray.size_append] at *))
  · show _ + 1 ≤ _; omega
  · exact ⟨hn, hp⟩
  · show _ + 1 + _ ≤ _; omega
  · exact fmt_eq m n

@[reducible] def sFormatR : Spec := { pats := [.dat MargT], res := [{ t := .str }], pre := fun x => x.1.1.size ≤ 1000000 ∧ (-9223372036854775808 ≤ x.1.2.1 ∧ x.1.2.1 ≤ 9223372036854775807), f := fun x => (fmtM x.1.1 x.1.2.1, ()) }
/-- ref.FormatMargin -/
theorem h8t : Ok 8 sFormatR := by
  refine mk (ctr := [(25, sDecimal)]) ⟨h25t, trivial⟩ (nt := 10) Tryd.func8 rfl rfl rfl rfl (by kernel_rfl) (by kernel_rfl) (fun _ => []) ?_
  rintro ⟨⟨(m : ByteArray), (n : Int), _⟩, _⟩ ⟨(hm : m.size ≤ 1000000), (hn : -9223372036854775808 ≤ n ∧ n ≤ 9223372036854775807)⟩
  have hl := itoa_len hn.1 hn.2
  repeat' (intro hzz; (try (rename Two => hq; cases hq)); (try dsimp only at hzz); (try simp only [resTy, argTy, eqD, inR, big, wantOf, Bool.not_true, Bool.not_false, Bool.true_eq, decide_eq_true_eq, decide_eq_false_iff_not, Bool.not_eq_true', Bool.not_eq_false', Bool.and_eq_true, Prod.mk.injEq, and_true, true_and, Int.not_lt, Int.not_le, gt_iff_lt, ge_iff_le] at hzz); (try simp only [resTy, argTy, eqD, inR, big, wantOf, Bool.not_true, Bool.not_false, Bool.true_eq, decide_eq_true_eq, decide_eq_false_iff_not, Bool.not_eq_true', Bool.not_eq_false', Bool.and_eq_true, Prod.mk.injEq, and_true, true_and, Int.not_lt, Int.not_le, gt_iff_lt, ge_iff_le, bA_size, ByteArray.size_append] at hzz); (try (revert hzz; intro _)))
  all_goals try (rename Unit => hq; clear hq)
  all_goals try ((with_reducible refine Held.mk ?_); (with_reducible (first | refine Frz.mk ?_ | refine And.intro (Frz.mk ?_) ?_ | refine And.intro ?_ (Frz.mk ?_))); repeat' first | exact True.intro | (change _ = _; with_reducible rfl) | refine And.intro ?_ ?_ | (with_reducible refine Frz.mk ?_))
  all_goals try (refine Held.mk ?_; (try dsimp only at *); (try simp only [resTy, argTy, eqD, inR, big, wantOf, Bool.not_true, Bool.not_false, Bool.true_eq, decide_eq_true_eq, decide_eq_false_iff_not, Bool.not_eq_true', Bool.not_eq_false', Bool.and_eq_true, Prod.mk.injEq, and_true, true_and, Int.not_lt, Int.not_le, gt_iff_lt, ge_iff_le] at *); (try simp only [resTy, argTy, eqD, inR, big, wantOf, Bool.not_true, Bool.not_false, Bool.true_eq, decide_eq_true_eq, decide_eq_false_iff_not, Bool.not_eq_true', Bool.not_eq_false', Bool.and_eq_true, Prod.mk.injEq, and_true, true_and, Int.not_lt, Int.not_le, gt_iff_lt, ge_iff_le, bA_size, ByteArray.size_append] at *))
  · show _ + 1 ≤ _; omega
  · exact hn
  · show _ + 1 + _ ≤ _; omega
  · exact fmt_eq m n

/-! ### Cut -/

@[reducible] def sCut : Spec := { pats := [.dat .str, .dat (.int .u8)], res := [{ t := .sl .str }], pre := fun x => x.1.size ≤ 1000000 ∧ x.2.1 = 32, f := fun x => (cutB 32 x.1, ()) }
/-- How far the text is cut. -/
def cutSt (l : List UInt8) : Nat → List ByteArray × Nat
  | 0 => ([], 0)
  | k + 1 => if l.getD k 0 = 32 then ((cutSt l k).1 ++ [bA ((l.drop (cutSt l k).2).take (k - (cutSt l k).2))], k + 1) else cutSt l k

theorem cut_bd (l : List UInt8) : ∀ k, (cutSt l k).2 ≤ k ∧ (cutSt l k).1.length ≤ k
  | 0 => ⟨Nat.le_refl _, Nat.le_refl _⟩
  | k + 1 => by
    have := cut_bd l k
    simp only [cutSt]
    split
    · simp only [List.length_append, List.length_cons, List.length_nil]; omega
    · omega

theorem cut_inv (l : List UInt8) : ∀ k, k ≤ l.length → (cutSt l k).1.map bL ++ [(l.drop (cutSt l k).2).take (k - (cutSt l k).2)] = piecesL 32 (l.take k)
  | 0, _ => by simp [cutSt, piecesL]
  | k + 1, hk => by
    have ih := cut_inv l k (by omega)
    have hb := cut_bd l k
    have ht : l.take (k + 1) = l.take k ++ [l.getD k 0] := by
      rw [List.take_add_one, List.getElem?_eq_getElem (by omega), List.getD_eq_getElem?_getD, List.getElem?_eq_getElem (by omega)]; rfl
    rw [ht, pieces_app, ← ih]
    simp only [List.dropLast_concat, List.getLastD_concat, cutSt, piecesL]
    by_cases h : l.getD k 0 = 32
    · rw [if_pos h, if_pos h]
      simp [bL_bA]
    · rw [if_neg h, if_neg h]
      simp only [List.append_cancel_left_eq, List.cons.injEq, and_true]
      rw [show k + 1 - (cutSt l k).2 = (k - (cutSt l k).2) + 1 by omega, List.take_add_one, List.getElem?_drop, show (cutSt l k).2 + (k - (cutSt l k).2) = k by omega, List.getElem?_eq_getElem (by omega), List.getD_eq_getElem?_getD, List.getElem?_eq_getElem (by omega)]
      rfl

theorem cut_end (s : ByteArray) : (cutSt (bL s) s.size).1 ++ [s.extract (cutSt (bL s) s.size).2 s.size] = cutB 32 s := by
  have h := cut_inv (bL s) s.size (Nat.le_of_eq (bL_len s).symm)
  rw [List.take_of_length_le (Nat.le_of_eq (bL_len s))] at h
  simp only [cutB, ← h, List.map_append, List.map_map, List.map_cons, List.map_nil]
  have : (bA ∘ fun x : ByteArray => x.data.toList) = id := by funext x; exact bA_bL x
  rw [this, List.map_id]
  congr 2
  exact bL_inj (by rw [bL_bA, bL_extract])

@[reducible] def sOwnS (t k el : Nat) (xs : List ByteArray) : St := [.slot t (.one (.o k xs.length)), .row k el .str xs]
theorem cut_yes (s : ByteArray) (k : Nat) (h : (((bL s).getD k 0).toNat : Int) = 32) : cutSt (bL s) (k + 1) = ((cutSt (bL s) k).1 ++ [s.extract (cutSt (bL s) k).2 k], k + 1) := by
  have h : (bL s).getD k 0 = 32 := UInt8.toNat_inj.1 (by show _ = 32; omega)
  have e : s.extract (cutSt (bL s) k).2 k = bA (((bL s).drop (cutSt (bL s) k).2).take (k - (cutSt (bL s) k).2)) := bL_inj (by rw [bL_bA, bL_extract])
  simp only [cutSt]
  rw [if_pos h, e]
theorem cut_no (s : ByteArray) (k : Nat) (h : ¬ (((bL s).getD k 0).toNat : Int) = 32) : cutSt (bL s) (k + 1) = cutSt (bL s) k := by
  have h : ¬ (bL s).getD k 0 = 32 := fun e => h (by rw [e]; rfl)
  simp only [cutSt]
  rw [if_neg h]

def cutAnn (s : ByteArray) : LoopAnn := { σ := Nat, pat := fun k => [sI 7 k, sI 6 (cutSt (bL s) k).2] ++ sOwnS 5 60005 9 (cutSt (bL s) k).1, inv := fun k => k ≤ s.size, meas := fun k => s.size - k }

/-- base.Cut -/
theorem h23t : Ok 23 sCut := by
  refine mk (ctr := []) trivial (nt := 34) Tryd.func23 rfl rfl rfl rfl (by kernel_rfl) (by kernel_rfl) (fun x => [fun _ => cutAnn x.1]) ?_
  rintro ⟨(s : ByteArray), (c : Int), _⟩ ⟨(hs : s.size ≤ 1000000), (hc : c = 32)⟩
  subst hc
  repeat' (intro hzz; (try (rename Two => hq; cases hq)); (try dsimp only at hzz); (try simp only [resTy, argTy, eqD, inR, big, wantOf, Bool.not_true, Bool.not_false, Bool.true_eq, decide_eq_true_eq, decide_eq_false_iff_not, Bool.not_eq_true', Bool.not_eq_false', Bool.and_eq_true, Prod.mk.injEq, and_true, true_and, Int.not_lt, Int.not_le, gt_iff_lt, ge_iff_le] at hzz); (try simp only [resTy, argTy, eqD, inR, big, wantOf, Bool.not_true, Bool.not_false, Bool.true_eq, decide_eq_true_eq, decide_eq_false_iff_not, Bool.not_eq_true', Bool.not_eq_false', Bool.and_eq_true, Prod.mk.injEq, and_true, true_and, Int.not_lt, Int.not_le, gt_iff_lt, ge_iff_le, Int.toNat_natCast, List.length_append, List.length_cons, List.length_nil] at hzz); (try (revert hzz; intro _)))
  all_goals try (rename Unit => hq; clear hq)
  all_goals try ((with_reducible refine Held.mk ?_); (with_reducible (first | refine Frz.mk ?_ | refine And.intro (Frz.mk ?_) ?_ | refine And.intro ?_ (Frz.mk ?_))); repeat' first | exact True.intro | (change _ = _; with_reducible rfl) | refine And.intro ?_ ?_ | (with_reducible refine Frz.mk ?_))
  all_goals try (refine Held.mk ?_; (try dsimp only at *); (try simp only [resTy, argTy, eqD, inR, big, wantOf, Bool.not_true, Bool.not_false, Bool.true_eq, decide_eq_true_eq, decide_eq_false_iff_not, Bool.not_eq_true', Bool.not_eq_false', Bool.and_eq_true, Prod.mk.injEq, and_true, true_and, Int.not_lt, Int.not_le, gt_iff_lt, ge_iff_le] at *); (try simp only [resTy, argTy, eqD, inR, big, wantOf, Bool.not_true, Bool.not_false, Bool.true_eq, decide_eq_true_eq, decide_eq_false_iff_not, Bool.not_eq_true', Bool.not_eq_false', Bool.and_eq_true, Prod.mk.injEq, and_true, true_and, Int.not_lt, Int.not_le, gt_iff_lt, ge_iff_le, Int.toNat_natCast, List.length_append, List.length_cons, List.length_nil] at *))
  all_goals try (rename_i k hk hlt hcc; have hb := cut_bd (bL s) k; omega)
  all_goals try (rename_i k hk hlt; have hb := cut_bd (bL s) k; omega)
  ·
    refine GHeld.mk ?_
    refine Exists.intro (0 : Nat) ?_
    refine And.intro (Leaf.mk ?_) ?_
    · repeat' first | exact True.intro | refine And.intro ?_ ?_
      all_goals try ((change _ = _ <;> try dsimp only) <;> try with_reducible rfl)
      all_goals try omega
      all_goals (rfl)
    exact Nat.zero_le _
  · rename_i k hk hlt hcc
    have e := cut_yes s k hcc
    refine GHeld.mk ?_
    refine Exists.intro (k + 1) ?_
    refine And.intro (Leaf.mk ?_) ?_
    · repeat' first | exact True.intro | refine And.intro ?_ ?_
      all_goals try ((change _ = _ <;> try dsimp only) <;> try with_reducible rfl)
      all_goals try omega
      all_goals (first | rfl | (rw [e]; done) | (rw [e]; simp))
    exact ⟨(show k + 1 ≤ s.size by omega), (show s.size - (k + 1) < s.size - k by omega)⟩
  · rename_i k hk hlt hcc
    have e := cut_no s k hcc
    refine GHeld.mk ?_
    refine Exists.intro (k + 1) ?_
    refine And.intro (Leaf.mk ?_) ?_
    · repeat' first | exact True.intro | refine And.intro ?_ ?_
      all_goals try ((change _ = _ <;> try dsimp only) <;> try with_reducible rfl)
      all_goals try omega
      all_goals (first | rfl | (rw [e]; done) | (rw [e]; simp))
    exact ⟨(show k + 1 ≤ s.size by omega), (show s.size - (k + 1) < s.size - k by omega)⟩
  · rename_i k hk hlt
    obtain rfl : k = s.size := by omega
    exact cut_end s

/-! ### Names -/

def badC (i : Nat) (c : Int) : Prop := ¬ ((97 ≤ c ∧ c ≤ 122) ∨ (65 ≤ c ∧ c ≤ 90)) ∧ (i = 0 ∨ (c ≠ 45 ∧ (c < 48 ∨ c > 57)))
instance (i : Nat) (c : Int) : Decidable (badC i c) := by unfold badC; infer_instance
def nameOk (s : ByteArray) : Bool := decide (1 ≤ s.size ∧ s.size ≤ 12 ∧ ∀ i, i < s.size → ¬ badC i (((bL s).getD i 0).toNat : Int))
theorem name_yes {s : ByteArray} {k : Nat} (h0 : 1 ≤ s.size) (h1 : s.size ≤ 12) (hk : s.size ≤ k) (h : ∀ j, j < k → ¬ badC j (((bL s).getD j 0).toNat : Int)) : nameOk s = true :=
  decide_eq_true ⟨h0, h1, fun i hi => h i (by omega)⟩
theorem name_bad {s : ByteArray} {k : Nat} (hk : k < s.size) (h : badC k (((bL s).getD k 0).toNat : Int)) : nameOk s = false := decide_eq_false fun hn => hn.2.2 k hk h
theorem name_step {s : ByteArray} {k : Nat} (h : ∀ j, j < k → ¬ badC j (((bL s).getD j 0).toNat : Int)) (hn : ¬ badC k (((bL s).getD k 0).toNat : Int)) : ∀ j, j < k + 1 → ¬ badC j (((bL s).getD j 0).toNat : Int) := by
  intro j hj
  rcases Nat.lt_or_ge j k with h3 | h3
  · exact h j h3
  · obtain rfl : j = k := by omega
    exact hn

@[reducible] def sName : Spec := { pats := [.dat .str], res := [{ t := .bool }], pre := fun x => x.1.size ≤ 1000000, f := fun x => (nameOk x.1, ()) }
def nameAnn (t : Nat) (s : ByteArray) : LoopAnn := { σ := Nat, pat := fun k => [sI t k], inv := fun k => k ≤ s.size ∧ ∀ j, j < k → ¬ badC j (((bL s).getD j 0).toNat : Int), meas := fun k => s.size - k }

/-- base.IsName -/
theorem h9t : Ok 9 sName := by
  refine mk (ctr := []) trivial (nt := 55) Tryd.func9 rfl rfl rfl rfl (by kernel_rfl) (by kernel_rfl) (fun x => [fun _ => nameAnn 3 x.1]) ?_
  rintro ⟨(s : ByteArray), _⟩ (hs : s.size ≤ 1000000)
  repeat' (intro hzz; (try (rename Two => hq; cases hq)); (try dsimp only at hzz); (try simp only [resTy, argTy, eqD, inR, big, wantOf, Bool.not_true, Bool.not_false, Bool.true_eq, decide_eq_true_eq, decide_eq_false_iff_not, Bool.not_eq_true', Bool.not_eq_false', Bool.and_eq_true, Prod.mk.injEq, and_true, true_and, Int.not_lt, Int.not_le, gt_iff_lt, ge_iff_le] at hzz); (try simp only [resTy, argTy, eqD, inR, big, wantOf, Bool.not_true, Bool.not_false, Bool.true_eq, decide_eq_true_eq, decide_eq_false_iff_not, Bool.not_eq_true', Bool.not_eq_false', Bool.and_eq_true, Prod.mk.injEq, and_true, true_and, Int.not_lt, Int.not_le, gt_iff_lt, ge_iff_le, Int.toNat_natCast] at hzz); (try (revert hzz; intro _)))
  all_goals try (rename Unit => hq; clear hq)
  all_goals try ((with_reducible refine Held.mk ?_); (with_reducible (first | refine Frz.mk ?_ | refine And.intro (Frz.mk ?_) ?_ | refine And.intro ?_ (Frz.mk ?_))); repeat' first | exact True.intro | (change _ = _; with_reducible rfl) | refine And.intro ?_ ?_ | (with_reducible refine Frz.mk ?_))
  all_goals try (refine Held.mk ?_; (try dsimp only at *); (try simp only [resTy, argTy, eqD, inR, big, wantOf, Bool.not_true, Bool.not_false, Bool.true_eq, decide_eq_true_eq, decide_eq_false_iff_not, Bool.not_eq_true', Bool.not_eq_false', Bool.and_eq_true, Prod.mk.injEq, and_true, true_and, Int.not_lt, Int.not_le, gt_iff_lt, ge_iff_le] at *); (try simp only [resTy, argTy, eqD, inR, big, wantOf, Bool.not_true, Bool.not_false, Bool.true_eq, decide_eq_true_eq, decide_eq_false_iff_not, Bool.not_eq_true', Bool.not_eq_false', Bool.and_eq_true, Prod.mk.injEq, and_true, true_and, Int.not_lt, Int.not_le, gt_iff_lt, ge_iff_le, Int.toNat_natCast] at *))
  all_goals try ((rename Nat => k; rename k ≤ s.size ∧ _ => hi; rename (k : Int) < _ => hlt; have hi1 := hi.1); refine GHeld.mk ?_; refine Exists.intro (k + 1) ?_; refine And.intro (Leaf.mk ?_) ?_; (focus ((repeat' first | exact True.intro | refine And.intro ?_ ?_); (all_goals try ((change _ = _ <;> try dsimp only) <;> try with_reducible rfl)); (all_goals try omega); (all_goals (rfl)))); (exact ⟨⟨(show k + 1 ≤ s.size by omega), name_step hi.2 (by unfold badC; dsimp only [bL]; omega)⟩, (show s.size - (k + 1) < s.size - k by omega)⟩))
  all_goals try (rename Nat => k; rename k ≤ s.size ∧ _ => hi; rename (k : Int) < _ => hlt; have hi1 := hi.1; first | omega | exact (name_bad (k := k) (by omega) (by unfold badC; dsimp only [bL]; omega)).symm)
  · exact (decide_eq_false fun h => by have := h.2.1; omega).symm
  ·
    refine GHeld.mk ?_
    refine Exists.intro (0 : Nat) ?_
    refine And.intro (Leaf.mk ?_) ?_
    · repeat' first | exact True.intro | refine And.intro ?_ ?_
      all_goals try ((change _ = _ <;> try dsimp only) <;> try with_reducible rfl)
      all_goals try omega
      all_goals (rfl)
    exact ⟨Nat.zero_le _, fun j hj => absurd hj (Nat.not_lt_zero j)⟩
  · rename_i k hi hlt
    exact name_yes (by omega) (by omega) (by omega) hi.2
  · exact (decide_eq_false fun h => by have := h.1; omega).symm

end Go.Eng.Lp
