/- Contracts on texts: Decimal, both FormatMargin, Cut. Conditions: each contract's own. -/
import Derived.Test.YtnficfhnfpbhkaaGreatDoorX1
import Derived.Test.YtnficfhnfpbhkaaGreatDoorQ16
namespace Go.Eng.Pu
open Go.Eng Go.Proofs Go.Lib
set_option linter.all false
set_option maxRecDepth 100000
set_option maxHeartbeats 8000000

abbrev pSize (n : Int) : Prop := -9000000000000000000 ≤ n ∧ n ≤ 9000000000000000000
abbrev fSize (n : Int) : Int := n.natAbs
@[reducible] def sSize : Spec := { pats := [.dat I64], res := [{ t := I64 }], pre := fun x => pSize x.1, f := fun x => (fSize x.1, ()) }
/-- base.Size -/
theorem h87t : Ok 56 sSize := by
  refine mk (ctr := []) trivial (nt := 7) Tryz.func56 rfl rfl rfl rfl (by kernel_rfl) (by kernel_rfl) (fun _ => []) ?_
  rintro ⟨(n : Int), _⟩ ⟨h1, h2⟩
  repeat' (intro hzz; (try (rename Two => hq; cases hq)); (try dsimp only at hzz); (try simp only [resTy, argTy, eqD, inR, big, wantOf, Bool.not_true, Bool.not_false, Bool.true_eq, decide_eq_true_eq, decide_eq_false_iff_not, Bool.not_eq_true', Bool.not_eq_false', Bool.and_eq_true, Prod.mk.injEq, and_true, true_and, Int.not_lt, Int.not_le, gt_iff_lt, ge_iff_le] at hzz); (try simp only [resTy, argTy, eqD, inR, big, wantOf, Bool.not_true, Bool.not_false, Bool.true_eq, decide_eq_true_eq, decide_eq_false_iff_not, Bool.not_eq_true', Bool.not_eq_false', Bool.and_eq_true, Prod.mk.injEq, and_true, true_and, Int.not_lt, Int.not_le, gt_iff_lt, ge_iff_le, pSize, fSize] at hzz); (try (revert hzz; intro _)))
  all_goals try (rename Unit => hq; clear hq)
  all_goals try ((with_reducible refine Held.mk ?_); (with_reducible (first | refine Frz.mk ?_ | refine And.intro (Frz.mk ?_) ?_ | refine And.intro ?_ (Frz.mk ?_))); repeat' first | exact True.intro | (change _ = _; with_reducible rfl) | refine And.intro ?_ ?_ | (with_reducible refine Frz.mk ?_))
  all_goals try (refine Held.mk ?_; (try dsimp only at *); (try simp only [resTy, argTy, eqD, inR, big, wantOf, Bool.not_true, Bool.not_false, Bool.true_eq, decide_eq_true_eq, decide_eq_false_iff_not, Bool.not_eq_true', Bool.not_eq_false', Bool.and_eq_true, Prod.mk.injEq, and_true, true_and, Int.not_lt, Int.not_le, gt_iff_lt, ge_iff_le] at *); (try simp only [resTy, argTy, eqD, inR, big, wantOf, Bool.not_true, Bool.not_false, Bool.true_eq, decide_eq_true_eq, decide_eq_false_iff_not, Bool.not_eq_true', Bool.not_eq_false', Bool.and_eq_true, Prod.mk.injEq, and_true, true_and, Int.not_lt, Int.not_le, gt_iff_lt, ge_iff_le, pSize, fSize] at *))
  all_goals try omega
  all_goals (simp only [cond_true]; split <;> omega)

/-! ### Decimal -/

def sg (n : Int) (r : Nat) : Int := if n < 0 then -(r : Int) else r
theorem sg_self (n : Int) : sg n n.natAbs = n := by simp only [sg]; split <;> omega
theorem sg_div (n : Int) (r : Nat) : (sg n r).tdiv 10 = sg n (r / 10) := by
  simp only [sg]
  split
  · rw [Int.neg_tdiv]; rfl
  · rfl
theorem sg_mod (n : Int) (r : Nat) : (sg n r).tmod 10 = sg n (r % 10) := by
  simp only [sg]
  split
  · rw [Int.neg_tmod]; rfl
  · rfl

def ddx (u : Nat) : List UInt8 := if u = 0 then [] else decDigits u
theorem ddx_step {u : Nat} (h : u ≠ 0) : ddx u = ddx (u / 10) ++ [UInt8.ofNat (48 + u % 10)] := by
  simp only [ddx]
  rw [if_neg h]
  by_cases h1 : u < 10
  · rw [if_pos (by omega), decDigits, dif_pos h1, Nat.mod_eq_of_lt h1]; rfl
  · rw [if_neg (by omega), decDigits, dif_neg h1]

theorem digit_text (k : Nat) (t : List UInt8) : strOfNums [48 + (k : Int)] ++ bA t = bA (UInt8.ofNat (48 + k) :: t) := by
  have : strOfNums [48 + (k : Int)] = bA [UInt8.ofNat (48 + k)] := by
    simp only [strOfNums, bA, List.map_cons, List.map_nil]
    rw [show (48 + (k : Int)).toNat = 48 + k by omega]
  rw [this, bA_append]; rfl

theorem sg_size (n : Int) (r : Nat) : fSize (sg n r) = r := by simp only [fSize, sg]; (repeat' split) <;> omega
theorem sg_zero {n : Int} {r : Nat} : sg n r = 0 ↔ r = 0 := by simp only [sg]; split <;> omega
theorem dec_len : ∀ (k u : Nat), u < 10 ^ k → 0 < k → (decDigits u).length ≤ k
  | 0, u, _, h => absurd h (Nat.lt_irrefl 0)
  | k + 1, u, h, _ => by
    rw [decDigits]
    split
    · simp
    · rename_i hu
      have hk : 0 < k := by
        rcases Nat.eq_zero_or_pos k with rfl | h1
        · simp at h; omega
        · exact h1
      have := dec_len k (u / 10) (by rw [Nat.pow_succ] at h; omega) hk
      simp only [List.length_append, List.length_cons, List.length_nil]; omega

theorem itoa_neg {n : Int} (h : n < 0) : itoa n = 45 :: decDigits n.natAbs := by unfold itoa; rw [if_pos h]
theorem itoa_pos {n : Int} (h : ¬ n < 0) : itoa n = decDigits n.natAbs := by unfold itoa; rw [if_neg h, show n.toNat = n.natAbs by omega]
theorem itoa_len {n : Int} (h0 : -9223372036854775808 ≤ n) (h1 : n ≤ 9223372036854775807) : (itoa n).length ≤ 20 := by
  have := dec_len 19 n.natAbs (by omega) (by decide)
  by_cases h : n < 0
  · rw [itoa_neg h, List.length_cons]; omega
  · rw [itoa_pos h]; omega

theorem digit_size (k : Nat) (t : List UInt8) : (strOfNums [48 + (k : Int)]).size + (bA t).size = t.length + 1 := by rw [strOfNums_size, bA_size]; simp [Nat.add_comm]

@[reducible] def sDecimal : Spec := { pats := [.dat I64], res := [{ t := .str }], pre := fun x => -9223372036854775808 ≤ x.1 ∧ x.1 ≤ 9223372036854775807, f := fun x => (bA (itoa x.1), ()) }
def decInv (n : Int) (s : Nat × List UInt8) : Prop := s.1 ≤ n.natAbs ∧ s.2.length ≤ 20 ∧ ddx s.1 ++ s.2 = decDigits n.natAbs
def decAnn (n : Int) : LoopAnn := { σ := Nat × List UInt8, pat := fun s => [sI 0 (sg n s.1), .slot 3 (.one (.d .str (bA s.2)))], inv := decInv n, meas := fun s => s.1 }

theorem dec_first {n : Int} (h : ¬ n = 0) : decInv n (n.natAbs, []) := by
  refine ⟨Nat.le_refl _, by simp, ?_⟩
  simp only [ddx]; rw [if_neg (by omega), List.append_nil]
theorem dec_next {n : Int} {r : Nat} {t : List UInt8} (h0 : -9223372036854775808 ≤ n) (h1 : n ≤ 9223372036854775807) (h : decInv n (r, t)) (hr : r ≠ 0) : decInv n (r / 10, UInt8.ofNat (48 + r % 10) :: t) := by
  obtain ⟨i1, i2, i3⟩ := h
  have e : ddx (r / 10) ++ (UInt8.ofNat (48 + r % 10) :: t) = decDigits n.natAbs := by
    rw [← i3, ddx_step hr, List.append_assoc]; rfl
  have hl := dec_len 19 n.natAbs (by omega) (by decide)
  refine ⟨(show r / 10 ≤ n.natAbs by have : r ≤ n.natAbs := i1; omega), ?_, e⟩
  have := congrArg List.length e
  rw [List.length_append] at this
  show (_ :: t).length ≤ 20
  omega
theorem dec_last {n : Int} {r : Nat} {t : List UInt8} (h : decInv n (r, t)) (hr : r = 0) : t = decDigits n.natAbs := by
  subst hr; exact h.2.2

/-- base.Decimal -/
theorem h25t : Ok 29 sDecimal := by
  refine mk (ctr := [(56, sSize)]) ⟨h87t, trivial⟩ (nt := 27) Tryz.func29 rfl rfl rfl rfl (by kernel_rfl) (by kernel_rfl) (fun x => [fun _ => decAnn x.1]) ?_
  rintro ⟨(n : Int), _⟩ ⟨(h0 : -9223372036854775808 ≤ n), (h1 : n ≤ 9223372036854775807)⟩
  repeat' (intro hzz; (try (rename Two => hq; cases hq)); (try dsimp only at hzz); (try simp only [resTy, argTy, eqD, inR, big, wantOf, Bool.not_true, Bool.not_false, Bool.true_eq, decide_eq_true_eq, decide_eq_false_iff_not, Bool.not_eq_true', Bool.not_eq_false', Bool.and_eq_true, Prod.mk.injEq, and_true, true_and, Int.not_lt, Int.not_le, gt_iff_lt, ge_iff_le] at hzz); (try simp only [resTy, argTy, eqD, inR, big, wantOf, Bool.not_true, Bool.not_false, Bool.true_eq, decide_eq_true_eq, decide_eq_false_iff_not, Bool.not_eq_true', Bool.not_eq_false', Bool.and_eq_true, Prod.mk.injEq, and_true, true_and, Int.not_lt, Int.not_le, gt_iff_lt, ge_iff_le, sg_mod, sg_div, sg_size, sg_zero] at hzz); (try (revert hzz; intro _)))
  all_goals try (rename Unit => hq; clear hq)
  all_goals try ((with_reducible refine Held.mk ?_); (with_reducible (first | refine Frz.mk ?_ | refine And.intro (Frz.mk ?_) ?_ | refine And.intro ?_ (Frz.mk ?_))); repeat' first | exact True.intro | (change _ = _; with_reducible rfl) | refine And.intro ?_ ?_ | (with_reducible refine Frz.mk ?_))
  all_goals try (refine Held.mk ?_; (try dsimp only at *); (try simp only [resTy, argTy, eqD, inR, big, wantOf, Bool.not_true, Bool.not_false, Bool.true_eq, decide_eq_true_eq, decide_eq_false_iff_not, Bool.not_eq_true', Bool.not_eq_false', Bool.and_eq_true, Prod.mk.injEq, and_true, true_and, Int.not_lt, Int.not_le, gt_iff_lt, ge_iff_le] at *); (try simp only [resTy, argTy, eqD, inR, big, wantOf, Bool.not_true, Bool.not_false, Bool.true_eq, decide_eq_true_eq, decide_eq_false_iff_not, Bool.not_eq_true', Bool.not_eq_false', Bool.and_eq_true, Prod.mk.injEq, and_true, true_and, Int.not_lt, Int.not_le, gt_iff_lt, ge_iff_le, sg_mod, sg_div, sg_size, sg_zero] at *))
  · rename_i h; subst h
    have : itoa 0 = [48] := by rw [itoa_pos (by decide), decDigits, dif_pos (by decide)]; rfl
    rw [this]; rfl
  all_goals try (rename_i s hi hr; obtain ⟨r, t⟩ := s; have hi1 : r ≤ n.natAbs := hi.1; have hi2 : t.length ≤ 20 := hi.2.1; dsimp only at hr ⊢)
  all_goals try omega
  all_goals try (simp only [pSize, sg]; split <;> omega)
  all_goals try (refine ⟨by decide, ?_⟩; simp only [sg]; split <;> omega)
  all_goals try (rw [digit_size]; omega)
  ·
    refine GHeld.mk ?_
    refine Exists.intro (n.natAbs, ([] : List UInt8)) ?_
    refine And.intro (Leaf.mk ?_) ?_
    · repeat' first | exact True.intro | refine And.intro ?_ ?_
      all_goals try ((change _ = _ <;> try dsimp only) <;> try with_reducible rfl)
      all_goals try omega
      all_goals (first | rfl | exact (sg_self n).symm)
    exact dec_first (by assumption)
  ·
    refine GHeld.mk ?_
    refine Exists.intro (r / 10, UInt8.ofNat (48 + r % 10) :: t) ?_
    refine And.intro (Leaf.mk ?_) ?_
    · repeat' first | exact True.intro | refine And.intro ?_ ?_
      all_goals try ((change _ = _ <;> try dsimp only) <;> try with_reducible rfl)
      all_goals try omega
      all_goals (first | rfl | exact sg_div n r | (rw [sg_mod, sg_size]; exact digit_text _ _))
    exact ⟨dec_next h0 h1 hi hr, (show r / 10 < r by omega)⟩
  · rw [bA_size]; show 1 + _ ≤ _; omega
  · rw [dec_last hi hr]
    rename_i hn
    rw [itoa_neg hn]; exact bA_append [45] _
  ·
    refine GHeld.mk ?_
    refine Exists.intro (n.natAbs, ([] : List UInt8)) ?_
    refine And.intro (Leaf.mk ?_) ?_
    · repeat' first | exact True.intro | refine And.intro ?_ ?_
      all_goals try ((change _ = _ <;> try dsimp only) <;> try with_reducible rfl)
      all_goals try omega
      all_goals (first | rfl | exact (sg_self n).symm)
    exact dec_first (by assumption)
  ·
    refine GHeld.mk ?_
    refine Exists.intro (r / 10, UInt8.ofNat (48 + r % 10) :: t) ?_
    refine And.intro (Leaf.mk ?_) ?_
    · repeat' first | exact True.intro | refine And.intro ?_ ?_
      all_goals try ((change _ = _ <;> try dsimp only) <;> try with_reducible rfl)
      all_goals try omega
      all_goals (first | rfl | exact sg_div n r | (rw [sg_mod, sg_size]; exact digit_text _ _))
    exact ⟨dec_next h0 h1 hi hr, (show r / 10 < r by omega)⟩
  · rw [bA_size]; show 0 + _ ≤ _; omega
  · rw [dec_last hi hr]
    rename_i hn
    rw [itoa_pos (by omega)]; exact bA_append [] _


@[reducible] def sOwnS (t k el : Nat) (xs : List ByteArray) : St := [.slot t (.one (.o k xs.length)), .row k el .str xs]
/-! ### Texts of registers -/

/-- The text of a register. -/
def fmtP (n : Int) (l : List Int) : List UInt8 := itoa n ++ l.flatMap fun t => 32 :: itoa t
theorem fmtP_snoc (n : Int) (l : List Int) (t : Int) : fmtP n (l ++ [t]) = fmtP n l ++ 32 :: itoa t := by simp [fmtP]
theorem fmtP_len (n : Int) (hn : (itoa n).length ≤ 20) : ∀ l : List Int, (∀ t ∈ l, (itoa t).length ≤ 20) → (fmtP n l).length ≤ 20 + 21 * l.length := by
  intro l h
  have : ∀ l : List Int, (∀ t ∈ l, (itoa t).length ≤ 20) → (l.flatMap fun t => 32 :: itoa t).length ≤ 21 * l.length := by
    intro l
    induction l with
    | nil => intro _; simp
    | cons t r ih =>
      intro h
      have h1 := h t List.mem_cons_self
      have h2 := ih fun u hu => h u (List.mem_cons_of_mem _ hu)
      simp only [List.flatMap_cons, List.length_append, List.length_cons]
      omega
  have := this l h
  simp only [fmtP, List.length_append]
  omega
/-- The pieces of a register's text. -/
def fmtL (n : Int) (l : List Int) (k : Nat) : List ByteArray := bA (itoa n) :: (l.take k).map fun t => bA (itoa t)
theorem join_fmt (n : Int) (l : List Int) : joinB (fmtL n l l.length) 32 = bA (fmtP n l) := by
  unfold joinB fmtL fmtP
  congr 1
  rw [List.take_length, List.map_cons, Lib.join_cons, bL_bA]
  unfold Lib.joinTail
  rw [List.map_map, List.map_map, List.flatMap_def]
  have e : ∀ t : Int, [32] ++ bL (bA (itoa t)) = 32 :: itoa t := fun t => by rw [bL_bA]; rfl
  show _ ++ (List.map (fun t => [32] ++ bL (bA (itoa t))) l).flatten = _
  simp only [e]
theorem fmtL_step {n : Int} {l : List Int} {k : Nat} (hk : k < l.length) : fmtL n l (k + 1) = fmtL n l k ++ [bA (itoa (l.getD k 0))] := by
  unfold fmtL
  rw [List.take_add_one, List.getElem?_eq_getElem hk, List.getD_eq_getElem?_getD, List.getElem?_eq_getElem hk, List.map_append]
  rfl
theorem fmtL_len {n : Int} {l : List Int} {k : Nat} (hk : k ≤ l.length) : (fmtL n l k).length = k + 1 := by
  simp only [fmtL, List.length_cons, List.length_map, List.length_take]; omega
theorem fmt_eq (l t : List UInt8) : bA l ++ (⟨#[32]⟩ : ByteArray) ++ bA t = bA (l ++ 32 :: t) := by
  refine bL_inj ?_
  rw [bL_append, bL_append, bL_bA, bL_bA, bL_bA, List.append_assoc]; rfl
theorem take_snoc {l : List Int} {k : Nat} (hk : k < l.length) : l.take (k + 1) = l.take k ++ [l.getD k 0] := by
  rw [List.take_add_one, List.getElem?_eq_getElem hk, List.getD_eq_getElem?_getD, List.getElem?_eq_getElem hk]
  simp

/-- All numbers of a register lie within the machine's. -/
def regIn (n : Int) (l : List Int) : Prop := (-9223372036854775808 ≤ n ∧ n ≤ 9223372036854775807) ∧ (∀ t ∈ l, -9223372036854775808 ≤ t ∧ t ≤ 9223372036854775807) ∧ l.length ≤ 12
theorem regIn.tap {n : Int} {l : List Int} (h : regIn n l) (k : Nat) : -9223372036854775808 ≤ l.getD k 0 ∧ l.getD k 0 ≤ 9223372036854775807 := by
  rw [List.getD_eq_getElem?_getD]
  cases hk : l[k]? with
  | none => decide
  | some t => exact h.2.1 t (List.mem_of_getElem? hk)
theorem regIn.size {n : Int} {l : List Int} (h : regIn n l) (k : Nat) : (fmtP n (l.take k)).length ≤ 300 := by
  have := fmtP_len n (itoa_len h.1.1 h.1.2) (l.take k) (fun t ht => itoa_len (h.2.1 t (List.mem_of_mem_take ht)).1 (h.2.1 t (List.mem_of_mem_take ht)).2)
  have h2 := h.2.2
  rw [List.length_take] at this
  omega
theorem regIn.full {n : Int} {l : List Int} (h : regIn n l) : (fmtP n l).length ≤ 300 := by have := h.size l.length; rwa [List.take_length] at this

@[reducible] def sFmt : Spec := { pats := [.dat Reg0, .gw 3 PowT], res := [{ t := .str }], pre := fun x => regIn x.1.1 x.1.2.1 ∧ x.2.1 = powD, f := fun x => (bA (fmtP x.1.1 x.1.2.1), ()) }
def fmAnn (n : Int) (l : List Int) : LoopAnn := { σ := Nat, pat := fun k => [sI 13 k, .slot 9 (.one .u)] ++ sOwnS 3 9 9 (fmtL n l k), inv := fun k => k ≤ l.length, meas := fun k => l.length - k }
/-- pulse.FormatRegister -/
theorem h5t : Ok 5 sFmt := by
  refine mk (ctr := [(20, sItoa), (21, sJoin)]) ⟨hItoa, hJoin, trivial⟩ (nt := 25) Tryz.func5 rfl rfl rfl rfl (by kernel_rfl) (by kernel_rfl) (fun x => [fun _ => fmAnn x.1.1 x.1.2.1]) ?_
  rintro ⟨⟨(n : Int), (l : List Int), _⟩, (p : PowT.Den), _⟩ ⟨(hr : regIn n l), (hp : p = powD)⟩
  have hl := hr.2.2
  repeat' (intro hzz; (try (rename Two => hq; cases hq)); (try dsimp only at hzz); (try simp only [resTy, argTy, eqD, inR, big, wantOf, Bool.not_true, Bool.not_false, Bool.true_eq, decide_eq_true_eq, decide_eq_false_iff_not, Bool.not_eq_true', Bool.not_eq_false', Bool.and_eq_true, Prod.mk.injEq, and_true, true_and, Int.not_lt, Int.not_le, gt_iff_lt, ge_iff_le] at hzz); (try simp only [resTy, argTy, eqD, inR, big, wantOf, Bool.not_true, Bool.not_false, Bool.true_eq, decide_eq_true_eq, decide_eq_false_iff_not, Bool.not_eq_true', Bool.not_eq_false', Bool.and_eq_true, Prod.mk.injEq, and_true, true_and, Int.not_lt, Int.not_le, gt_iff_lt, ge_iff_le, getD_i, List.length_append, List.length_cons, List.length_nil] at hzz); (try (revert hzz; intro _)))
  all_goals try (rename Unit => hq; clear hq)
  all_goals try ((with_reducible refine Held.mk ?_); (with_reducible (first | refine Frz.mk ?_ | refine And.intro (Frz.mk ?_) ?_ | refine And.intro ?_ (Frz.mk ?_))); repeat' first | exact True.intro | (change _ = _; with_reducible rfl) | refine And.intro ?_ ?_ | (with_reducible refine Frz.mk ?_))
  all_goals try (refine Held.mk ?_; (try dsimp only at *); (try simp only [resTy, argTy, eqD, inR, big, wantOf, Bool.not_true, Bool.not_false, Bool.true_eq, decide_eq_true_eq, decide_eq_false_iff_not, Bool.not_eq_true', Bool.not_eq_false', Bool.and_eq_true, Prod.mk.injEq, and_true, true_and, Int.not_lt, Int.not_le, gt_iff_lt, ge_iff_le] at *); (try simp only [resTy, argTy, eqD, inR, big, wantOf, Bool.not_true, Bool.not_false, Bool.true_eq, decide_eq_true_eq, decide_eq_false_iff_not, Bool.not_eq_true', Bool.not_eq_false', Bool.and_eq_true, Prod.mk.injEq, and_true, true_and, Int.not_lt, Int.not_le, gt_iff_lt, ge_iff_le, getD_i, List.length_append, List.length_cons, List.length_nil] at *))
  · exact ⟨hr.1, hp⟩
  ·
    refine GHeld.mk ?_
    refine Exists.intro (0 : Nat) ?_
    refine And.intro (Leaf.mk ?_) ?_
    · repeat' first | exact True.intro | refine And.intro ?_ ?_
      all_goals try ((change _ = _ <;> try dsimp only) <;> try with_reducible rfl)
      all_goals try omega
      all_goals (rfl)
    exact Nat.zero_le _
  · omega
  · exact ⟨hr.tap _, hp⟩
  · rename_i k hk hlt
    rw [fmtL_len hk]; omega
  · omega
  · rename_i k hk hlt
    have hk2 : k < l.length := by omega
    have e := fmtL_step (n := n) hk2
    refine GHeld.mk ?_
    refine Exists.intro (k + 1) ?_
    refine And.intro (Leaf.mk ?_) ?_
    · repeat' first | exact True.intro | refine And.intro ?_ ?_
      all_goals try ((change _ = _ <;> try dsimp only) <;> try with_reducible rfl)
      all_goals try omega
      all_goals (first | rfl | exact e.symm | exact e | (rw [e]; done) | exact congrArg List.length e | exact (congrArg List.length e).symm | (rw [e, List.length_append]; rfl) | (rw [e]; simp))
    exact ⟨(show k + 1 ≤ l.length by omega), (show l.length - (k + 1) < l.length - k by omega)⟩
  · rename_i k hk hlt
    obtain rfl : k = l.length := by omega
    have hf := hr.full
    exact ⟨rfl, by rw [fmtL_len (Nat.le_refl _)]; omega, by rw [join_fmt, bA_size]; omega⟩
  · rename_i k hk hlt
    obtain rfl : k = l.length := by omega
    exact join_fmt n l

@[reducible] def sFmtR : Spec := { pats := [.dat Reg0], res := [{ t := .str }], pre := fun x => regIn x.1.1 x.1.2.1, f := fun x => (bA (fmtP x.1.1 x.1.2.1), ()) }
def fmAnnR (n : Int) (l : List Int) : LoopAnn := { σ := Nat, pat := fun k => [sI 4 k, .slot 3 (.one (.d .str (bA (fmtP n (l.take k)))))], inv := fun k => k ≤ l.length, meas := fun k => l.length - k }
/-- ref.FormatRegister -/
theorem h9t : Ok 9 sFmtR := by
  refine mk (ctr := [(29, sDecimal)]) ⟨h25t, trivial⟩ (nt := 25) Tryz.func9 rfl rfl rfl rfl (by kernel_rfl) (by kernel_rfl) (fun x => [fun _ => fmAnnR x.1.1 x.1.2.1]) ?_
  rintro ⟨⟨(n : Int), (l : List Int), _⟩, _⟩ (hr : regIn n l)
  have hl := hr.2.2
  repeat' (intro hzz; (try (rename Two => hq; cases hq)); (try dsimp only at hzz); (try simp only [resTy, argTy, eqD, inR, big, wantOf, Bool.not_true, Bool.not_false, Bool.true_eq, decide_eq_true_eq, decide_eq_false_iff_not, Bool.not_eq_true', Bool.not_eq_false', Bool.and_eq_true, Prod.mk.injEq, and_true, true_and, Int.not_lt, Int.not_le, gt_iff_lt, ge_iff_le] at hzz); (try simp only [resTy, argTy, eqD, inR, big, wantOf, Bool.not_true, Bool.not_false, Bool.true_eq, decide_eq_true_eq, decide_eq_false_iff_not, Bool.not_eq_true', Bool.not_eq_false', Bool.and_eq_true, Prod.mk.injEq, and_true, true_and, Int.not_lt, Int.not_le, gt_iff_lt, ge_iff_le, getD_i, bA_size, ByteArray.size_append] at hzz); (try (revert hzz; intro _)))
  all_goals try (rename Unit => hq; clear hq)
  all_goals try ((with_reducible refine Held.mk ?_); (with_reducible (first | refine Frz.mk ?_ | refine And.intro (Frz.mk ?_) ?_ | refine And.intro ?_ (Frz.mk ?_))); repeat' first | exact True.intro | (change _ = _; with_reducible rfl) | refine And.intro ?_ ?_ | (with_reducible refine Frz.mk ?_))
  all_goals try (refine Held.mk ?_; (try dsimp only at *); (try simp only [resTy, argTy, eqD, inR, big, wantOf, Bool.not_true, Bool.not_false, Bool.true_eq, decide_eq_true_eq, decide_eq_false_iff_not, Bool.not_eq_true', Bool.not_eq_false', Bool.and_eq_true, Prod.mk.injEq, and_true, true_and, Int.not_lt, Int.not_le, gt_iff_lt, ge_iff_le] at *); (try simp only [resTy, argTy, eqD, inR, big, wantOf, Bool.not_true, Bool.not_false, Bool.true_eq, decide_eq_true_eq, decide_eq_false_iff_not, Bool.not_eq_true', Bool.not_eq_false', Bool.and_eq_true, Prod.mk.injEq, and_true, true_and, Int.not_lt, Int.not_le, gt_iff_lt, ge_iff_le, getD_i, bA_size, ByteArray.size_append] at *))
  · exact hr.1
  ·
    refine GHeld.mk ?_
    refine Exists.intro (0 : Nat) ?_
    refine And.intro (Leaf.mk ?_) ?_
    · repeat' first | exact True.intro | refine And.intro ?_ ?_
      all_goals try ((change _ = _ <;> try dsimp only) <;> try with_reducible rfl)
      all_goals try omega
      all_goals (first | rfl | (simp [fmtP]))
    exact Nat.zero_le _
  · rename_i k hk hlt
    have := hr.size k; show _ + 1 ≤ _; omega
  · omega
  · exact hr.tap _
  · rename_i k hk hlt
    have := hr.size k; have h2 := itoa_len (hr.tap k).1 (hr.tap k).2; show _ + 1 + _ ≤ _; omega
  · omega
  · rename_i k hk hlt
    have hk2 : k < l.length := by omega
    have e := take_snoc hk2
    refine GHeld.mk ?_
    refine Exists.intro (k + 1) ?_
    refine And.intro (Leaf.mk ?_) ?_
    · repeat' first | exact True.intro | refine And.intro ?_ ?_
      all_goals try ((change _ = _ <;> try dsimp only) <;> try with_reducible rfl)
      all_goals try omega
      all_goals (first | rfl | (rw [e, fmtP_snoc]; exact fmt_eq _ _))
    exact ⟨(show k + 1 ≤ l.length by omega), (show l.length - (k + 1) < l.length - k by omega)⟩
  · rename_i k hk hlt
    obtain rfl : k = l.length := by omega
    rw [List.take_length]

/-! ### Cut -/

@[reducible] def sCut : Spec := { pats := [.dat .str, .dat (.int .u8)], res := [{ t := .sl .str }], pre := fun x => x.1.size ≤ 1000000 ∧ x.2.1 = 32, f := fun x => (cutB 32 x.1, ()) }
/-- How far the text is cut. -/
def cutSt (l : List UInt8) : Nat → List ByteArray × Nat
  | 0 => ([], 0)
  | k + 1 => if l.getD k 0 = 32 then ((cutSt l k).1 ++ [bA ((l.drop (cutSt l k).2).take (k - (cutSt l k).2))], k + 1) else cutSt l k

theorem cut_bd (l : List UInt8) : ∀ k, (cutSt l k).2 ≤ k ∧ (cutSt l k).1.length ≤ k
  | 0 => ⟨Nat.le_refl _, Nat.le_refl _⟩
  | k + 1 => by
    have := cut_bd l k
    simp only [cutSt]
    split
    · simp only [List.length_append, List.length_cons, List.length_nil]; omega
    · omega

theorem cut_inv (l : List UInt8) : ∀ k, k ≤ l.length → (cutSt l k).1.map bL ++ [(l.drop (cutSt l k).2).take (k - (cutSt l k).2)] = piecesL 32 (l.take k)
  | 0, _ => by simp [cutSt, piecesL]
  | k + 1, hk => by
    have ih := cut_inv l k (by omega)
    have hb := cut_bd l k
    have ht : l.take (k + 1) = l.take k ++ [l.getD k 0] := by
      rw [List.take_add_one, List.getElem?_eq_getElem (by omega), List.getD_eq_getElem?_getD, List.getElem?_eq_getElem (by omega)]; rfl
    rw [ht, pieces_app, ← ih]
    simp only [List.dropLast_concat, List.getLastD_concat, cutSt, piecesL]
    by_cases h : l.getD k 0 = 32
    · rw [if_pos h, if_pos h]
      simp [bL_bA]
    · rw [if_neg h, if_neg h]
      simp only [List.append_cancel_left_eq, List.cons.injEq, and_true]
      rw [show k + 1 - (cutSt l k).2 = (k - (cutSt l k).2) + 1 by omega, List.take_add_one, List.getElem?_drop, show (cutSt l k).2 + (k - (cutSt l k).2) = k by omega, List.getElem?_eq_getElem (by omega), List.getD_eq_getElem?_getD, List.getElem?_eq_getElem (by omega)]
      rfl

theorem cut_end (s : ByteArray) : (cutSt (bL s) s.size).1 ++ [s.extract (cutSt (bL s) s.size).2 s.size] = cutB 32 s := by
  have h := cut_inv (bL s) s.size (Nat.le_of_eq (bL_len s).symm)
  rw [List.take_of_length_le (Nat.le_of_eq (bL_len s))] at h
  simp only [cutB, ← h, List.map_append, List.map_map, List.map_cons, List.map_nil]
  have : (bA ∘ fun x : ByteArray => x.data.toList) = id := by funext x; exact bA_bL x
  rw [this, List.map_id]
  congr 2
  exact bL_inj (by rw [bL_bA, bL_extract])

theorem cut_yes (s : ByteArray) (k : Nat) (h : (((bL s).getD k 0).toNat : Int) = 32) : cutSt (bL s) (k + 1) = ((cutSt (bL s) k).1 ++ [s.extract (cutSt (bL s) k).2 k], k + 1) := by
  have h : (bL s).getD k 0 = 32 := UInt8.toNat_inj.1 (by show _ = 32; omega)
  have e : s.extract (cutSt (bL s) k).2 k = bA (((bL s).drop (cutSt (bL s) k).2).take (k - (cutSt (bL s) k).2)) := bL_inj (by rw [bL_bA, bL_extract])
  simp only [cutSt]
  rw [if_pos h, e]
theorem cut_no (s : ByteArray) (k : Nat) (h : ¬ (((bL s).getD k 0).toNat : Int) = 32) : cutSt (bL s) (k + 1) = cutSt (bL s) k := by
  have h : ¬ (bL s).getD k 0 = 32 := fun e => h (by rw [e]; rfl)
  simp only [cutSt]
  rw [if_neg h]

def cutAnn (s : ByteArray) : LoopAnn := { σ := Nat, pat := fun k => [sI 7 k, sI 6 (cutSt (bL s) k).2] ++ sOwnS 5 60005 9 (cutSt (bL s) k).1, inv := fun k => k ≤ s.size, meas := fun k => s.size - k }

/-- base.Cut -/
theorem h23t : Ok 27 sCut := by
  refine mk (ctr := []) trivial (nt := 34) Tryz.func27 rfl rfl rfl rfl (by kernel_rfl) (by kernel_rfl) (fun x => [fun _ => cutAnn x.1]) ?_
  rintro ⟨(s : ByteArray), (c : Int), _⟩ ⟨(hs : s.size ≤ 1000000), (hc : c = 32)⟩
  subst hc
  repeat' (intro hzz; (try (rename Two => hq; cases hq)); (try dsimp only at hzz); (try simp only [resTy, argTy, eqD, inR, big, wantOf, Bool.not_true, Bool.not_false, Bool.true_eq, decide_eq_true_eq, decide_eq_false_iff_not, Bool.not_eq_true', Bool.not_eq_false', Bool.and_eq_true, Prod.mk.injEq, and_true, true_and, Int.not_lt, Int.not_le, gt_iff_lt, ge_iff_le] at hzz); (try simp only [resTy, argTy, eqD, inR, big, wantOf, Bool.not_true, Bool.not_false, Bool.true_eq, decide_eq_true_eq, decide_eq_false_iff_not, Bool.not_eq_true', Bool.not_eq_false', Bool.and_eq_true, Prod.mk.injEq, and_true, true_and, Int.not_lt, Int.not_le, gt_iff_lt, ge_iff_le, Int.toNat_natCast, List.length_append, List.length_cons, List.length_nil] at hzz); (try (revert hzz; intro _)))
  all_goals try (rename Unit => hq; clear hq)
  all_goals try ((with_reducible refine Held.mk ?_); (with_reducible (first | refine Frz.mk ?_ | refine And.intro (Frz.mk ?_) ?_ | refine And.intro ?_ (Frz.mk ?_))); repeat' first | exact True.intro | (change _ = _; with_reducible rfl) | refine And.intro ?_ ?_ | (with_reducible refine Frz.mk ?_))
  all_goals try (refine Held.mk ?_; (try dsimp only at *); (try simp only [resTy, argTy, eqD, inR, big, wantOf, Bool.not_true, Bool.not_false, Bool.true_eq, decide_eq_true_eq, decide_eq_false_iff_not, Bool.not_eq_true', Bool.not_eq_false', Bool.and_eq_true, Prod.mk.injEq, and_true, true_and, Int.not_lt, Int.not_le, gt_iff_lt, ge_iff_le] at *); (try simp only [resTy, argTy, eqD, inR, big, wantOf, Bool.not_true, Bool.not_false, Bool.true_eq, decide_eq_true_eq, decide_eq_false_iff_not, Bool.not_eq_true', Bool.not_eq_false', Bool.and_eq_true, Prod.mk.injEq, and_true, true_and, Int.not_lt, Int.not_le, gt_iff_lt, ge_iff_le, Int.toNat_natCast, List.length_append, List.length_cons, List.length_nil] at *))
  all_goals try (rename_i k hk hlt hcc; have hb := cut_bd (bL s) k; omega)
  all_goals try (rename_i k hk hlt; have hb := cut_bd (bL s) k; omega)
  ·
    refine GHeld.mk ?_
    refine Exists.intro (0 : Nat) ?_
    refine And.intro (Leaf.mk ?_) ?_
    · repeat' first | exact True.intro | refine And.intro ?_ ?_
      all_goals try ((change _ = _ <;> try dsimp only) <;> try with_reducible rfl)
      all_goals try omega
      all_goals (rfl)
    exact Nat.zero_le _
  · rename_i k hk hlt hcc
    have e := cut_yes s k hcc
    refine GHeld.mk ?_
    refine Exists.intro (k + 1) ?_
    refine And.intro (Leaf.mk ?_) ?_
    · repeat' first | exact True.intro | refine And.intro ?_ ?_
      all_goals try ((change _ = _ <;> try dsimp only) <;> try with_reducible rfl)
      all_goals try omega
      all_goals (first | rfl | exact e.symm | exact e | (rw [e]; done) | exact congrArg List.length e | exact (congrArg List.length e).symm | (rw [e, List.length_append]; rfl) | (rw [e]; simp))
    exact ⟨(show k + 1 ≤ s.size by omega), (show s.size - (k + 1) < s.size - k by omega)⟩
  · rename_i k hk hlt hcc
    have e := cut_no s k hcc
    refine GHeld.mk ?_
    refine Exists.intro (k + 1) ?_
    refine And.intro (Leaf.mk ?_) ?_
    · repeat' first | exact True.intro | refine And.intro ?_ ?_
      all_goals try ((change _ = _ <;> try dsimp only) <;> try with_reducible rfl)
      all_goals try omega
      all_goals (first | rfl | exact e.symm | exact e | (rw [e]; done) | exact congrArg List.length e | exact (congrArg List.length e).symm | (rw [e, List.length_append]; rfl) | (rw [e]; simp))
    exact ⟨(show k + 1 ≤ s.size by omega), (show s.size - (k + 1) < s.size - k by omega)⟩
  · rename_i k hk hlt
    obtain rfl : k = s.size := by omega
    exact cut_end s

end Go.Eng.Pu
