/- Contracts on texts: Number. Conditions: each contract's own. -/
import Derived.Test.YtnficfhnfpbhkaaGreatDoorX2
namespace Go.Eng.Pu
open Go.Eng Go.Proofs Go.Lib
set_option linter.all false
set_option maxRecDepth 100000
set_option maxHeartbeats 8000000

theorem map_getD (l : List UInt8) (k : Nat) : (List.map (fun b : UInt8 => (b.toNat : Int)) l).getD k (Ty.int IntKind.u8).dflt = ((l.getD k 0).toNat : Int) := by
  show (List.map (fun b : UInt8 => (b.toNat : Int)) l).getD k 0 = _
  rw [List.getD_eq_getElem?_getD, List.getD_eq_getElem?_getD, List.getElem?_map]
  cases l[k]? <;> rfl
theorem data_len (s : ByteArray) : s.data.toList.length = s.size := bL_len s

def numAt (s : ByteArray) : Nat := if (signL (bL s)).1 then 1 else 0

@[reducible] def sNumberT : Spec := { pats := [.dat .str, .dat I64], res := [{ t := I64 }, { t := .bool }], pre := fun x => x.1.size ≤ 1000000 ∧ 1 ≤ x.2.1 ∧ x.2.1 ≤ 18, f := fun x => (if numOk (bL x.1) (Int.toNat x.2.1) then numV (bL x.1) else 0, numOk (bL x.1) (Int.toNat x.2.1), ()) }
def numAnn (s : ByteArray) : LoopAnn := { σ := Nat, pat := fun k => [sI 8 ((numAt s : Int) + k), sI 7 (dval ((signL (bL s)).2.take k))], inv := fun k => k ≤ (signL (bL s)).2.length ∧ ((signL (bL s)).2.take k).all isDigB = true, meas := fun k => (signL (bL s)).2.length - k }

theorem sign_cases (l : List UInt8) : (∃ d, l = 45 :: d ∧ signL l = (true, d)) ∨ (l.getD 0 0 ≠ 45 ∧ signL l = (false, l)) := by
  cases l with
  | nil => exact .inr ⟨by decide, rfl⟩
  | cons b r =>
    by_cases h : b = 45
    · subst h; exact .inl ⟨r, rfl, rfl⟩
    · exact .inr ⟨h, signL_pos (by simpa using h)⟩

theorem num_byte (s : ByteArray) (k : Nat) : s.data.toList.getD ((numAt s : Int) + (k : Int)).toNat 0 = (signL (bL s)).2.getD k 0 := by
  rw [show ((numAt s : Int) + (k : Int)).toNat = numAt s + k by omega]
  show (bL s).getD _ 0 = _
  simp only [numAt]
  rcases sign_cases (bL s) with ⟨d, h1, h2⟩ | ⟨h1, h2⟩
  · rw [h2, h1, if_pos rfl, Nat.add_comm]; rfl
  · rw [h2, if_neg (by simp), Nat.zero_add]

theorem num_size (s : ByteArray) : s.size = numAt s + (signL (bL s)).2.length := by
  rw [← bL_len s]
  simp only [numAt]
  rcases sign_cases (bL s) with ⟨d, h1, h2⟩ | ⟨h1, h2⟩
  · rw [h2, h1, if_pos rfl, List.length_cons, Nat.add_comm]
  · rw [h2, if_neg (by simp), Nat.zero_add]

theorem num_no1 {l : List UInt8} {k : Nat} (h : (signL l).2.length = 0) : numOk l k = false := by
  have : (signL l).2 = [] := List.eq_nil_of_length_eq_zero h
  simp [numOk, this]
theorem num_no2 {l : List UInt8} {k : Nat} (h : k < (signL l).2.length) : numOk l k = false := by
  have : ¬ (signL l).2.length ≤ k := by omega
  simp [numOk, this]
theorem num_no3 {l : List UInt8} {k : Nat} (h0 : 0 < (signL l).2.length) (h : ((signL l).2.getD 0 0).toNat = 48) (h1 : 1 < l.length) : numOk l k = false := by
  have : (signL l).2.head? = some 48 := by
    cases hd : (signL l).2 with
    | nil => rw [hd] at h0; simp at h0
    | cons b r => rw [hd] at h; rw [List.head?_cons]; congr 1; exact UInt8.toNat_inj.1 h
  simp [numOk, this, h1]
theorem num_no4 {l : List UInt8} {k j : Nat} (hj : j < (signL l).2.length) (h : ¬ (48 ≤ ((signL l).2.getD j 0).toNat ∧ ((signL l).2.getD j 0).toNat ≤ 57)) : numOk l k = false := by
  have : (signL l).2.all isDigB = false := by
    rw [List.all_eq_false]
    refine ⟨(signL l).2[j], List.getElem_mem hj, ?_⟩
    rw [List.getD_eq_getElem?_getD, List.getElem?_eq_getElem hj] at h
    simp only [isDigB, decide_eq_true_eq]; exact h
  simp [numOk, this]
theorem num_yes {l : List UInt8} {k : Nat} (h0 : 0 < (signL l).2.length) (h1 : (signL l).2.length ≤ k) (h2 : ¬ (((signL l).2.getD 0 0).toNat = 48 ∧ 1 < l.length)) (h3 : (signL l).2.all isDigB = true) : numOk l k = true := by
  have hne : (signL l).2 ≠ [] := List.length_pos_iff.1 h0
  have hh : ¬ ((signL l).2.head? = some 48 ∧ 1 < l.length) := fun h => h2 ⟨by
    cases hd : (signL l).2 with
    | nil => exact absurd hd hne
    | cons b r => rw [hd] at h; have : b = 48 := by simpa using h.1
                  subst this; rfl, h.2⟩
  simp only [numOk, h3, h1, Bool.true_and, Bool.and_eq_true, Bool.not_eq_true', List.isEmpty_eq_false_iff, decide_eq_true_eq, Bool.and_eq_false_imp, decide_eq_false_iff_not]
  exact ⟨⟨hne, trivial⟩, fun h4 h5 => hh ⟨h4, h5⟩⟩
theorem take_step {d : List UInt8} {k : Nat} (hk : k < d.length) (h : (d.take k).all isDigB = true) (hd : 48 ≤ (d.getD k 0).toNat ∧ (d.getD k 0).toNat ≤ 57) :
    (d.take (k + 1)).all isDigB = true ∧ dval (d.take (k + 1)) = 10 * dval (d.take k) + ((d.getD k 0).toNat - 48) := by
  have e : d.take (k + 1) = d.take k ++ [d.getD k 0] := by
    rw [List.take_add_one, List.getD_eq_getElem?_getD, List.getElem?_eq_getElem hk]; rfl
  rw [e]
  refine ⟨?_, dval_snoc _ _⟩
  rw [List.all_append, h]
  simp only [List.all_cons, List.all_nil, Bool.and_true, Bool.true_and, isDigB]
  exact decide_eq_true hd
theorem take_lt {d : List UInt8} {k : Nat} (h : (d.take k).all isDigB = true) (hl : d.length ≤ 18) : dval (d.take k) < 1000000000000000000 := by
  have h1 := dval_lt _ h
  have h2 : (d.take k).length ≤ 18 := by rw [List.length_take]; omega
  have h3 : 10 ^ (d.take k).length ≤ 10 ^ 18 := Nat.pow_le_pow_right (by decide) h2
  omega

theorem num_out_no {l : List UInt8} {k : Nat} (h : numOk l k = false) : (0 = if numOk l k = true then numV l else 0) ∧ false = numOk l k := by rw [h]; exact ⟨rfl, rfl⟩
theorem num_out_yes {l : List UInt8} {k : Nat} {v : Int} (h : numOk l k = true) (hv : v = numV l) : (v = if numOk l k = true then numV l else 0) ∧ numOk l k = true := ⟨by rw [if_pos h]; exact hv, h⟩

theorem take_lt17 {d : List UInt8} {k : Nat} (h : (d.take k).all isDigB = true) (hl : k ≤ 17) : dval (d.take k) < 100000000000000000 := by
  have h1 := dval_lt _ h
  have h2 : (d.take k).length ≤ 17 := by rw [List.length_take]; omega
  have h3 : 10 ^ (d.take k).length ≤ 10 ^ 17 := Nat.pow_le_pow_right (by decide) h2
  omega
theorem num_fin {s : ByteArray} {n k : Nat} (hi : k ≤ (signL (bL s)).2.length ∧ ((signL (bL s)).2.take k).all isDigB = true) (hle : (s.size : Int) ≤ (numAt s : Int) + (k : Int)) (h0 : 0 < (signL (bL s)).2.length) (h1 : (signL (bL s)).2.length ≤ n)
    (h2 : ¬ (((signL (bL s)).2.getD 0 0).toNat = 48 ∧ 1 < s.size)) : numOk (bL s) n = true ∧ (dval ((signL (bL s)).2.take k) = dval (signL (bL s)).2) := by
  have hsz := num_size s
  have hi1 := hi.1
  obtain rfl : k = (signL (bL s)).2.length := by omega
  have hi2 := hi.2
  rw [List.take_length] at hi2 ⊢
  exact ⟨num_yes h0 h1 (by rw [bL_len]; exact h2) hi2, rfl⟩
theorem num_fin_neg {s : ByteArray} {n k : Nat} (hv : numV (bL s) = -(dval (signL (bL s)).2 : Int)) (h : numOk (bL s) n = true ∧ (dval ((signL (bL s)).2.take k) = dval (signL (bL s)).2)) :
    (-(dval ((signL (bL s)).2.take k) : Int) = if numOk (bL s) n = true then numV (bL s) else 0) ∧ numOk (bL s) n = true := num_out_yes h.1 (by rw [h.2, hv])
theorem num_fin_pos {s : ByteArray} {n k : Nat} (hv : numV (bL s) = (dval (signL (bL s)).2 : Int)) (h : numOk (bL s) n = true ∧ (dval ((signL (bL s)).2.take k) = dval (signL (bL s)).2)) :
    ((dval ((signL (bL s)).2.take k) : Int) = if numOk (bL s) n = true then numV (bL s) else 0) ∧ numOk (bL s) n = true := num_out_yes h.1 (by rw [h.2, hv])

/-- base.Number -/
theorem hNumber : Ok 28 sNumberT := by
  refine mk (ctr := []) trivial (nt := 70) Tryz.func28 rfl rfl rfl rfl (by kernel_rfl) (by kernel_rfl) (fun x => [fun _ => numAnn x.1]) ?_
  rintro ⟨(s : ByteArray), (d : Int), _⟩ ⟨(hs : s.size ≤ 1000000), (hd0 : 1 ≤ d), (hd1 : d ≤ 18)⟩
  have hsz := num_size s
  rcases sign_cases (bL s) with ⟨d', h1, h2⟩ | ⟨h1, h2⟩
  · have hat : numAt s = 1 := by simp only [numAt]; rw [h2]; rfl
    have hb0 : ((s.data.toList.getD (Int.toNat 0) 0).toNat : Int) = 45 := by
      show (((bL s).getD 0 0).toNat : Int) = 45
      rw [h1]; rfl
    have hb1 : s.data.toList.getD (Int.toNat 1) 0 = (signL (bL s)).2.getD 0 0 := by
      have := num_byte s 0
      rw [hat] at this; exact this
    have hv : numV (bL s) = -(dval (signL (bL s)).2 : Int) := by simp only [numV]; rw [h2]; rfl
    clear h1 h2
    repeat' (intro hzz; (try (rename Two => hq; cases hq)); (try dsimp only at hzz); (try simp only [resTy, argTy, eqD, inR, big, wantOf, Bool.not_true, Bool.not_false, Bool.true_eq, decide_eq_true_eq, decide_eq_false_iff_not, Bool.not_eq_true', Bool.not_eq_false', Bool.and_eq_true, Prod.mk.injEq, and_true, true_and, Int.not_lt, Int.not_le, gt_iff_lt, ge_iff_le] at hzz); (try simp only [resTy, argTy, eqD, inR, big, wantOf, Bool.not_true, Bool.not_false, Bool.true_eq, decide_eq_true_eq, decide_eq_false_iff_not, Bool.not_eq_true', Bool.not_eq_false', Bool.and_eq_true, Prod.mk.injEq, and_true, true_and, Int.not_lt, Int.not_le, gt_iff_lt, ge_iff_le, Int.toNat_natCast, num_byte, hb1] at hzz); (try (first | contradiction | (exfalso; omega))); (try (revert hzz; intro _)))
    all_goals try (rename Unit => hq; clear hq)
    all_goals try ((with_reducible refine Held.mk ?_); (with_reducible (first | refine Frz.mk ?_ | refine And.intro (Frz.mk ?_) ?_ | refine And.intro ?_ (Frz.mk ?_))); repeat' first | exact True.intro | (change _ = _; with_reducible rfl) | refine And.intro ?_ ?_ | (with_reducible refine Frz.mk ?_))
    all_goals try (refine Held.mk ?_; (try dsimp only at *); (try simp only [resTy, argTy, eqD, inR, big, wantOf, Bool.not_true, Bool.not_false, Bool.true_eq, decide_eq_true_eq, decide_eq_false_iff_not, Bool.not_eq_true', Bool.not_eq_false', Bool.and_eq_true, Prod.mk.injEq, and_true, true_and, Int.not_lt, Int.not_le, gt_iff_lt, ge_iff_le] at *); (try simp only [resTy, argTy, eqD, inR, big, wantOf, Bool.not_true, Bool.not_false, Bool.true_eq, decide_eq_true_eq, decide_eq_false_iff_not, Bool.not_eq_true', Bool.not_eq_false', Bool.and_eq_true, Prod.mk.injEq, and_true, true_and, Int.not_lt, Int.not_le, gt_iff_lt, ge_iff_le, Int.toNat_natCast, num_byte, hb1] at *))
    all_goals try omega
    all_goals try (rename Nat => k; rename k ≤ _ ∧ _ => hi; rename (_ : Int) + (k : Int) < _ => hlt; have hi1 := hi.1; exact num_out_no (num_no4 (j := k) (by omega) (by omega)))
    all_goals try (rename Nat => k; rename k ≤ _ ∧ _ => hi; have hi1 := hi.1; have h18 := take_lt hi.2 (by omega); first | omega | (have h17 := take_lt17 hi.2 (by omega); omega))
    all_goals try (first | exact num_out_no (num_no1 (by omega)) | exact num_out_no (num_no2 (by omega)) | exact num_out_no (num_no3 (by omega) (by omega) (by rw [bL_len]; omega)))
    all_goals try (rename Nat => k; rename k ≤ _ ∧ _ => hi; rename _ ≤ (_ : Int) + (k : Int) => hle; exact num_fin_neg hv (num_fin hi hle (by omega) (by omega) (by omega)))
    all_goals try ((skip); refine GHeld.mk ?_; refine Exists.intro (0 : Nat) ?_; refine And.intro (Leaf.mk ?_) ?_; (focus ((repeat' first | exact True.intro | refine And.intro ?_ ?_); (all_goals try ((change _ = _ <;> try dsimp only) <;> try with_reducible rfl)); (all_goals try omega); (all_goals ((first | rfl | (rw [hat]; rfl)))))); (exact ⟨Nat.zero_le _, rfl⟩))
    all_goals try ((rename Nat => k; rename k ≤ _ ∧ _ => hi; rename (_ : Int) + (k : Int) < _ => hlt; have hi1 := hi.1; have ht := take_step (show k < (signL (bL s)).2.length by omega) hi.2 (by omega)); refine GHeld.mk ?_; refine Exists.intro (k + 1) ?_; refine And.intro (Leaf.mk ?_) ?_; (focus ((repeat' first | exact True.intro | refine And.intro ?_ ?_); (all_goals try ((change _ = _ <;> try dsimp only) <;> try with_reducible rfl)); (all_goals try omega); (all_goals ((first | rfl | (rw [num_byte]; omega) | (simp only [num_byte]; omega)))))); (exact ⟨⟨(show k + 1 ≤ (signL (bL s)).2.length by omega), ht.1⟩, (show (signL (bL s)).2.length - (k + 1) < (signL (bL s)).2.length - k by omega)⟩))
  · have hat : numAt s = 0 := by simp only [numAt]; rw [h2]; rfl
    have hb1 : s.data.toList.getD (Int.toNat 0) 0 = (signL (bL s)).2.getD 0 0 := by
      have := num_byte s 0
      rw [hat] at this; exact this
    have hb0 : ¬ (((signL (bL s)).2.getD 0 0).toNat : Int) = 45 := by
      rw [h2]
      intro h
      have h : (((bL s).getD 0 0).toNat : Int) = 45 := h
      exact h1 (UInt8.toNat_inj.1 (by show _ = 45; omega))
    have hv : numV (bL s) = (dval (signL (bL s)).2 : Int) := by simp only [numV]; rw [h2]; rfl
    clear h1 h2
    repeat' (intro hzz; (try (rename Two => hq; cases hq)); (try dsimp only at hzz); (try simp only [resTy, argTy, eqD, inR, big, wantOf, Bool.not_true, Bool.not_false, Bool.true_eq, decide_eq_true_eq, decide_eq_false_iff_not, Bool.not_eq_true', Bool.not_eq_false', Bool.and_eq_true, Prod.mk.injEq, and_true, true_and, Int.not_lt, Int.not_le, gt_iff_lt, ge_iff_le] at hzz); (try simp only [resTy, argTy, eqD, inR, big, wantOf, Bool.not_true, Bool.not_false, Bool.true_eq, decide_eq_true_eq, decide_eq_false_iff_not, Bool.not_eq_true', Bool.not_eq_false', Bool.and_eq_true, Prod.mk.injEq, and_true, true_and, Int.not_lt, Int.not_le, gt_iff_lt, ge_iff_le, Int.toNat_natCast, num_byte, hb1] at hzz); (try (first | contradiction | (exfalso; omega))); (try (revert hzz; intro _)))
    all_goals try (rename Unit => hq; clear hq)
    all_goals try ((with_reducible refine Held.mk ?_); (with_reducible (first | refine Frz.mk ?_ | refine And.intro (Frz.mk ?_) ?_ | refine And.intro ?_ (Frz.mk ?_))); repeat' first | exact True.intro | (change _ = _; with_reducible rfl) | refine And.intro ?_ ?_ | (with_reducible refine Frz.mk ?_))
    all_goals try (refine Held.mk ?_; (try dsimp only at *); (try simp only [resTy, argTy, eqD, inR, big, wantOf, Bool.not_true, Bool.not_false, Bool.true_eq, decide_eq_true_eq, decide_eq_false_iff_not, Bool.not_eq_true', Bool.not_eq_false', Bool.and_eq_true, Prod.mk.injEq, and_true, true_and, Int.not_lt, Int.not_le, gt_iff_lt, ge_iff_le] at *); (try simp only [resTy, argTy, eqD, inR, big, wantOf, Bool.not_true, Bool.not_false, Bool.true_eq, decide_eq_true_eq, decide_eq_false_iff_not, Bool.not_eq_true', Bool.not_eq_false', Bool.and_eq_true, Prod.mk.injEq, and_true, true_and, Int.not_lt, Int.not_le, gt_iff_lt, ge_iff_le, Int.toNat_natCast, num_byte, hb1] at *))
    all_goals try omega
    all_goals try (rename Nat => k; rename k ≤ _ ∧ _ => hi; rename (_ : Int) + (k : Int) < _ => hlt; have hi1 := hi.1; exact num_out_no (num_no4 (j := k) (by omega) (by omega)))
    all_goals try (rename Nat => k; rename k ≤ _ ∧ _ => hi; have hi1 := hi.1; have h18 := take_lt hi.2 (by omega); first | omega | (have h17 := take_lt17 hi.2 (by omega); omega))
    all_goals try (first | exact num_out_no (num_no1 (by omega)) | exact num_out_no (num_no2 (by omega)) | exact num_out_no (num_no3 (by omega) (by omega) (by rw [bL_len]; omega)))
    all_goals try (rename Nat => k; rename k ≤ _ ∧ _ => hi; rename _ ≤ (_ : Int) + (k : Int) => hle; exact num_fin_pos hv (num_fin hi hle (by omega) (by omega) (by omega)))
    all_goals try ((skip); refine GHeld.mk ?_; refine Exists.intro (0 : Nat) ?_; refine And.intro (Leaf.mk ?_) ?_; (focus ((repeat' first | exact True.intro | refine And.intro ?_ ?_); (all_goals try ((change _ = _ <;> try dsimp only) <;> try with_reducible rfl)); (all_goals try omega); (all_goals ((first | rfl | (rw [hat]; rfl)))))); (exact ⟨Nat.zero_le _, rfl⟩))
    all_goals try ((rename Nat => k; rename k ≤ _ ∧ _ => hi; rename (_ : Int) + (k : Int) < _ => hlt; have hi1 := hi.1; have ht := take_step (show k < (signL (bL s)).2.length by omega) hi.2 (by omega)); refine GHeld.mk ?_; refine Exists.intro (k + 1) ?_; refine And.intro (Leaf.mk ?_) ?_; (focus ((repeat' first | exact True.intro | refine And.intro ?_ ?_); (all_goals try ((change _ = _ <;> try dsimp only) <;> try with_reducible rfl)); (all_goals try omega); (all_goals ((first | rfl | (rw [num_byte]; omega) | (simp only [num_byte]; omega)))))); (exact ⟨⟨(show k + 1 ≤ (signL (bL s)).2.length by omega), ht.1⟩, (show (signL (bL s)).2.length - (k + 1) < (signL (bL s)).2.length - k by omega)⟩))

/-! ### ParseRegister -/

def Hid (p : Prop) : Prop := p
theorem Hid.out {p : Prop} (h : Hid p) : p := h

theorem piece_size (c : UInt8) : ∀ (l : List UInt8), ∀ p ∈ piecesL c l, p.length ≤ l.length
  | [], p, hp => by
    simp only [piecesL, List.mem_singleton] at hp
    subst hp; exact Nat.le_refl _
  | b :: l, p, hp => by
    have ih := piece_size c l
    simp only [piecesL] at hp
    split at hp
    · rcases List.mem_cons.1 hp with rfl | h
      · simp
      · have := ih p h; simp only [List.length_cons]; omega
    · split at hp
      · rename_i q r hq
        rcases List.mem_cons.1 hp with rfl | h
        · have := ih q (by rw [hq]; simp); simp only [List.length_cons]; omega
        · have := ih p (by rw [hq]; simp [h]); simp only [List.length_cons]; omega
      · rw [List.mem_singleton] at hp; subst hp; simp

theorem cut_size (s : ByteArray) (i : Nat) : ((cutB 32 s).getD i ByteArray.empty).size ≤ s.size := by
  rw [List.getD_eq_getElem?_getD]
  cases h : (cutB 32 s)[i]? with
  | none => exact Nat.zero_le _
  | some p =>
    have hm := List.mem_of_getElem? h
    simp only [cutB, List.mem_map] at hm
    obtain ⟨q, hq, rfl⟩ := hm
    have := piece_size 32 (bL s) q hq
    rw [bL_len] at this
    show (bA q).size ≤ _
    rw [bA_size]; exact this

end Go.Eng.Pu
