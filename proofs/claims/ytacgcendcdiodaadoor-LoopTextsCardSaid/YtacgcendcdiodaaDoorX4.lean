/- loop.ParseMargin. Conditions: the library's variables hold what they hold. -/
import Derived.Test.YtacgcendcdiodaaDoorX3
namespace Go.Eng.Lp
open Go.Eng Go.Proofs Go.Lib
set_option linter.all false
set_option maxRecDepth 100000
set_option maxHeartbeats 8000000

theorem prog_num {l : List UInt8} {k : Nat} (hk : k ≤ 18) (h : numOk l k = true) : atoiR l = (numV l, false, ()) ∧ itoa (numV l) = l ∧ (trimPrefix l [45]).length ≤ k ∧ (-9223372036854775808 ≤ numV l ∧ numV l ≤ 9223372036854775807) := by
  obtain ⟨h1, h2⟩ := itoa_of_num h
  have hb := numV_bd h
  have hp : 10 ^ k ≤ 10 ^ 18 := Nat.pow_le_pow_right (by decide) hk
  have hr : -9223372036854775808 ≤ numV l ∧ numV l ≤ 9223372036854775807 := by omega
  have ha := atoi_itoa hr.1 hr.2
  rw [h1] at ha
  exact ⟨by simp only [atoiR, ha], h1, h2, hr⟩

theorem prog_bad {l : List UInt8} {k : Nat} (h : numOk l k = false) : ¬ ((atoiR l).2.1 = false ∧ itoa (atoiR l).1 = l ∧ (trimPrefix l [45]).length ≤ k) := by
  rintro ⟨_, h2, h3⟩
  rw [← h2] at h3
  have := (num_of_itoa h3).1
  rw [h2, h] at this
  cases this

theorem atoi_range {l : List UInt8} (h : (atoiR l).2.1 = false) : -9223372036854775808 ≤ (atoiR l).1 ∧ (atoiR l).1 ≤ 9223372036854775807 := by
  simp only [atoiR] at h ⊢
  cases ha : atoiAll l with
  | ok v => have := atoiAll_bounds ha; simp only; omega
  | _ => rw [ha] at h; cases h

theorem prog_ok {p : ByteArray} {n : Int} (h : (itoa n == p.data.toList) = true) (ht : ((bA (trimPrefix (bL p) (bL ⟨#[45]⟩))).size : Int) ≤ 5) : numOk (bL p) 5 = true ∧ numV (bL p) = n := by
  have h : itoa n = bL p := beq_iff_eq.1 h
  rw [bA_size] at ht
  have ht : (trimPrefix (bL p) [45]).length ≤ 5 := by have : ((trimPrefix (bL p) [45]).length : Int) ≤ 5 := ht; omega
  rw [← h] at ht ⊢
  exact num_of_itoa ht
theorem prog_no3 {p : ByteArray} (h : (5 : Int) < ((bA (trimPrefix (bL p) (bL ⟨#[45]⟩))).size : Int)) : numOk (bL p) 5 = false := by
  cases hn : numOk (bL p) 5 with
  | false => rfl
  | true =>
    have ht := (prog_num (by decide) hn).2.2.1
    rw [bA_size] at h
    have h : (5 : Int) < ((trimPrefix (bL p) [45]).length : Int) := h
    omega
theorem prog_no2 {p : ByteArray} (h : (itoa (atoiR (bL p)).1 == p.data.toList) = false) : numOk (bL p) 5 = false := by
  cases hn : numOk (bL p) 5 with
  | false => rfl
  | true =>
    obtain ⟨h1, h2, _⟩ := prog_num (by decide) hn
    rw [h1] at h
    exact absurd h2 (beq_eq_false_iff_ne.1 h)
theorem prog_no1 {p : ByteArray} (h : (atoiR (bL p)).2.1 = true) : numOk (bL p) 5 = false := by
  cases hn : numOk (bL p) 5 with
  | false => rfl
  | true =>
    obtain ⟨h1, _⟩ := prog_num (by decide) hn
    rw [h1] at h; cases h

@[reducible] def sParse : Spec := { pats := [.dat .str, .gw 0 .err, .gw 1 .err, .gw 2 PowT, .gw 3 I64], res := [{ t := MargT }, { t := I64 }], pre := fun x => x.1.size ≤ 1000000 ∧ x.2.2.2.1 = powD, f := fun x => pmR x.1 }
/-- loop.ParseMargin -/
theorem hParse : Ok 6 sParse := by
  refine mk (ctr := [(17, sItoa), (18, sSplit), (19, sAtoi), (20, sTrim), (21, sName), (22, sWithin)]) ⟨hItoa, hSplit, hAtoi, hTrim, h21t, h89, trivial⟩ (nt := 62) Tryd.func6 rfl rfl rfl rfl (by kernel_rfl) (by kernel_rfl) (fun _ => []) ?_
  rintro ⟨(s : ByteArray), (b0 : Bool), (b1 : Bool), (pw : PowT.Den), (m : Int), _⟩ ⟨(hs : s.size ≤ 1000000), (hpw : pw = powD)⟩
  have hc := cut_size s
  obtain ⟨L, hL⟩ : ∃ L, cutB 32 s = L := ⟨_, rfl⟩
  rw [hL] at hc
  obtain ⟨p0, hp0⟩ : ∃ p, L.getD (Int.toNat 0) Ty.str.dflt = p := ⟨_, rfl⟩
  obtain ⟨p1, hp1⟩ : ∃ p, L.getD (Int.toNat 1) Ty.str.dflt = p := ⟨_, rfl⟩
  have hR : pmR s = pmQ L.length p0 p1 := by unfold pmR; rw [hL, ← hp0, ← hp1]; rfl
  have hc0 : p0.size ≤ 1000000 := by rw [← hp0]; exact Nat.le_trans (hc 0) hs
  have hc1 : p1.size ≤ 1000000 := by rw [← hp1]; exact Nat.le_trans (hc 1) hs
  have hc0K : Hid (p0.size ≤ 1000000) := hc0
  have hc1K : Hid (p1.size ≤ 1000000) := hc1
  repeat' (intro hzz; (try (rename Two => hq; cases hq)); (try dsimp only at hzz); (try simp only [resTy, argTy, eqD, inR, big, wantOf, Bool.not_true, Bool.not_false, Bool.true_eq, decide_eq_true_eq, decide_eq_false_iff_not, Bool.not_eq_true', Bool.not_eq_false', Bool.and_eq_true, Prod.mk.injEq, and_true, true_and, Int.not_lt, Int.not_le, gt_iff_lt, ge_iff_le] at hzz); (try simp only [resTy, argTy, eqD, inR, big, wantOf, Bool.not_true, Bool.not_false, Bool.true_eq, decide_eq_true_eq, decide_eq_false_iff_not, Bool.not_eq_true', Bool.not_eq_false', Bool.and_eq_true, Prod.mk.injEq, and_true, true_and, Int.not_lt, Int.not_le, gt_iff_lt, ge_iff_le, fWithin, hL, hp0, hp1, hR, bL_bA] at hzz); (try (first | contradiction | (exfalso; omega))); (try (revert hzz; intro _)))
  all_goals try (rename Unit => hq; clear hq)
  all_goals try ((with_reducible refine Held.mk ?_); (with_reducible (first | refine Frz.mk ?_ | refine And.intro (Frz.mk ?_) ?_ | refine And.intro ?_ (Frz.mk ?_))); repeat' first | exact True.intro | (change _ = _; with_reducible rfl) | refine And.intro ?_ ?_ | (with_reducible refine Frz.mk ?_))
  all_goals try (refine Held.mk ?_; (try dsimp only at *); (try simp only [resTy, argTy, eqD, inR, big, wantOf, Bool.not_true, Bool.not_false, Bool.true_eq, decide_eq_true_eq, decide_eq_false_iff_not, Bool.not_eq_true', Bool.not_eq_false', Bool.and_eq_true, Prod.mk.injEq, and_true, true_and, Int.not_lt, Int.not_le, gt_iff_lt, ge_iff_le] at *); (try simp only [resTy, argTy, eqD, inR, big, wantOf, Bool.not_true, Bool.not_false, Bool.true_eq, decide_eq_true_eq, decide_eq_false_iff_not, Bool.not_eq_true', Bool.not_eq_false', Bool.and_eq_true, Prod.mk.injEq, and_true, true_and, Int.not_lt, Int.not_le, gt_iff_lt, ge_iff_le, fWithin, hL, hp0, hp1, hR, bL_bA] at *))
  all_goals try omega
  · exact ⟨hs, rfl⟩
  · rename_i h
    rw [pm7 (fun h' => absurd h' (by omega))]; exact ⟨⟨rfl, rfl⟩, rfl⟩
  · rename_i h1 h2
    exact ⟨atoi_range h2, hpw⟩
  · rename_i h1 h2 h3 h4
    rw [pm7 (fun _ => prog_no3 h4)]; exact ⟨⟨rfl, rfl⟩, rfl⟩
  · rename_i h1 h2 h3 h4 h5
    rw [pm4 (by omega) (prog_ok h3 h4).1 h5]; exact ⟨⟨rfl, rfl⟩, rfl⟩
  · rename_i h1 h2 h3 h4 h5 h6 h7
    obtain ⟨q1, q2⟩ := prog_ok h3 h4
    rw [pm2 (by omega) q1 h5 (fun h => h7 (by rw [← q2]; exact h.2))]; exact ⟨⟨rfl, rfl⟩, rfl⟩
  · rename_i h1 h2 h3 h4 h5 h6 h7
    obtain ⟨q1, q2⟩ := prog_ok h3 h4
    rw [pm0 (by omega) q1 h5 (by rw [q2]; exact ⟨h6, h7⟩)]; exact ⟨⟨rfl, q2.symm⟩, rfl⟩
  · rename_i h1 h2 h3 h4 h5 h6
    obtain ⟨q1, q2⟩ := prog_ok h3 h4
    rw [pm2 (by omega) q1 h5 (fun h => h6 (by rw [← q2]; exact h.1))]; exact ⟨⟨rfl, rfl⟩, rfl⟩
  · rename_i h1 h2 h3
    rw [pm7 (fun _ => prog_no2 h3)]; exact ⟨⟨rfl, rfl⟩, rfl⟩
  · rename_i h1 h2
    rw [pm7 (fun _ => prog_no1 h2)]; exact ⟨⟨rfl, rfl⟩, rfl⟩

/-! ### The law -/

theorem itoa_no32 (n : Int) : (32 : UInt8) ∉ itoa n := by
  have hd : ∀ u : Nat, (32 : UInt8) ∉ decDigits u := fun u h => by
    have := List.all_eq_true.1 (dec_spec (u + 1) u (Nat.lt_succ_self u)).1 32 h
    exact absurd this (by decide)
  by_cases h : n < 0
  · rw [itoa_neg h]
    simp only [List.mem_cons, not_or]
    exact ⟨by decide, hd _⟩
  · rw [itoa_pos h]; exact hd _

theorem name_no32 {s : ByteArray} (h : nameOk s = true) : (32 : UInt8) ∉ bL s := fun hm => by
  obtain ⟨h1, h2, h3⟩ := of_decide_eq_true h
  obtain ⟨i, hi, he⟩ := List.mem_iff_getElem.1 hm
  refine h3 i (by rw [← bL_len]; exact hi) ?_
  rw [List.getD_eq_getElem?_getD, List.getElem?_eq_getElem hi, he]
  show badC i 32
  unfold badC
  omega

/-- A right margin's text is read back. -/
theorem read_back {m : ByteArray} {n : Int} (hm : nameOk m = true) (h0 : 0 ≤ n) (h1 : n ≤ 4000) (h2 : n.tmod 100 = 0) : pmR (fmtM m n) = ((m, n, ()), 0, ()) := by
  have hc : cutB 32 (fmtM m n) = [m, bA (itoa n)] := by
    simp only [cutB, fmtM]
    rw [bL_bA, pieces_app, pieces_none 32 (bL m) (name_no32 hm)]
    have : piecesL 32 (32 :: itoa n) = [[], itoa n] := by
      rw [piecesL, if_pos rfl, pieces_none 32 _ (itoa_no32 n)]
    rw [this]
    simp [bA_bL]
  have hl : (itoa n).length ≤ 5 := by rw [itoa_pos (by omega)]; exact Nat.le_trans (dec_len 4 _ (by omega) (by decide)) (by decide)
  have ht : (trimPrefix (itoa n) [45]).length ≤ 5 := by
    unfold trimPrefix
    split
    · rw [List.length_drop]; omega
    · exact hl
  obtain ⟨q1, q2⟩ := num_of_itoa ht
  unfold pmR
  rw [hc]
  have e1 : bL (bA (itoa n)) = itoa n := bL_bA _
  show pmQ 2 m (bA (itoa n)) = _
  rw [pm0 rfl (by rw [e1]; exact q1) hm (by rw [e1, q2]; exact ⟨⟨h0, h1⟩, h2⟩), e1, q2]

theorem marg_self (m : ByteArray) (n : Int) : MargT.beq (m, n, ()) (m, n, ()) = true := by
  show ((m == m) && (decide (n = n) && true)) = true
  rw [bytes_beq, decide_eq_true rfl, decide_eq_true rfl]; rfl
theorem fmt_size (m : ByteArray) (n : Int) : (fmtM m n).size = m.size + (itoa n).length + 1 := by
  rw [fmtM, bA_size, List.length_append, bL_len, List.length_cons]; omega

@[reducible] def sLaw : Spec := { pats := [.dat MargT, .dat .str, .gw 0 .err, .gw 1 .err, .gw 2 PowT, .gw 3 I64], res := [{ t := .bool }], pre := fun x => (-9223372036854775808 ≤ x.1.2.1 ∧ x.1.2.1 ≤ 9223372036854775807) ∧ x.2.2.2.2.1 = powD, f := fun _ => (true, ()) }
/-- LoopTexts -/
theorem hLaw : Ok 3 sLaw := by
  refine mk (ctr := [(4, sAwake), (5, sFormat), (6, sParse), (7, sParseR), (8, sFormatR), (9, sName), (10, sWithin)]) ⟨h16, h5t, hParse, hParseR, h8t, h9t, h17, trivial⟩ (nt := 80) Tryd.func3 rfl rfl rfl rfl (by kernel_rfl) (by kernel_rfl) (fun _ => []) ?_
  rintro ⟨⟨(m : ByteArray), (n : Int), _⟩, (s : ByteArray), (b0 : Bool), (b1 : Bool), (pw : PowT.Den), (mx : Int), _⟩ ⟨(hn : -9223372036854775808 ≤ n ∧ n ≤ 9223372036854775807), (hpw : pw = powD)⟩
  repeat' (intro hzz; (try (rename Two => hq; cases hq)); (try dsimp only at hzz); (try simp only [resTy, argTy, eqD, inR, big, wantOf, Bool.not_true, Bool.not_false, Bool.true_eq, decide_eq_true_eq, decide_eq_false_iff_not, Bool.not_eq_true', Bool.not_eq_false', Bool.and_eq_true, Prod.mk.injEq, and_true, true_and, Int.not_lt, Int.not_le, gt_iff_lt, ge_iff_le] at hzz); (try simp only [resTy, argTy, eqD, inR, big, wantOf, Bool.not_true, Bool.not_false, Bool.true_eq, decide_eq_true_eq, decide_eq_false_iff_not, Bool.not_eq_true', Bool.not_eq_false', Bool.and_eq_true, Prod.mk.injEq, and_true, true_and, Int.not_lt, Int.not_le, gt_iff_lt, ge_iff_le, fWithin] at hzz); (try (first | contradiction | (exfalso; omega))); (try (revert hzz; intro _)))
  all_goals try (rename Unit => hq; clear hq)
  all_goals try ((with_reducible refine Held.mk ?_); (with_reducible (first | refine Frz.mk ?_ | refine And.intro (Frz.mk ?_) ?_ | refine And.intro ?_ (Frz.mk ?_))); repeat' first | exact True.intro | (change _ = _; with_reducible rfl) | refine And.intro ?_ ?_ | (with_reducible refine Frz.mk ?_))
  all_goals try (refine Held.mk ?_; (try dsimp only at *); (try simp only [resTy, argTy, eqD, inR, big, wantOf, Bool.not_true, Bool.not_false, Bool.true_eq, decide_eq_true_eq, decide_eq_false_iff_not, Bool.not_eq_true', Bool.not_eq_false', Bool.and_eq_true, Prod.mk.injEq, and_true, true_and, Int.not_lt, Int.not_le, gt_iff_lt, ge_iff_le] at *); (try simp only [resTy, argTy, eqD, inR, big, wantOf, Bool.not_true, Bool.not_false, Bool.true_eq, decide_eq_true_eq, decide_eq_false_iff_not, Bool.not_eq_true', Bool.not_eq_false', Bool.and_eq_true, Prod.mk.injEq, and_true, true_and, Int.not_lt, Int.not_le, gt_iff_lt, ge_iff_le, fWithin] at *))
  all_goals try omega
  all_goals have hl : m.size ≤ 30 := by omega
  · exact ⟨by omega, hn, hpw⟩
  · exact ⟨by omega, hpw⟩
  · exact ⟨by omega, hn⟩
  · rename_i h
    rw [marg_self] at h; cases h
  · exact ⟨by rw [fmt_size]; have := itoa_len hn.1 hn.2; omega, hpw⟩
  · rename_i h3 h4 h5 h6
    have e := read_back h3 h4.1 h4.2 h5
    rw [e]; exact marg_self _ _
  · rename_i h3 h4 h5 h6
    have e := read_back h3 h4.1 h4.2 h5
    rw [e] at h6; exact absurd rfl h6
  · rename_i h
    simp at h

end Go.Eng.Lp
