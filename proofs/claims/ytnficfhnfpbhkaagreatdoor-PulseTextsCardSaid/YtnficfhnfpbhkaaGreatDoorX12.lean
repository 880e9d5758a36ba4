/- PulseTexts: the law. Conditions: the numbers fit, the library's variables hold what they hold. -/
import Derived.Test.YtnficfhnfpbhkaaGreatDoorX11
namespace Go.Eng.Pu
open Go.Eng Go.Proofs Go.Lib
set_option linter.all false
set_option maxRecDepth 100000
set_option maxHeartbeats 4000000

@[reducible] def sSameR : Spec := { pats := [.dat Reg0, .dat Reg0], res := [{ t := .bool }], pre := fun x => pLen (List.length (α := Int) x.1.2.1) ∧ pLen (List.length (α := Int) x.2.1.2.1), f := fun x => (decide ((show Int from x.1.1) = x.2.1.1) && decide ((show List Int from x.1.2.1) = x.2.1.2.1), ()) }

/-- ref.Same -/
theorem h65 : Ok 10 sSameR := by
  refine mk (ctr := [(18, sInts)]) ⟨h26, trivial⟩ (nt := 17) Tryz.func10 rfl rfl rfl rfl (by kernel_rfl) (by kernel_rfl) (fun _ => []) ?_
  rintro ⟨⟨(L : Int), (xs : List Int), _⟩, ⟨(M : Int), (ys : List Int), _⟩, _⟩ ⟨(h1 : pLen xs.length), (h2 : pLen ys.length)⟩
  repeat' (intro hzz; (try (rename Two => hq; cases hq)); (try dsimp only at hzz); (try simp only [resTy, argTy, eqD, inR, big, wantOf, Bool.not_true, Bool.not_false, Bool.true_eq, decide_eq_true_eq, decide_eq_false_iff_not, Bool.not_eq_true', Bool.not_eq_false', Bool.and_eq_true, Prod.mk.injEq, and_true, true_and, Int.not_lt, Int.not_le, gt_iff_lt, ge_iff_le] at hzz); (try (first | contradiction | (exfalso; omega))); (try (revert hzz; intro _)))
  all_goals try (rename Unit => hq; clear hq)
  all_goals try ((with_reducible refine Held.mk ?_); (with_reducible (first | refine Frz.mk ?_ | refine And.intro (Frz.mk ?_) ?_ | refine And.intro ?_ (Frz.mk ?_))); repeat' first | exact True.intro | (change _ = _; with_reducible rfl) | refine And.intro ?_ ?_ | (with_reducible refine Frz.mk ?_))
  all_goals try (refine Held.mk ?_; (try dsimp only at *); (try simp only [resTy, argTy, eqD, inR, big, wantOf, Bool.not_true, Bool.not_false, Bool.true_eq, decide_eq_true_eq, decide_eq_false_iff_not, Bool.not_eq_true', Bool.not_eq_false', Bool.and_eq_true, Prod.mk.injEq, and_true, true_and, Int.not_lt, Int.not_le, gt_iff_lt, ge_iff_le] at *))
  all_goals try omega
  · exact ⟨h1, h2⟩
  · rename_i h
    rw [decide_eq_true h, Bool.true_and]
  · rename_i h
    rw [decide_eq_false h, Bool.false_and]

theorem pieces_sep : ∀ {x r : List UInt8}, 32 ∉ x → piecesL 32 (x ++ 32 :: r) = x :: piecesL 32 r
  | [], r, _ => by simp [piecesL]
  | b :: x, r, h => by
    have hb : ¬ b = 32 := fun e => h (by rw [e]; exact List.mem_cons_self)
    simp only [List.cons_append, piecesL]
    rw [if_neg hb, pieces_sep fun hm => h (List.mem_cons_of_mem _ hm)]

theorem itoa_no32 (n : Int) : (32 : UInt8) ∉ itoa n := by
  have hd : ∀ u : Nat, (32 : UInt8) ∉ decDigits u := fun u h => by
    have := List.all_eq_true.1 (dec_spec (u + 1) u (Nat.lt_succ_self u)).1 32 h
    exact absurd this (by decide)
  by_cases h : n < 0
  · rw [itoa_neg h]
    simp only [List.mem_cons, not_or]
    exact ⟨by decide, hd _⟩
  · rw [itoa_pos h]; exact hd _


theorem fmtP_cons (n t : Int) (l : List Int) : fmtP n (t :: l) = itoa n ++ 32 :: fmtP t l := by simp [fmtP]
theorem pieces_fmt : ∀ (l : List Int) (n : Int), piecesL 32 (fmtP n l) = (n :: l).map itoa
  | [], n => by
    rw [show fmtP n [] = itoa n by simp [fmtP], pieces_none 32 _ (itoa_no32 n)]; rfl
  | t :: l, n => by rw [fmtP_cons, pieces_sep (itoa_no32 n), pieces_fmt l t]; rfl

theorem num_small {t : Int} (h0 : 0 ≤ t) (h1 : t ≤ 9) : numOk (itoa t) 9 = true ∧ numV (itoa t) = t := by
  refine num_of_itoa ?_
  have hl : (itoa t).length ≤ 1 := by rw [itoa_pos (by omega)]; exact dec_len 1 _ (by omega) (by decide)
  unfold trimPrefix
  split
  · rw [List.length_drop]; omega
  · omega

/-- A right register's text is read back. -/
theorem reg_back {n : Int} {l : List Int} (h : chk n l = 0) : prR (bA (fmtP n l)) = ((n, l, ()), 0, ()) := by
  obtain ⟨h1, h2, h3, h4⟩ := chk_zero h
  have hin : ∀ t ∈ n :: l, 0 ≤ t ∧ t ≤ 9 := by
    intro t ht
    rcases List.mem_cons.1 ht with rfl | ht
    · omega
    · obtain ⟨j, hj, rfl⟩ := List.mem_iff_getElem.1 ht
      have := regE_zero h3 j (Nat.zero_le _) (by omega)
      rw [List.getD_eq_getElem?_getD, List.getElem?_eq_getElem hj] at this
      simp only [Option.getD_some] at this
      omega
  have hc : cutB 32 (bA (fmtP n l)) = (n :: l).map fun t => bA (itoa t) := by
    unfold cutB
    rw [bL_bA, pieces_fmt, List.map_map]; rfl
  have hn : numsL (cutB 32 (bA (fmtP n l))) = n :: l := by
    rw [hc]
    unfold numsL
    rw [List.map_map]
    conv => rhs; rw [← List.map_id (n :: l)]
    refine List.map_congr_left fun t ht => ?_
    show numV (bL (bA (itoa t))) = t
    rw [bL_bA]; exact (num_small (hin t ht).1 (hin t ht).2).2
  have ha : allNum (cutB 32 (bA (fmtP n l))) = true := by
    rw [hc]
    refine List.all_eq_true.2 fun p hp => ?_
    obtain ⟨t, ht, rfl⟩ := List.mem_map.1 hp
    rw [bL_bA]; exact (num_small (hin t ht).1 (hin t ht).2).1
  unfold prR
  rw [prQ_ok ha (by rw [hn]; exact h), hn]
  rfl

theorem prR_len (s : ByteArray) : (prR s).1.2.1.length ≤ s.size + 1 := by
  have hl := cutB_len 32 s
  unfold prR prQ
  split
  · split
    · show ((numsL (cutB 32 s)).drop 1).length ≤ _
      rw [List.length_drop, numsL_len]; omega
    · exact Nat.zero_le _
  · exact Nat.zero_le _

@[reducible] def sLaw : Spec := { pats := [.dat Reg0, .dat .str, .gw 1 .err, .gw 2 .err, .gw 3 PowT], res := [{ t := .bool }], pre := fun x => ((-9223372036854775808 ≤ x.1.1 ∧ x.1.1 ≤ 9223372036854775807) ∧ ∀ t ∈ (show List Int from x.1.2.1), -9223372036854775808 ≤ t ∧ t ≤ 9223372036854775807) ∧ x.2.2.2.2.1 = powD, f := fun _ => (true, ()) }
/-- PulseTexts -/
theorem hLaw : Ok 3 sLaw := by
  refine mk (ctr := [(4, sAwake), (5, sFmt), (6, sCopy), (7, sParse), (8, sParseR), (9, sFmtR), (10, sSameR), (11, sChk)]) ⟨h17, h5t, h19, hParse, hParseR, h9t, h65, h22, trivial⟩ (nt := 68) Tryz.func3 rfl rfl rfl rfl (by kernel_rfl) (by kernel_rfl) (fun _ => []) ?_
  rintro ⟨⟨(n : Int), (l : List Int), _⟩, (s : ByteArray), (b0 : Bool), (b1 : Bool), (pw : PowT.Den), _⟩ ⟨⟨(hn : -9223372036854775808 ≤ n ∧ n ≤ 9223372036854775807), (hl : ∀ t ∈ l, -9223372036854775808 ≤ t ∧ t ≤ 9223372036854775807)⟩, (hpw : pw = powD)⟩
  have hp : ∀ m : Nat, m ≤ 1000000 → pLen m := fun m h => by show (m : Int) ≤ 4611686018427387904; omega
  have hps := prR_len s
  have hsame : ((bA (fmtP n l)).data.toList == (bA (fmtP n l)).data.toList) = true := beq_self_eq_true _
  repeat' (intro hzz; (try (rename Two => hq; cases hq)); (try dsimp only at hzz); (try simp only [resTy, argTy, eqD, inR, big, wantOf, Bool.not_true, Bool.not_false, Bool.true_eq, decide_eq_true_eq, decide_eq_false_iff_not, Bool.not_eq_true', Bool.not_eq_false', Bool.and_eq_true, Prod.mk.injEq, and_true, true_and, Int.not_lt, Int.not_le, gt_iff_lt, ge_iff_le] at hzz); (try (revert hzz; intro _)))
  all_goals try (rename Unit => hq; clear hq)
  all_goals try ((with_reducible refine Held.mk ?_); (with_reducible (first | refine Frz.mk ?_ | refine And.intro (Frz.mk ?_) ?_ | refine And.intro ?_ (Frz.mk ?_))); repeat' first | exact True.intro | (change _ = _; with_reducible rfl) | refine And.intro ?_ ?_ | (with_reducible refine Frz.mk ?_))
  all_goals try (refine Held.mk ?_; (try dsimp only at *); (try simp only [resTy, argTy, eqD, inR, big, wantOf, Bool.not_true, Bool.not_false, Bool.true_eq, decide_eq_true_eq, decide_eq_false_iff_not, Bool.not_eq_true', Bool.not_eq_false', Bool.and_eq_true, Prod.mk.injEq, and_true, true_and, Int.not_lt, Int.not_le, gt_iff_lt, ge_iff_le] at *))
  all_goals try omega
  all_goals try clear hsame
  · have hl12 : l.length ≤ 12 := by omega
    exact ⟨hp _ (by omega), by omega⟩
  · have hl12 : l.length ≤ 12 := by omega
    exact ⟨⟨hn, hl, hl12⟩, hpw⟩
  · exact ⟨by omega, hpw⟩
  · have hl12 : l.length ≤ 12 := by omega
    exact ⟨hn, hl, hl12⟩
  · exact ⟨hp _ (by omega), hp _ (by omega)⟩
  · rename_i h; simp at h
  · have hl12 : l.length ≤ 12 := by omega
    have := regIn.full ⟨hn, hl, hl12⟩
    exact ⟨by rw [bA_size]; omega, hpw⟩
  · exact hp _ (by omega)
  · rename_i h1 h
    rw [reg_back h1]
    exact ⟨hp _ (by show l.length ≤ 1000000; omega), hp _ (by omega)⟩
  · rename_i h1 h
    rw [reg_back h1]; exact ⟨rfl, rfl⟩
  · rename_i h1 h
    rw [reg_back h1] at h; exact absurd rfl h
  · rename_i h; exact absurd trivial h
  · rename_i h
    rw [beq_self_eq_true] at h; cases h

end Go.Eng.Pu
