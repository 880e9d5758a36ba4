/- Texts X2 A12 A13 A15 W4, as far as they are used. Conditions: each lemma's own. -/
import Derived.Test.YtjgfbifggolibaaGreatDoorKD6
namespace Go.Eng.Ar
open Go.Eng Go.Proofs Go.Lib
set_option linter.all false
set_option maxRecDepth 100000
set_option maxHeartbeats 8000000
theorem prog_num {l : List UInt8} {k : Nat} (hk : k ≤ 18) (h : numOk l k = true) : atoiR l = (numV l, false, ()) ∧ itoa (numV l) = l ∧ (trimPrefix l [45]).length ≤ k ∧ (-9223372036854775808 ≤ numV l ∧ numV l ≤ 9223372036854775807) := by
  obtain ⟨h1, h2⟩ := itoa_of_num h
  have hb := numV_bd h
  have hp : 10 ^ k ≤ 10 ^ 18 := Nat.pow_le_pow_right (by decide) hk
  have hr : -9223372036854775808 ≤ numV l ∧ numV l ≤ 9223372036854775807 := by omega
  have ha := atoi_itoa hr.1 hr.2
  rw [h1] at ha
  exact ⟨by simp only [atoiR, ha], h1, h2, hr⟩
theorem atoi_range {l : List UInt8} (h : (atoiR l).2.1 = false) : -9223372036854775808 ≤ (atoiR l).1 ∧ (atoiR l).1 ≤ 9223372036854775807 := by
  simp only [atoiR] at h ⊢
  cases ha : atoiAll l with
  | ok v => have := atoiAll_bounds ha; simp only; omega
  | _ => rw [ha] at h; cases h
theorem prog_yes {p : ByteArray} {n : Int} (h : (itoa n == p.data.toList) = true) : decide (((bA (trimPrefix (bL p) (bL ⟨#[45]⟩))).size : Int) ≤ 5) = numOk (bL p) 5 := by
  have h : itoa n = bL p := beq_iff_eq.1 h
  rw [bA_size]
  have e : trimPrefix (bL p) (bL ⟨#[45]⟩) = trimPrefix (bL p) [45] := rfl
  rw [e]
  cases hn : numOk (bL p) 5 with
  | true => have ht := (prog_num (by decide) hn).2.2.1; exact decide_eq_true (by omega)
  | false =>
    refine decide_eq_false fun ht => ?_
    have ht : (trimPrefix (bL p) [45]).length ≤ 5 := by omega
    rw [← h] at ht
    have := (num_of_itoa ht).1
    rw [h, hn] at this
    cases this
theorem prog_no2 {p : ByteArray} (h : (itoa (atoiR (bL p)).1 == p.data.toList) = false) : numOk (bL p) 5 = false := by
  cases hn : numOk (bL p) 5 with
  | false => rfl
  | true =>
    obtain ⟨h1, h2, _⟩ := prog_num (by decide) hn
    rw [h1] at h
    exact absurd h2 (beq_eq_false_iff_ne.1 h)
theorem prog_no1 {p : ByteArray} (h : (atoiR (bL p)).2.1 = true) : numOk (bL p) 5 = false := by
  cases hn : numOk (bL p) 5 with
  | false => rfl
  | true =>
    obtain ⟨h1, _⟩ := prog_num (by decide) hn
    rw [h1] at h; cases h
@[reducible] def sNum5 : Spec := { pats := [.dat .str, .gw 3 .err, .gw 4 .err, .gw 2 PowT], res := [{ t := I64 }, { t := .bool }], pre := fun x => x.1.size ≤ 1000000 ∧ x.2.2.2.1 = powD, f := fun x => ((atoiR (bL x.1)).1, numOk (bL x.1) 5, ()) }
theorem h129 : Ok 129 sNum5 := by
  refine mk (ctr := [(125, sItoa), (159, sAtoi), (160, sTrim)]) ⟨hItoa, hAtoi, hTrim, trivial⟩ (nt := 26) Tryz.func129 rfl rfl rfl rfl (by kernel_rfl) (by kernel_rfl) (fun _ => []) ?_
  rintro ⟨(s : ByteArray), (b0 : Bool), (b1 : Bool), (pw : PowT.Den), _⟩ ⟨(hs : s.size ≤ 1000000), (hpw : pw = powD)⟩
  repeat' (intro hzz; (try (rename Two => hq; cases hq)); (try dsimp only at hzz); (try simp only [resTy, argTy, eqD, inR, big, wantOf, zB] at hzz); (try simp only [resTy, argTy, eqD, inR, big, wantOf, zB, bL_bA] at hzz); (try (revert hzz; intro _)))
  all_goals try (rename Unit => hq; clear hq)
  all_goals try ((with_reducible refine Held.mk ?_); (with_reducible (first | refine Frz.mk ?_ | refine And.intro (Frz.mk ?_) ?_ | refine And.intro ?_ (Frz.mk ?_))); repeat' first | exact True.intro | (change _ = _; with_reducible rfl) | refine And.intro ?_ ?_ | (with_reducible refine Frz.mk ?_))
  all_goals try (refine Held.mk ?_; (try dsimp only at *); (try simp only [resTy, argTy, eqD, inR, big, wantOf, zB] at *); (try simp only [resTy, argTy, eqD, inR, big, wantOf, zB, bL_bA] at *))
  · exact hs
  · rename_i h; exact ⟨atoi_range h, hpw⟩
  · rename_i h1 h2; exact prog_yes h2
  · rename_i h1 h2; exact (prog_no2 h2).symm
  · rename_i h1; exact (prog_no1 h1).symm
theorem cutP_size (s : ByteArray) : (cutP s).1.size ≤ s.size ∧ (cutP s).2.1.size ≤ s.size := by
  unfold cutP Lib.cut
  rw [bA_size, bA_size]
  split
  · simp only [List.length_take, List.length_drop, bL_len]; omega
  · simp only [List.length_nil, bL_len]; omega
abbrev PairD : Type := PairT.Den
def gdP (p : ByteArray) : PairD := ((atoiR (bL (cutP p).1)).1, (atoiR (bL (cutP p).2.1)).1, ())
def okP (p : ByteArray) : Bool := numOk (bL (cutP p).1) 5 && numOk (bL (cutP p).2.1) 5
abbrev strN (L : List ByteArray) (i : Nat) : ByteArray := L.getD i ByteArray.empty
def gdL (L : List ByteArray) (k : Nat) : List PairD := tab (fun i => gdP (strN L i)) k
def pgL (L : List ByteArray) : List PairD × Int × Unit := if L.all okP = true then (if L.length ≤ 8 then (if L.all (fun p => decide (gnErr (gdP p).1 (gdP p).2.1 = 0)) = true then (gdL L L.length, 0, ()) else ([], 2, ())) else ([], 8, ())) else ([], 7, ())
def pgR (s : ByteArray) : List PairD × Int × Unit := pgL (cutB 59 s)
theorem all_no {L : List ByteArray} {p : ByteArray → Bool} {k : Nat} (hk : k < L.length) (h : p (strN L k) = false) : L.all p = false := by
  rw [List.all_eq_false]
  refine ⟨L[k], List.getElem_mem hk, ?_⟩
  have : strN L k = L[k] := by simp [strN, List.getD, List.getElem?_eq_getElem hk]
  rw [this] at h; simp [h]
theorem all_yes {L : List ByteArray} {p : ByteArray → Bool} (h : ∀ i, i < L.length → p (strN L i) = true) : L.all p = true := by
  rw [List.all_eq_true]
  intro x hx
  obtain ⟨i, hi, rfl⟩ := List.mem_iff_getElem.1 hx
  have := h i hi
  have e : strN L i = L[i] := by simp [strN, List.getD, List.getElem?_eq_getElem hi]
  rwa [e] at this
theorem pg7 {L : List ByteArray} {k : Nat} (hk : k < L.length) (h : okP (strN L k) = false) : pgL L = ([], 7, ()) := by
  unfold pgL; rw [all_no hk h]; rfl
theorem pg8 {L : List ByteArray} (h : ∀ i, i < L.length → okP (strN L i) = true) (hl : 8 < L.length) : pgL L = ([], 8, ()) := by
  unfold pgL; rw [all_yes h, if_pos rfl, if_neg (by omega)]
theorem pg2 {L : List ByteArray} {k : Nat} (h : ∀ i, i < L.length → okP (strN L i) = true) (hl : L.length ≤ 8) (hk : k < L.length) (hg : ¬ gnErr (gdP (strN L k)).1 (gdP (strN L k)).2.1 = 0) : pgL L = ([], 2, ()) := by
  unfold pgL; rw [all_yes h, if_pos rfl, if_pos hl, all_no hk (decide_eq_false hg)]; rfl
theorem pg0 {L : List ByteArray} (h : ∀ i, i < L.length → okP (strN L i) = true) (hl : L.length ≤ 8) (hg : ∀ i, i < L.length → gnErr (gdP (strN L i)).1 (gdP (strN L i)).2.1 = 0) : pgL L = (gdL L L.length, 0, ()) := by
  unfold pgL; rw [all_yes h, if_pos rfl, if_pos hl, all_yes (fun i hi => decide_eq_true (hg i hi)), if_pos rfl]
theorem gn_two {g d : Int} (h : ¬ gnErr g d = 0) : gnErr g d = 2 := by
  unfold gnErr at *; split at h
  · exact absurd rfl h
  · rename_i h1; rw [if_neg h1]
theorem piece_size (c : UInt8) : ∀ (l : List UInt8), ∀ p ∈ piecesL c l, p.length ≤ l.length
  | [], p, hp => by
    simp only [piecesL, List.mem_singleton] at hp
    subst hp; exact Nat.le_refl _
  | b :: l, p, hp => by
    have ih := piece_size c l
    simp only [piecesL] at hp
    split at hp
    · rcases List.mem_cons.1 hp with rfl | h
      · simp
      · have := ih p h; simp only [List.length_cons]; omega
    · split at hp
      · rename_i q r hq
        rcases List.mem_cons.1 hp with rfl | h
        · have := ih q (by rw [hq]; simp); simp only [List.length_cons]; omega
        · have := ih p (by rw [hq]; simp [h]); simp only [List.length_cons]; omega
      · rw [List.mem_singleton] at hp; subst hp; simp
theorem cutB_size (c : UInt8) (s : ByteArray) (i : Nat) : ((cutB c s).getD i ByteArray.empty).size ≤ s.size := by
  rw [List.getD_eq_getElem?_getD]
  cases h : (cutB c s)[i]? with
  | none => exact Nat.zero_le _
  | some p =>
    have hm := List.mem_of_getElem? h
    simp only [cutB, List.mem_map] at hm
    obtain ⟨q, hq, rfl⟩ := hm
    have := piece_size c (bL s) q hq
    rw [bL_len] at this
    show (bA q).size ≤ _
    rw [bA_size]; exact this
@[reducible] def sParseG : Spec := { pats := [.dat .str, .gw 3 .err, .gw 4 .err, .gw 2 PowT, .gw 1 I64], res := [{ t := .sl PairT }, { t := I64 }], pre := fun x => x.1.size ≤ 1000000 ∧ x.2.2.2.1 = powD, f := fun x => pgR x.1 }
def pgAnn (L : List ByteArray) : LoopAnn := { σ := Nat, pat := fun k => [sI 20 k, .slot 4 (.one (.o 60004 k)), .row 60004 82 PairT (gdL L k)], inv := fun k => k ≤ L.length ∧ ∀ i, i < k → okP (strN L i) = true, meas := fun k => L.length - k }
def pgAnn2 (L : List ByteArray) : LoopAnn := { σ := Nat, pat := fun k => [sI 58 k], inv := fun k => k ≤ L.length ∧ ∀ i, i < k → gnErr (gdP (strN L i)).1 (gdP (strN L i)).2.1 = 0, meas := fun k => L.length - k }
theorem h67 : Ok 67 sParseG := by
  refine mk (ctr := [(86, sGains), (127, sSplit), (128, sCut), (129, sNum5)]) ⟨h86, hSplit, hCut, h129, trivial⟩ (nt := 72) Tryz.func67 rfl rfl rfl rfl (by kernel_rfl) (by kernel_rfl) (fun x => [fun _ => pgAnn (cutB 59 x.1), fun _ => pgAnn2 (cutB 59 x.1)]) ?_
  rintro ⟨(s : ByteArray), (b0 : Bool), (b1 : Bool), (pw : PowT.Den), (m : Int), _⟩ ⟨(hs : s.size ≤ 1000000), (hpw : pw = powD)⟩
  have hc := cutB_size 59 s
  have hcl := cutB_len 59 s
  have hN : ∀ k, k < (cutB 59 s).length → (gdL (cutB 59 s) (cutB 59 s).length).getD k PairT.dflt = gdP (strN (cutB 59 s) k) := fun k hk => tab_get _ _ _ _ hk
  have hG : ∀ k, (gdL (cutB 59 s) k).length = k := fun k => tab_len _ _
  repeat' (intro hzz; (try (rename Two => hq; cases hq)); (try dsimp only at hzz); (try simp only [resTy, argTy, eqD, inR, big, wantOf, zB] at hzz); (try simp only [resTy, argTy, eqD, inR, big, wantOf, zB, bL_bA, Int.toNat_natCast] at hzz); (try (revert hzz; intro _)))
  all_goals try (rename Unit => hq; clear hq)
  all_goals try ((with_reducible refine Held.mk ?_); (with_reducible (first | refine Frz.mk ?_ | refine And.intro (Frz.mk ?_) ?_ | refine And.intro ?_ (Frz.mk ?_))); repeat' first | exact True.intro | (change _ = _; with_reducible rfl) | refine And.intro ?_ ?_ | (with_reducible refine Frz.mk ?_))
  all_goals try (refine Held.mk ?_; (try dsimp only at *); (try simp only [resTy, argTy, eqD, inR, big, wantOf, zB] at *); (try simp only [resTy, argTy, eqD, inR, big, wantOf, zB, bL_bA, Int.toNat_natCast] at *))
  all_goals try omega
  · exact ⟨hs, rfl⟩
  · 
    refine GHeld.mk ?_
    refine Exists.intro (0 : Nat) ?_
    refine And.intro (Leaf.mk ?_) ?_
    · repeat' first | exact True.intro | refine And.intro ?_ ?_
      all_goals try ((change _ = _ <;> try dsimp only) <;> try with_reducible rfl)
      all_goals try omega
      all_goals (rfl)
    exact ⟨Nat.zero_le _, fun i hi => absurd hi (Nat.not_lt_zero _)⟩
  · exact ⟨Nat.le_trans (hc _) hs, rfl⟩
  · exact ⟨Nat.le_trans (cutP_size _).1 (Nat.le_trans (hc _) hs), hpw⟩
  · exact ⟨Nat.le_trans (cutP_size _).2 (Nat.le_trans (hc _) hs), hpw⟩
  · rename_i k hk hlt h1 h2
    have e : pgR s = ([], 7, ()) := pg7 (k := k) (by omega) (by show (_ && _) = false; rw [Bool.and_eq_false_iff]; exact .inr h2)
    rw [e]; exact ⟨rfl, rfl⟩
  · rename_i k hk hlt h1 h2
    rw [hG]
    refine ⟨rfl, ?_⟩
    show k + 1 ≤ 2147483648; omega
  · rename_i k hk hlt h1 h2
    refine GHeld.mk ?_
    refine Exists.intro (k + 1) ?_
    refine And.intro (Leaf.mk ?_) ?_
    · repeat' first | exact True.intro | refine And.intro ?_ ?_
      all_goals try ((change _ = _ <;> try dsimp only) <;> try with_reducible rfl)
      all_goals try omega
      all_goals (first | rfl | exact (hG (k + 1)).symm | exact hG (k + 1))
    refine ⟨⟨by show k + 1 ≤ (cutB 59 s).length; omega, fun i hi => ?_⟩, by show (cutB 59 s).length - (k + 1) < (cutB 59 s).length - k; omega⟩
    by_cases e : i = k
    · subst e; show (_ && _) = true; rw [Bool.and_eq_true]; exact ⟨h1, h2⟩
    · exact hk.2 i (by omega)
  · rename_i k hk hlt h1
    have e : pgR s = ([], 7, ()) := pg7 (k := k) (by omega) (by show (_ && _) = false; rw [Bool.and_eq_false_iff]; exact .inl h1)
    rw [e]; exact ⟨rfl, rfl⟩
  · rename_i k hk hlt h1
    have e : pgR s = ([], 8, ()) := pg8 (fun i hi => hk.2 i (by omega)) (by omega)
    rw [e]; exact ⟨rfl, rfl⟩
  · 
    refine GHeld.mk ?_
    refine Exists.intro (0 : Nat) ?_
    refine And.intro (Leaf.mk ?_) ?_
    · repeat' first | exact True.intro | refine And.intro ?_ ?_
      all_goals try ((change _ = _ <;> try dsimp only) <;> try with_reducible rfl)
      all_goals try omega
      all_goals (rfl)
    exact ⟨Nat.zero_le _, fun i hi => absurd hi (Nat.not_lt_zero _)⟩
  · rename_i n hn hle h8 k hk hlt
    rw [hG]; omega
  · rename_i n hn hle h8 k hk hlt h
    have hn1 := hn.1
    obtain rfl : n = (cutB 59 s).length := by omega
    rw [hN k (by omega)] at h
    rw [hN k (by omega)]
    have e : pgR s = ([], 2, ()) := pg2 (fun i hi => hn.2 i (by omega)) (by omega) (by omega) h
    rw [e]; exact ⟨rfl, gn_two h⟩
  · rename_i n hn hle h8 k hk hlt h
    have hn1 := hn.1
    obtain rfl : n = (cutB 59 s).length := by omega
    rw [hN k (by omega)] at h
    refine GHeld.mk ?_
    refine Exists.intro (k + 1) ?_
    refine And.intro (Leaf.mk ?_) ?_
    · repeat' first | exact True.intro | refine And.intro ?_ ?_
      all_goals try ((change _ = _ <;> try dsimp only) <;> try with_reducible rfl)
      all_goals try omega
      all_goals (rfl)
    refine ⟨⟨by show k + 1 ≤ (cutB 59 s).length; omega, fun i hi => ?_⟩, by show (cutB 59 s).length - (k + 1) < (cutB 59 s).length - k; omega⟩
    by_cases e : i = k
    · subst e; exact h
    · exact hk.2 i (by omega)
  all_goals try exact (hG _).symm
  · rename_i n hn hle h8 k hk hlt
    have hn1 := hn.1
    obtain rfl : n = (cutB 59 s).length := by omega
    have e : pgR s = (gdL (cutB 59 s) (cutB 59 s).length, 0, ()) := pg0 (fun i hi => hn.2 i (by omega)) (by omega) (fun i hi => hk.2 i (by omega))
    rw [e]; exact ⟨rfl, rfl⟩
end Go.Eng.Ar

namespace Go.Eng.Ar
open Go.Eng Go.Proofs
set_option linter.all false
set_option maxRecDepth 100000
set_option maxHeartbeats 8000000
theorem ex_p1 : opErr 34000 34000 [((0, 0, 0, ()), 1000, 0, ()), ((0, 0, 100, ()), 500, 400, ())] (0, 0, 500, ()) = 0 := by decide +kernel
theorem ex_p2 : reT (raysT 34000 34000 [((0, 0, 0, ()), 1000, 0, ()), ((0, 0, 100, ()), 500, 400, ())] (0, 0, 500, ()) 2) 2 = 3250000 := by decide +kernel
theorem ex_p3 : imT (raysT 34000 34000 [((0, 0, 0, ()), 1000, 0, ()), ((0, 0, 100, ()), 500, 400, ())] (0, 0, 500, ()) 2) 2 = 0 := by decide +kernel
theorem ex_p4 : prC (openR 34000 34000 [((0, 0, 0, ()), 1000, 0, ()), ((0, 0, 100, ()), 500, 400, ())] (0, 0, 500, ())) = cpxI 3250000 0 := by
  unfold openR
  rw [if_pos ex_p1]
  unfold prC
  rw [if_pos rfl]
  show cpxI (reT (raysT 34000 34000 _ _ 2) 2) (imT (raysT 34000 34000 _ _ 2) 2) = _
  rw [ex_p2, ex_p3]
theorem ex_s : strR (0, 0, 0, ()) (300, 400, 0, ()) = ((2000, 2000, ()), 0, ()) := by decide +kernel
theorem ex_b : bOpenR [[2, 0], [0, 4]] 3 = (bO (bX [[2, 0], [0, 4]] 3) 2, bW (bX [[2, 0], [0, 4]] 3) 2 2, (2, 1, ()), 0, ()) := by
  unfold bOpenR
  rw [if_pos ex_ok.1, ← ex_ok.2.2]; rfl
@[reducible] def sAwake : Spec := { pats := [.gw 3 .err, .gw 4 .err, .gw 2 PowT, .gw 1 I64], res := [{ t := .bool }], pre := fun x => x.2.2.1 = powD, f := fun _ => (true, ()) }
theorem h14 : Ok 14 sAwake := by
  refine mk (ctr := [(17, sStrength), (34, sPress), (41, sBestOpen), (46, sSame), (49, sNum), (67, sParseG), (72, sPair)]) ⟨h17, h34, h41, h46, h49, h67, h72, trivial⟩ (nt := 78) Tryz.func14 rfl rfl rfl rfl (by kernel_rfl) (by kernel_rfl) (fun _ => []) ?_
  rintro ⟨(b0 : Bool), (b1 : Bool), (pw : PowT.Den), (m : Int), _⟩ (hpw : pw = powD)
  have e1 : opErr pairA.1 pairA.2.1 pairA.2.2.1 (0, 0, 500, ()) = 0 := ex_p1
  have e2 : fSame (prC (openR pairA.1 pairA.2.1 pairA.2.2.1 (0, 0, 500, ()))) (cpxI 3250000 0) = true := by
    rw [show openR pairA.1 pairA.2.1 pairA.2.2.1 (0, 0, 500, ()) = openR 34000 34000 [((0, 0, 0, ()), 1000, 0, ()), ((0, 0, 100, ()), 500, 400, ())] (0, 0, 500, ()) from rfl, ex_p4]
    simp [fSame]
  have e3 : (strR (0, 0, 0, ()) (300, 400, 0, ())).2.1 = 0 := by rw [ex_s]
  have e4 : ((I64).cons ((I64).cons Ty.nil)).beq ((strR (0, 0, 0, ()) (300, 400, 0, ())).1.1, (strR (0, 0, 0, ()) (300, 400, 0, ())).1.2.1, ()) (2000, 2000, ()) = true := by rw [ex_s]; rfl
  have e5 : (chain (List.replicate 2 (I64))).beq (2, 1, ()) (2, 1, ()) = true := rfl
  have e6 : (pgR { data := #[49, 48, 48, 48, 32, 48, 59, 53, 48, 48, 32, 52, 48, 48] }).2.1 = 0 := by decide +kernel
  have e7 : (pgR { data := #[49, 48, 48, 48, 32, 48, 59, 53, 48, 48, 32, 52, 48, 48] }).1.length = 2 := by decide +kernel
  have e8 : (chain (List.replicate 2 (I64))).beq (List.getD (pgR { data := #[49, 48, 48, 48, 32, 48, 59, 53, 48, 48, 32, 52, 48, 48] }).1 (Int.toNat 1) PairT.dflt) (500, 400, ()) = true := by decide +kernel
  repeat' (intro hzz; (try (rename Two => hq; cases hq)); (try dsimp only at hzz); (try simp only [resTy, argTy, eqD, inR, big, wantOf, zB] at hzz); (try simp only [resTy, argTy, eqD, inR, big, wantOf, zB, ex_b] at hzz); (try (revert hzz; intro _)))
  all_goals try (rename Unit => hq; clear hq)
  all_goals try ((with_reducible refine Held.mk ?_); (with_reducible (first | refine Frz.mk ?_ | refine And.intro (Frz.mk ?_) ?_ | refine And.intro ?_ (Frz.mk ?_))); repeat' first | exact True.intro | (change _ = _; with_reducible rfl) | refine And.intro ?_ ?_ | (with_reducible refine Frz.mk ?_))
  all_goals try (refine Held.mk ?_; (try dsimp only at *); (try simp only [resTy, argTy, eqD, inR, big, wantOf, zB] at *); (try simp only [resTy, argTy, eqD, inR, big, wantOf, zB, ex_b] at *))
  · show ((2 : Nat) : Int) ≤ 4611686018427387904; decide
  · exact fun _ => ex_ok.2.1
  · exact ⟨by decide, hpw⟩
  · rw [e7]; decide
  · exact e8
  · rename_i h; exact absurd (congrArg Int.ofNat e7) h
  · rename_i h; exact absurd e6 h
  · rename_i h; exact absurd (e5.symm.trans h) (by decide)
  · rename_i h; exact absurd trivial h
  · rename_i h; exact absurd (e4.symm.trans h) (by decide)
  · rename_i h; exact absurd e3 h
  · rename_i h; exact absurd (e2.symm.trans h) (by decide)
  · rename_i h; exact absurd e1 h
end Go.Eng.Ar

namespace Go.Eng.Ar
open Go.Eng Go.Proofs
set_option linter.all false
set_option maxRecDepth 100000
set_option maxHeartbeats 8000000
theorem fs23 : Tryz.prog.fieldsOf 23 = #[⟨"X", 3, 0, false, "", "", 0⟩, ⟨"Y", 3, 1, false, "", "", 8⟩, ⟨"Z", 3, 2, false, "", "", 16⟩] := by kernel_rfl
theorem eqP (w : World) (d : Nat) (x1 x2 x3 y1 y2 y3 : Int) : (Op.equalIn (d + 2) 23 (.agg #[.int .i64 x1, .int .i64 x2, .int .i64 x3]) (.agg #[.int .i64 y1, .int .i64 y2, .int .i64 y3])).run Tryz.prog w = .ok (decide (x1 = y1) && (decide (x2 = y2) && decide (x3 = y3))) w := by
  rw [run_equalIn_struct w (d + 1) 23 _ _ (by rw [Tryz.underlying23, fs23]) Tryz.stoodInHeld23, fs23]
  rw [eqF_int w d _ _ "X" "" "" 0 0 false _ (by decide) (x := x1) (y := y1) rfl rfl, eqF_int w d _ _ "Y" "" "" 1 8 false _ (by decide) (x := x2) (y := y2) rfl rfl, eqF_int w d _ _ "Z" "" "" 2 16 false _ (by decide) (x := x3) (y := y3) rfl rfl]
  simp only [Op.eqFields, Sem.run_pure]
  by_cases e1 : x1 = y1 <;> by_cases e2 : x2 = y2 <;> by_cases e3 : x3 = y3 <;> simp [e1, e2, e3]
theorem fs53 : Tryz.prog.fieldsOf 53 = #[⟨"At", 23, 0, false, "", "", 0⟩, ⟨"Gain", 3, 3, false, "", "", 24⟩, ⟨"Delay", 3, 4, false, "", "", 32⟩] := by kernel_rfl
theorem eq53 : EqOk Tryz.prog 53 SpkT := by
  refine eqOf Tryz.eqGuardType53 fun w V x y l m hx hy => ?_
  obtain ⟨p1, p2, rfl, ⟨l1, l2, rfl, h1, l3, l4, rfl, h2, l5, l6, rfl, h3, h4⟩, l7, l8, rfl, h5, l9, l10, rfl, h6, h7⟩ := hx
  obtain ⟨q1, q2, rfl, ⟨m1, m2, rfl, g1, m3, m4, rfl, g2, m5, m6, rfl, g3, g4⟩, m7, m8, rfl, g5, m9, m10, rfl, g6, g7⟩ := hy
  obtain ⟨⟨x1, x2, x3, u⟩, x4, x5, u2⟩ := x
  obtain ⟨⟨y1, y2, y3, v⟩, y4, y5, v2⟩ := y
  subst h1 h2 h3 h4 h5 h6 h7 g1 g2 g3 g4 g5 g6 g7
  rw [run_equalIn_struct w 9999 53 _ _ (by rw [Tryz.underlying53, fs53]) Tryz.stoodInHeld53, fs53]
  have pp : ∀ (z1 z2 z3 z4 z5 : Int), (part 23 #[.int .i64 z1, .int .i64 z2, .int .i64 z3, .int .i64 z4, .int .i64 z5] 0).run Tryz.prog w = .ok (.agg #[.int .i64 z1, .int .i64 z2, .int .i64 z3]) w := fun z1 z2 z3 z4 z5 => by
    obtain ⟨i, hi⟩ : ∃ i, TIOk Tryz.prog 23 i ∧ i.kind.isAgg = true ∧ i.size = 3 := ⟨_, row23, rfl, rfl⟩
    rw [run_part hi.1, if_pos hi.2.1, hi.2.2]; rfl
  show (Op.eqFields 9999 #[.int .i64 x1, .int .i64 x2, .int .i64 x3, .int .i64 x4, .int .i64 x5] #[.int .i64 y1, .int .i64 y2, .int .i64 y3, .int .i64 y4, .int .i64 y5] [⟨"At", 23, 0, false, "", "", 0⟩, ⟨"Gain", 3, 3, false, "", "", 24⟩, ⟨"Delay", 3, 4, false, "", "", 32⟩]).run Tryz.prog w = _
  rw [Op.eqFields]
  rw [if_pos (show "At" ≠ "_" by decide)]
  simp only [Sem.run_bind, pp, Result.andThen_ok]
  rw [show (9999 : Nat) = 9997 + 2 from rfl, eqP w 9997 x1 x2 x3 y1 y2 y3]
  simp only [Result.andThen_ok]
  by_cases e : x1 = y1 ∧ x2 = y2 ∧ x3 = y3
  · obtain ⟨rfl, rfl, rfl⟩ := e
    simp only [decide_true, Bool.and_self, Bool.not_true, Bool.false_eq_true, if_false]
    rw [eqF_int w 9998 _ _ "Gain" "" "" 3 24 false _ (by decide) (x := x4) (y := y4) rfl rfl, eqF_int w 9998 _ _ "Delay" "" "" 4 32 false _ (by decide) (x := x5) (y := y5) rfl rfl]
    simp only [Ty.beq, Op.eqFields, Sem.run_pure, Bool.and_true]
    by_cases e1 : x4 = y4 <;> by_cases e2 : x5 = y5 <;> simp [e1, e2]
  · have h1 : (decide (x1 = y1) && (decide (x2 = y2) && decide (x3 = y3))) = false := by
      by_cases e1 : x1 = y1 <;> by_cases e2 : x2 = y2 <;> by_cases e3 : x3 = y3 <;> simp_all
    rw [h1]
    simp only [Bool.not_false, if_true, Sem.run_pure]
    have : SpkT.beq ((x1, x2, x3, u), x4, x5, u2) ((y1, y2, y3, v), y4, y5, v2) = false := by
      show ((decide (x1 = y1) && (decide (x2 = y2) && (decide (x3 = y3) && true))) && (decide (x4 = y4) && (decide (x5 = y5) && true))) = false
      rw [Bool.and_true, h1]; rfl
    rw [this]
theorem eqs3 : ∀ t ∈ ([28, 82, 53] : List Nat), ∀ ty, tyOf tt 20 t = some ty → EqOk Tryz.prog t ty := by
  intro t ht ty h
  have h53 : tyOf tt 20 53 = some SpkT := by kernel_rfl
  by_cases e : t = 53
  · subst e; rw [h53] at h; cases h; exact eq53
  · exact eqsOk t (by simp only [List.mem_cons, List.not_mem_nil, or_false] at ht ⊢; rcases ht with h | h | h <;> simp_all) ty h
@[reducible] def cfgE (X : Xt) (ctr : List (Nat × Spec)) (nt : Nat) : Cfg := { tt := tt, eqs := [28, 82, 53], ctr := ctr, nt := nt, ext := [166], extb := [(110, .f64)], its := X.its, clos := X.clos, fuel := X.fuel }
theorem cfgEOk {X : Xt} (hX : Its X.its) {ctr : List (Nat × Spec)} {nt : Nat} (h : All ctr) : CfgOk Tryz.prog OB (cfgE X ctr nt) where
  tbl := tbl
  eqs := eqs3
  ctr := (cfgOk hX h (nt := nt)).ctr
  ext := (cfgOk hX h (nt := nt)).ext
  extb := extOk
  obs := fun t i hi => by simp [obOf] at hi
  its := fun g isp h => its_get hX h
theorem mkI {c : Cfg} (hC : ∀ nt, CfgOk Tryz.prog OB { c with nt := nt }) {f nt : Nat} {fn : Func} {sp : Spec} (hf : Tryz.prog.funcs[f]? = some fn) (hb : fn.body = some (bodyOf fn)) (hnt : fn.ntmps = nt) (hps : (Nat.ble sp.pats.length nt && Nat.ble nt 1000000) = true)
    (hob : Nat.ble (obCount sp.pats) 1 = true) (hd : dstOk nt (bodyOf fn) = true) (hn : (fn.name == "runtime.NumGoroutine") = false) (anns : (argTy sp.pats).Den → List (St → LoopAnn))
    (h : ∀ x, sp.pre x → bodyVC { c with nt := nt } (par { c with nt := nt }) (anns x) fn.results.toList (bodyOf fn) sp x) : Ok f sp :=
  ⟨fn_sound (hC nt) (par_sound mixed (hC nt)) hf hb hnt (Nat.le_of_ble_eq_true (Bool.and_eq_true _ _ ▸ hps : _ ∧ _).1) (Nat.le_of_ble_eq_true (Bool.and_eq_true _ _ ▸ hps : _ ∧ _).2) (Nat.le_of_ble_eq_true hob) rfl hd anns h, fn, hf, hn, by rw [hb]; rfl⟩
@[reducible] def sFew : Spec := { pats := [.dat ArrT], res := [{ t := .bool }], pre := fun _ => True, f := fun x => (decide (List.length (α := SpkD) x.1.2.2.1 ≤ 10), ()) }
theorem h24 : Ok 24 sFew := by
  refine mk (ctr := []) trivial (nt := 7) Tryz.func24 rfl rfl rfl rfl (by kernel_rfl) (by kernel_rfl) (fun _ => []) ?_
  rintro ⟨⟨(r : Int), (v : Int), (xs : List SpkD), _⟩, _⟩ _
  repeat' (intro hzz; (try (rename Two => hq; cases hq)); (try dsimp only at hzz); (try simp only [resTy, argTy, eqD, inR, big, wantOf, zB] at hzz); (try (revert hzz; intro _)))
  all_goals try (rename Unit => hq; clear hq)
  all_goals try ((with_reducible refine Held.mk ?_); (with_reducible (first | refine Frz.mk ?_ | refine And.intro (Frz.mk ?_) ?_ | refine And.intro ?_ (Frz.mk ?_))); repeat' first | exact True.intro | (change _ = _; with_reducible rfl) | refine And.intro ?_ ?_ | (with_reducible refine Frz.mk ?_))
  all_goals try (refine Held.mk ?_; (try dsimp only at *); (try simp only [resTy, argTy, eqD, inR, big, wantOf, zB] at *))
  all_goals (show decide ((xs.length : Int) ≤ 10) = decide (xs.length ≤ 10); congr 1; exact propext ⟨fun h => by omega, fun h => by omega⟩)
theorem h91 : Ok 91 sSoundOf := by
  refine mk (ctr := []) trivial (nt := 8) Tryz.func91 rfl rfl rfl rfl (by kernel_rfl) (by kernel_rfl) (fun _ => []) ?_
  rintro ⟨⟨(r : Int), (v : Int), (xs : List SpkD), _⟩, _⟩ _
  repeat' (intro hzz; (try (rename Two => hq; cases hq)); (try dsimp only at hzz); (try simp only [resTy, argTy, eqD, inR, big, wantOf, zB] at hzz); (try (revert hzz; intro _)))
  all_goals try (rename Unit => hq; clear hq)
  all_goals try ((with_reducible refine Held.mk ?_); (with_reducible (first | refine Frz.mk ?_ | refine And.intro (Frz.mk ?_) ?_ | refine And.intro ?_ (Frz.mk ?_))); repeat' first | exact True.intro | (change _ = _; with_reducible rfl) | refine And.intro ?_ ?_ | (with_reducible refine Frz.mk ?_))
  all_goals try (refine Held.mk ?_; (try dsimp only at *); (try simp only [resTy, argTy, eqD, inR, big, wantOf, zB] at *))
  all_goals try omega
theorem pl_two {a b c : Int} (h : ¬ plErr a b c = 0) : plErr a b c = 2 := by
  unfold plErr at *; split at h
  · exact absurd rfl h
  · rename_i h1; rw [if_neg h1]
def chkAnnR (r v : Int) (xs : List SpkD) : LoopAnn := { σ := Nat, pat := fun k => [sI 5 k], inv := fun k => k ≤ xs.length ∧ chkGo xs (xs.length - k) k = chkA r v xs, meas := fun k => xs.length - k }
theorem h28 : Ok 28 sCheck := by
  refine mk (ctr := [(18, sPlace), (21, sSound), (91, sSoundOf), (92, sGains)]) ⟨h18, h21, h91, h92, trivial⟩ (nt := 46) Tryz.func28 rfl rfl rfl rfl (by kernel_rfl) (by kernel_rfl) (fun x => [fun _ => chkAnnR x.1.1 x.1.2.1 x.1.2.2.1]) ?_
  rintro ⟨⟨(r : Int), (v : Int), (xs : List SpkD), ⟨⟩⟩, ⟨⟩⟩ (hp : pLen xs.length)
  have hp' := hp.out
  have hh : ∀ e, hdErr r v xs.length = e → e ≠ 0 → chkA r v xs = (0, e) := fun e h1 h2 => by
    unfold chkA; rw [if_neg (by rw [h1]; exact h2), h1]
  repeat' (intro hzz; (try (rename Two => hq; cases hq)); (try dsimp only at hzz); (try simp only [resTy, argTy, eqD, inR, big, wantOf, zB] at hzz); (try simp only [resTy, argTy, eqD, inR, big, wantOf, zB, Int.toNat_natCast] at hzz); (try (revert hzz; intro _)))
  all_goals try (rename Unit => hq; clear hq)
  all_goals try ((with_reducible refine Held.mk ?_); (with_reducible (first | refine Frz.mk ?_ | refine And.intro (Frz.mk ?_) ?_ | refine And.intro ?_ (Frz.mk ?_))); repeat' first | exact True.intro | (change _ = _; with_reducible rfl) | refine And.intro ?_ ?_ | (with_reducible refine Frz.mk ?_))
  all_goals try (refine Held.mk ?_; (try dsimp only at *); (try simp only [resTy, argTy, eqD, inR, big, wantOf, zB] at *); (try simp only [resTy, argTy, eqD, inR, big, wantOf, zB, Int.toNat_natCast] at *))
  all_goals try omega
  · rename_i h
    rw [hh _ (if_neg h) h]; exact ⟨rfl, rfl⟩
  · rename_i h1 h2
    rw [hh 10 ((if_pos h1).trans (if_pos (by omega))) (by decide)]; exact ⟨rfl, rfl⟩
  · rename_i h1 h2 h3
    rw [hh 8 ((if_pos h1).trans ((if_neg (by omega)).trans (if_neg (by omega)))) (by decide)]; exact ⟨rfl, rfl⟩
  · rename_i h1 h2 h3
    refine GHeld.mk ?_
    refine Exists.intro (0 : Nat) ?_
    refine And.intro (Leaf.mk ?_) ?_
    · repeat' first | exact True.intro | refine And.intro ?_ ?_
      all_goals try ((change _ = _ <;> try dsimp only) <;> try with_reducible rfl)
      all_goals try omega
      all_goals (rfl)
    have e : hdErr r v xs.length = 0 := (if_pos h1).trans ((if_neg (by omega)).trans (if_pos (by omega)))
    exact ⟨Nat.zero_le _, by unfold chkA; rw [if_pos e]; rfl⟩
  · rename_i h1 h2 h3 k hk hlt h4 h5
    have e := hk.2
    have hs : spErr (xs.getD k spkZ) = 2 := (if_pos h4).trans (gn_two h5)
    rw [chkGo_step (by omega), if_neg (by rw [hs]; decide), hs] at e
    rw [← e]; exact ⟨rfl, rfl⟩
  · rename_i h1 h2 h3 k hk hlt h4 h5
    have e := hk.2
    have hs : spErr (xs.getD k spkZ) = 0 := (if_pos h4).trans h5
    rw [chkGo_step (by omega), if_pos hs] at e
    refine GHeld.mk ?_
    refine Exists.intro (k + 1) ?_
    refine And.intro (Leaf.mk ?_) ?_
    · repeat' first | exact True.intro | refine And.intro ?_ ?_
      all_goals try ((change _ = _ <;> try dsimp only) <;> try with_reducible rfl)
      all_goals try omega
      all_goals (rfl)
    exact ⟨⟨(show k + 1 ≤ xs.length by omega), e⟩, (show xs.length - (k + 1) < xs.length - k by omega)⟩
  · rename_i h1 h2 h3 k hk hlt h4
    have e := hk.2
    have hs : spErr (xs.getD k spkZ) = 2 := (if_neg h4).trans (pl_two h4)
    rw [chkGo_step (by omega), if_neg (by rw [hs]; decide), hs] at e
    rw [← e]; exact ⟨rfl, rfl⟩
  · rename_i h1 h2 h3 k hk hlt
    have e := hk.2
    rw [show xs.length - k = 0 by omega] at e
    rw [← e]; exact ⟨rfl, rfl⟩
/-! ### Arrays compared -/
def sameL (xs ys : List SpkD) : Nat → Nat → Bool
  | 0, _ => true
  | k + 1, i => SpkT.beq (spkN xs i) (spkN ys i) && sameL xs ys k (i + 1)
def sameA (x y : ArrD) : Bool := decide (x.1 = y.1) && (decide (x.2.1 = y.2.1) && (decide (List.length (α := SpkD) x.2.2.1 = List.length (α := SpkD) y.2.2.1) && sameL x.2.2.1 y.2.2.1 (List.length (α := SpkD) x.2.2.1) 0))
theorem sameL_step {xs ys : List SpkD} {i : Nat} (h : i < xs.length) : sameL xs ys (xs.length - i) i = (SpkT.beq (spkN xs i) (spkN ys i) && sameL xs ys (xs.length - (i + 1)) (i + 1)) := by
  obtain ⟨k, hk⟩ : ∃ k, xs.length - i = k + 1 := ⟨xs.length - i - 1, by omega⟩
  rw [hk, show xs.length - (i + 1) = k by omega]; rfl
def sameAnn (xs ys : List SpkD) : LoopAnn := { σ := Nat, pat := fun k => [sI 5 k], inv := fun k => k ≤ xs.length ∧ sameL xs ys (xs.length - k) k = sameL xs ys xs.length 0, meas := fun k => xs.length - k }
@[reducible] def sSameA : Spec := { pats := [.dat ArrT, .dat ArrT], res := [{ t := .bool }], pre := fun x => pLen (List.length (α := SpkD) x.1.2.2.1) ∧ pLen (List.length (α := SpkD) x.2.1.2.2.1), f := fun x => (sameA x.1 x.2.1, ()) }
theorem h30 : Ok 30 sSameA := by
  refine mkI (sp := sSameA) (c := cfgE {} [] 0) (fun nt => cfgEOk (X := {}) True.intro (ctr := []) trivial) (nt := 45) Tryz.func30 rfl rfl rfl rfl (by kernel_rfl) (by kernel_rfl) (fun x => [fun _ => sameAnn x.1.2.2.1 x.2.1.2.2.1]) ?_
  rintro ⟨⟨(r : Int), (v : Int), (xs : List SpkD), ⟨⟩⟩, ⟨(r2 : Int), (v2 : Int), (ys : List SpkD), ⟨⟩⟩, ⟨⟩⟩ ⟨(hp : pLen xs.length), (hq : pLen ys.length)⟩
  have hp' := hp.out
  have hq' := hq.out
  have hX : r = r2 → v = v2 → (xs.length : Int) = ys.length → sameA (r, v, xs, ()) (r2, v2, ys, ()) = sameL xs ys xs.length 0 := fun h1 h2 h3 => by
    show (decide (r = r2) && (decide (v = v2) && (decide (xs.length = ys.length) && sameL xs ys xs.length 0))) = _
    rw [decide_eq_true h1, decide_eq_true h2, decide_eq_true (show xs.length = ys.length by omega)]; rfl
  repeat' (intro hzz; (try (rename Two => hq; cases hq)); (try dsimp only at hzz); (try simp only [resTy, argTy, eqD, inR, big, wantOf, zB] at hzz); (try simp only [resTy, argTy, eqD, inR, big, wantOf, zB, Int.toNat_natCast] at hzz); (try (revert hzz; intro _)))
  all_goals try (rename Unit => hq; clear hq)
  all_goals try ((with_reducible refine Held.mk ?_); (with_reducible (first | refine Frz.mk ?_ | refine And.intro (Frz.mk ?_) ?_ | refine And.intro ?_ (Frz.mk ?_))); repeat' first | exact True.intro | (change _ = _; with_reducible rfl) | refine And.intro ?_ ?_ | (with_reducible refine Frz.mk ?_))
  all_goals try (refine Held.mk ?_; (try dsimp only at *); (try simp only [resTy, argTy, eqD, inR, big, wantOf, zB] at *); (try simp only [resTy, argTy, eqD, inR, big, wantOf, zB, Int.toNat_natCast] at *))
  · rename_i h1 h2 h3
    show false = (decide (r = r2) && (decide (v = v2) && (decide (xs.length = ys.length) && sameL xs ys xs.length 0)))
    rw [decide_eq_false (show ¬ xs.length = ys.length by omega), Bool.false_and, Bool.and_false, Bool.and_false]
  · 
    refine GHeld.mk ?_
    refine Exists.intro (0 : Nat) ?_
    refine And.intro (Leaf.mk ?_) ?_
    · repeat' first | exact True.intro | refine And.intro ?_ ?_
      all_goals try ((change _ = _ <;> try dsimp only) <;> try with_reducible rfl)
      all_goals try omega
      all_goals (rfl)
    exact ⟨Nat.zero_le _, rfl⟩
  · rename_i h1 h2 h3 k hk hlt; omega
  · rename_i h1 h2 h3 k hk hlt; omega
  · rename_i h1 h2 h3 k hk hlt h
    have e := hk.2
    rw [sameL_step (by omega), show SpkT.beq (spkN xs k) (spkN ys k) = false from h] at e
    exact e.trans (hX h1 h2 h3).symm
  · rename_i h1 h2 h3 k hk hlt h
    have := hp.out
    omega
  · rename_i h1 h2 h3 k hk hlt h
    have e := hk.2
    rw [sameL_step (by omega), show SpkT.beq (spkN xs k) (spkN ys k) = true from h] at e
    refine GHeld.mk ?_
    refine Exists.intro (k + 1) ?_
    refine And.intro (Leaf.mk ?_) ?_
    · repeat' first | exact True.intro | refine And.intro ?_ ?_
      all_goals try ((change _ = _ <;> try dsimp only) <;> try with_reducible rfl)
      all_goals try omega
      all_goals (rfl)
    exact ⟨⟨(show k + 1 ≤ xs.length by omega), e⟩, (show xs.length - (k + 1) < xs.length - k by omega)⟩
  · rename_i h1 h2 h3 k hk hlt
    have e := hk.2
    rw [show xs.length - k = 0 by omega] at e
    exact (hX h1 h2 h3).trans e.symm
  · rename_i h1 h2
    show false = (decide (r = r2) && (decide (v = v2) && (decide (xs.length = ys.length) && sameL xs ys xs.length 0)))
    rw [decide_eq_false h2, Bool.false_and, Bool.and_false]
  · rename_i h1
    show false = (decide (r = r2) && (decide (v = v2) && (decide (xs.length = ys.length) && sameL xs ys xs.length 0)))
    rw [decide_eq_false h1, Bool.false_and]
end Go.Eng.Ar

namespace Go.Eng.Ar
open Go.Eng Go.Proofs
set_option linter.all false
set_option maxRecDepth 100000
set_option maxHeartbeats 8000000
def Hid (p : Prop) : Prop := p
end Go.Eng.Ar

namespace Go.Eng.Ar
open Go.Eng Go.Proofs
set_option linter.all false
set_option maxRecDepth 100000
set_option maxHeartbeats 8000000
theorem pair_self (a b : Int) : PairT.beq (a, b, ()) (a, b, ()) = true := by
  show (decide (a = a) && (decide (b = b) && true)) = true
  simp
theorem opR_0 {t : List (List Int)} {cap d : Int} {l : List Int} (h : opE t cap d l = 0) : opR t cap d l = ((opV1 t d l, opV2 t d l, ()), 0, ()) := if_pos h
theorem opR_e {t : List (List Int)} {cap d : Int} {l : List Int} (h : ¬ opE t cap d l = 0) : opR t cap d l = ((0, 0, ()), opE t cap d l, ()) := if_neg h
theorem weak_cmp {t : List (List Int)} {cap d D : Int} {l lo hi cs : List Int} (hg : goodT t cap) (ho : opE t cap d l = 0) (hw : wtE t D lo hi cs = 0) : ¬ 0 < cmpI (opV1 t d l) (opV2 t d l) (wtV1 cap D hi cs) (wtV2 cap D hi cs) := by
  have h1 := (opE0_0 (opE_0 ho).1).1
  have h2 := (wtE0_0 (wtE_0 hw).1).1
  have h3 := weak hg ho hw
  unfold opV1 opV2 wtV1 wtV2
  rw [cmp_low (by omega) (by omega)]
  unfold cmpI
  split
  · decide
  · rw [if_neg (by omega)]; decide
theorem lists_ok {t : List (List Int)} (h : smT t = true) : pLists t := by
  unfold smT at h
  simp only [Bool.and_eq_true] at h
  have h1 : t.length ≤ 6 := of_decide_eq_true h.1
  exact ⟨by show t.length ≤ 1000; omega, fun i hi => by have := rowsLe_all h.2 i hi; show (rowN t i).length ≤ 1000; omega⟩
theorem shC_all {a b c d : Nat} (h : shC a b c d = true) : a ≤ 9 ∧ b ≤ 9 ∧ c ≤ 9 ∧ d ≤ 9 := by
  unfold shC at h
  simp only [Bool.and_eq_true] at h
  exact ⟨of_decide_eq_true h.1, of_decide_eq_true h.2.1, of_decide_eq_true h.2.2.1, of_decide_eq_true h.2.2.2⟩
theorem lv_0 {n : Int} : lvE n = 0 ↔ 0 ≤ n ∧ n ≤ 1000 := by
  unfold lvE
  by_cases h : 0 ≤ n ∧ n ≤ 1000
  · simp [h]
  · simp [h]
theorem pair_self2 (a b : Int) : (chain (List.replicate 2 I64)).beq (a, b, ()) (a, b, ()) = true := pair_self a b
theorem cmp_lv {b1 b2 n : Int} : 0 ≤ cmpI b1 b2 n 1 ↔ ¬ b1 < n * b2 := by
  unfold cmpI
  rw [Int.mul_one]
  by_cases h : b1 < n * b2
  · rw [if_pos h]; exact ⟨fun q => absurd q (by decide), fun q => absurd h q⟩
  · rw [if_neg h]
    refine ⟨fun _ => h, fun _ => ?_⟩
    split <;> decide
@[reducible] def sClaims : Spec := { pats := [.dat TaskT, .dat ClaimT, .dat I64, .gw 3 .err, .gw 4 .err, .gw 2 PowT, .gw 1 I64], res := [{ t := .bool }], pre := fun x => x.2.2.2.2.2.1 = powD, f := fun _ => (true, ()) }
theorem hLaw12 : Ok 12 sClaims := by
  refine mk (ctr := [(14, sAwake), (29, sWithin), (40, sSmallT), (42, sCopyT), (43, sCheckO), (44, sCopyO), (45, sCompare), (51, sTask), (52, sCheckOR), (53, sCheckWR), (55, sCannot), (56, sCopyW), (63, sShort), (64, sCheckW), (65, sTask)]) ⟨h14, h29, h40, h42, h43, h44, h45, h51, h52, h53, h55, h56, h63, h64, h65, trivial⟩ (nt := 154) Tryz.func12 rfl rfl rfl rfl (by kernel_rfl) (by kernel_rfl) (fun _ => []) ?_
  rintro ⟨⟨(t : List (List Int)), (cap : Int), ⟨⟩⟩, ⟨⟨(od : Int), (l : List Int), ⟨⟩⟩, ⟨(d : Int), (lo : List Int), (hi : List Int), (cs : List Int), ⟨⟩⟩, ⟨⟩⟩, (n : Int), (b0 : Bool), (b1 : Bool), (pw : PowT.Den), (m : Int), ⟨⟩⟩ (hpw : pw = powD)
  by_cases hs : smT t = true
  · have hL : Hid (pLists t) := lists_ok hs
    by_cases hc : shC l.length lo.length hi.length cs.length = true
    · obtain ⟨k1, k2, k3, k4⟩ := shC_all hc
      have hO : Hid (pK l.length) := (by show l.length ≤ 1000; omega)
      have hO2 : Hid (pLen l.length) := (by show (l.length : Int) ≤ 4611686018427387904; omega)
      have hW : Hid (pWgt lo.length hi.length cs.length) := ⟨by show lo.length ≤ 1000; omega, by show hi.length ≤ 1000; omega, by show cs.length ≤ 1000; omega⟩
      have hW2 : Hid (pW3 lo.length hi.length cs.length) := ⟨by show (lo.length : Int) ≤ 4611686018427387904; omega, by show (hi.length : Int) ≤ 4611686018427387904; omega, by show (cs.length : Int) ≤ 4611686018427387904; omega⟩
      clear k1 k2 k3 k4
      by_cases h0 : chkT t cap = 0
      · have hg : Hid (goodT t cap) := goodT_of h0
        have e1 : opRA t cap od l = opR t cap od l := if_pos h0
        have e2 : wtRA t cap d lo hi cs = wtR t cap d lo hi cs := if_pos h0
        have e3 : crR t cap n d lo hi cs = if lvE n = 0 then (if wtE t d lo hi cs = 0 then (if wtV1 cap d hi cs < n * wtV2 cap d hi cs then 0 else 20) else wtE t d lo hi cs) else lvE n := if_pos h0
        obtain ⟨v1, v2, e, f1, g1⟩ : ∃ v1 v2 e : Int, opR t cap od l = ((v1, v2, ()), e, ()) ∧ (e = 0 → opE t cap od l = 0 ∧ v1 = opV1 t od l ∧ v2 = opV2 t od l) := by
          by_cases ho : opE t cap od l = 0
          · exact ⟨_, _, _, opR_0 (cap := cap) ho, fun _ => ⟨ho, rfl, rfl⟩⟩
          · exact ⟨_, _, _, opR_e (cap := cap) ho, fun q => absurd q ho⟩
        have y1 : e = 0 → (-300000000000000 ≤ v1 ∧ v1 ≤ 300000000000000) ∧ 0 < v2 ∧ v2 ≤ 1000000000000 := fun q => by
          obtain ⟨a, b, c⟩ := g1 q
          rw [b, c]; exact opV_bd hg a
        rw [f1] at e1
        by_cases hw : wtE t d lo hi cs = 0
        · have f2 := wtR_0 (cap := cap) hw
          rw [f2] at e2
          rw [if_pos hw] at e3
          have y2 := wtV_bd hg hw
          have z : e = 0 → ¬ 0 < cmpI v1 v2 (wtV1 cap d hi cs) (wtV2 cap d hi cs) := fun q => by
            obtain ⟨a, b, c⟩ := g1 q
            rw [b, c]; exact weak_cmp hg a hw
          clear g1
          obtain ⟨w1, hw1⟩ : ∃ w1, wtV1 cap d hi cs = w1 := ⟨_, rfl⟩
          obtain ⟨w2, hw2⟩ : ∃ w2, wtV2 cap d hi cs = w2 := ⟨_, rfl⟩
          rw [hw1, hw2] at f2 e2 e3 z y2
          clear hw1 hw2
          have hpc : Hid (e = 0 → pCmp v1 v2 w1 w2) := fun q => by
            have := y1 q
            exact ⟨by omega, by omega, by omega, by omega, by omega⟩
          have hz : Hid (e = 0 → ¬ 0 < cmpI v1 v2 w1 w2) := z
          clear z
          by_cases hn : 0 ≤ n ∧ n ≤ 1000
          · have hpn : Hid (pCmp w1 w2 n 1) := ⟨by omega, by omega, by omega, by omega, by omega⟩
            rw [if_pos (lv_0.2 hn)] at e3
            clear y1 y2
            by_cases hq : w1 < n * w2
            · rw [if_pos hq] at e3
              have z2 : ¬ 0 ≤ cmpI w1 w2 n 1 := fun q => (cmp_lv.1 q) hq
              have z3 : cmpI w1 w2 n 1 < 0 := Int.not_le.1 z2
              repeat' (intro hzz; (try (rename Two => hq; cases hq)); (try dsimp only at hzz); (try simp only [resTy, argTy, eqD, inR, big, wantOf, zB] at hzz); (try simp only [resTy, argTy, eqD, inR, big, wantOf, zB, hs, hc, h0, e1, e2, e3, f1, f2, fWithin, hn, z2, z3, pair_self2, hpw, not_true_eq_false, not_false_eq_true] at hzz); (try (first | contradiction | (exfalso; omega))); (try (revert hzz; intro _)))
              all_goals try (rename Unit => hq; clear hq)
              all_goals try ((with_reducible refine Held.mk ?_); (with_reducible (first | refine Frz.mk ?_ | refine And.intro (Frz.mk ?_) ?_ | refine And.intro ?_ (Frz.mk ?_))); repeat' first | exact True.intro | (change _ = _; with_reducible rfl) | refine And.intro ?_ ?_ | (with_reducible refine Frz.mk ?_))
              all_goals try (refine Held.mk ?_; (try dsimp only at *); (try simp only [resTy, argTy, eqD, inR, big, wantOf, zB] at *); (try simp only [resTy, argTy, eqD, inR, big, wantOf, zB, hs, hc, h0, e1, e2, e3, f1, f2, fWithin, hn, z2, z3, pair_self2, hpw, not_true_eq_false, not_false_eq_true] at *))
              all_goals try omega
              all_goals first | exact hL | exact hO | exact hO2 | exact hW | exact hW2 | exact ⟨hg, hO2⟩ | exact ⟨hg, hW2⟩ | exact hpn | exact hpc (by assumption) | exact hz (by assumption) | (rename_i h; exact absurd ((pair_self _ _).symm.trans h) (by decide)) | trace_state
            · rw [if_neg hq] at e3
              have z2 : 0 ≤ cmpI w1 w2 n 1 := cmp_lv.2 hq
              have z3 : ¬ cmpI w1 w2 n 1 < 0 := Int.not_lt.2 z2
              repeat' (intro hzz; (try (rename Two => hq; cases hq)); (try dsimp only at hzz); (try simp only [resTy, argTy, eqD, inR, big, wantOf, zB] at hzz); (try simp only [resTy, argTy, eqD, inR, big, wantOf, zB, hs, hc, h0, e1, e2, e3, f1, f2, fWithin, hn, z2, z3, pair_self2, hpw, not_true_eq_false, not_false_eq_true] at hzz); (try (first | contradiction | (exfalso; omega))); (try (revert hzz; intro _)))
              all_goals try (rename Unit => hq; clear hq)
              all_goals try ((with_reducible refine Held.mk ?_); (with_reducible (first | refine Frz.mk ?_ | refine And.intro (Frz.mk ?_) ?_ | refine And.intro ?_ (Frz.mk ?_))); repeat' first | exact True.intro | (change _ = _; with_reducible rfl) | refine And.intro ?_ ?_ | (with_reducible refine Frz.mk ?_))
              all_goals try (refine Held.mk ?_; (try dsimp only at *); (try simp only [resTy, argTy, eqD, inR, big, wantOf, zB] at *); (try simp only [resTy, argTy, eqD, inR, big, wantOf, zB, hs, hc, h0, e1, e2, e3, f1, f2, fWithin, hn, z2, z3, pair_self2, hpw, not_true_eq_false, not_false_eq_true] at *))
              all_goals try omega
              all_goals first | exact hL | exact hO | exact hO2 | exact hW | exact hW2 | exact ⟨hg, hO2⟩ | exact ⟨hg, hW2⟩ | exact hpn | exact hpc (by assumption) | exact hz (by assumption) | (rename_i h; exact absurd ((pair_self _ _).symm.trans h) (by decide)) | trace_state
          · have hl2 : lvE n = 2 := if_neg hn
            rw [hl2, if_neg (by decide)] at e3
            clear y1 y2
            repeat' (intro hzz; (try (rename Two => hq; cases hq)); (try dsimp only at hzz); (try simp only [resTy, argTy, eqD, inR, big, wantOf, zB] at hzz); (try simp only [resTy, argTy, eqD, inR, big, wantOf, zB, hs, hc, h0, e1, e2, e3, f1, f2, fWithin, hn, pair_self2, hpw, not_true_eq_false, not_false_eq_true] at hzz); (try (first | contradiction | (exfalso; omega))); (try (revert hzz; intro _)))
            all_goals try (rename Unit => hq; clear hq)
            all_goals try ((with_reducible refine Held.mk ?_); (with_reducible (first | refine Frz.mk ?_ | refine And.intro (Frz.mk ?_) ?_ | refine And.intro ?_ (Frz.mk ?_))); repeat' first | exact True.intro | (change _ = _; with_reducible rfl) | refine And.intro ?_ ?_ | (with_reducible refine Frz.mk ?_))
            all_goals try (refine Held.mk ?_; (try dsimp only at *); (try simp only [resTy, argTy, eqD, inR, big, wantOf, zB] at *); (try simp only [resTy, argTy, eqD, inR, big, wantOf, zB, hs, hc, h0, e1, e2, e3, f1, f2, fWithin, hn, pair_self2, hpw, not_true_eq_false, not_false_eq_true] at *))
            all_goals try omega
            all_goals first | exact hL | exact hO | exact hO2 | exact hW | exact hW2 | exact ⟨hg, hO2⟩ | exact ⟨hg, hW2⟩ | exact hpc (by assumption) | exact hz (by assumption) | (rename_i h; exact absurd ((pair_self _ _).symm.trans h) (by decide)) | trace_state
        · have f2 := wtR_e (cap := cap) hw
          rw [f2] at e2
          rw [if_neg hw] at e3
          clear g1 y1
          by_cases hn : 0 ≤ n ∧ n ≤ 1000
          · rw [if_pos (lv_0.2 hn)] at e3
            repeat' (intro hzz; (try (rename Two => hq; cases hq)); (try dsimp only at hzz); (try simp only [resTy, argTy, eqD, inR, big, wantOf, zB] at hzz); (try simp only [resTy, argTy, eqD, inR, big, wantOf, zB, hs, hc, h0, e1, e2, e3, f1, f2, fWithin, hn, hw, pair_self2, hpw, not_true_eq_false, not_false_eq_true] at hzz); (try (first | contradiction | (exfalso; omega))); (try (revert hzz; intro _)))
            all_goals try (rename Unit => hq; clear hq)
            all_goals try ((with_reducible refine Held.mk ?_); (with_reducible (first | refine Frz.mk ?_ | refine And.intro (Frz.mk ?_) ?_ | refine And.intro ?_ (Frz.mk ?_))); repeat' first | exact True.intro | (change _ = _; with_reducible rfl) | refine And.intro ?_ ?_ | (with_reducible refine Frz.mk ?_))
            all_goals try (refine Held.mk ?_; (try dsimp only at *); (try simp only [resTy, argTy, eqD, inR, big, wantOf, zB] at *); (try simp only [resTy, argTy, eqD, inR, big, wantOf, zB, hs, hc, h0, e1, e2, e3, f1, f2, fWithin, hn, hw, pair_self2, hpw, not_true_eq_false, not_false_eq_true] at *))
            all_goals try omega
            all_goals first | exact hL | exact hO | exact hO2 | exact hW | exact hW2 | exact ⟨hg, hO2⟩ | exact ⟨hg, hW2⟩ | (rename_i h; exact absurd ((pair_self _ _).symm.trans h) (by decide)) | trace_state
          · have hl2 : lvE n = 2 := if_neg hn
            rw [hl2, if_neg (by decide)] at e3
            repeat' (intro hzz; (try (rename Two => hq; cases hq)); (try dsimp only at hzz); (try simp only [resTy, argTy, eqD, inR, big, wantOf, zB] at hzz); (try simp only [resTy, argTy, eqD, inR, big, wantOf, zB, hs, hc, h0, e1, e2, e3, f1, f2, fWithin, hn, hw, pair_self2, hpw, not_true_eq_false, not_false_eq_true] at hzz); (try (first | contradiction | (exfalso; omega))); (try (revert hzz; intro _)))
            all_goals try (rename Unit => hq; clear hq)
            all_goals try ((with_reducible refine Held.mk ?_); (with_reducible (first | refine Frz.mk ?_ | refine And.intro (Frz.mk ?_) ?_ | refine And.intro ?_ (Frz.mk ?_))); repeat' first | exact True.intro | (change _ = _; with_reducible rfl) | refine And.intro ?_ ?_ | (with_reducible refine Frz.mk ?_))
            all_goals try (refine Held.mk ?_; (try dsimp only at *); (try simp only [resTy, argTy, eqD, inR, big, wantOf, zB] at *); (try simp only [resTy, argTy, eqD, inR, big, wantOf, zB, hs, hc, h0, e1, e2, e3, f1, f2, fWithin, hn, hw, pair_self2, hpw, not_true_eq_false, not_false_eq_true] at *))
            all_goals try omega
            all_goals first | exact hL | exact hO | exact hO2 | exact hW | exact hW2 | exact ⟨hg, hO2⟩ | exact ⟨hg, hW2⟩ | (rename_i h; exact absurd ((pair_self _ _).symm.trans h) (by decide)) | trace_state
      · have e1 : opRA t cap od l = ((0, 0, ()), chkT t cap, ()) := if_neg h0
        have e2 : wtRA t cap d lo hi cs = ((0, 0, ()), chkT t cap, ()) := if_neg h0
        have e3 : crR t cap n d lo hi cs = chkT t cap := if_neg h0
        repeat' (intro hzz; (try (rename Two => hq; cases hq)); (try dsimp only at hzz); (try simp only [resTy, argTy, eqD, inR, big, wantOf, zB] at hzz); (try simp only [resTy, argTy, eqD, inR, big, wantOf, zB, hs, hc, h0, e1, e2, e3, pair_self2, hpw, not_true_eq_false, not_false_eq_true] at hzz); (try (first | contradiction | (exfalso; omega))); (try (revert hzz; intro _)))
        all_goals try (rename Unit => hq; clear hq)
        all_goals try ((with_reducible refine Held.mk ?_); (with_reducible (first | refine Frz.mk ?_ | refine And.intro (Frz.mk ?_) ?_ | refine And.intro ?_ (Frz.mk ?_))); repeat' first | exact True.intro | (change _ = _; with_reducible rfl) | refine And.intro ?_ ?_ | (with_reducible refine Frz.mk ?_))
        all_goals try (refine Held.mk ?_; (try dsimp only at *); (try simp only [resTy, argTy, eqD, inR, big, wantOf, zB] at *); (try simp only [resTy, argTy, eqD, inR, big, wantOf, zB, hs, hc, h0, e1, e2, e3, pair_self2, hpw, not_true_eq_false, not_false_eq_true] at *))
        all_goals try omega
        all_goals first | exact hL | exact hO | exact hO2 | exact hW | exact hW2 | (rename_i h; exact absurd ((pair_self _ _).symm.trans h) (by decide)) | trace_state
    · have hc' : shC l.length lo.length hi.length cs.length = false := by simpa using hc
      clear hc
      repeat' (intro hzz; (try (rename Two => hq; cases hq)); (try dsimp only at hzz); (try simp only [resTy, argTy, eqD, inR, big, wantOf, zB] at hzz); (try simp only [resTy, argTy, eqD, inR, big, wantOf, zB, hs, hc', hpw, not_true_eq_false, not_false_eq_true] at hzz); (try (first | contradiction | (exfalso; omega))); (try (revert hzz; intro _)))
      all_goals try (rename Unit => hq; clear hq)
      all_goals try ((with_reducible refine Held.mk ?_); (with_reducible (first | refine Frz.mk ?_ | refine And.intro (Frz.mk ?_) ?_ | refine And.intro ?_ (Frz.mk ?_))); repeat' first | exact True.intro | (change _ = _; with_reducible rfl) | refine And.intro ?_ ?_ | (with_reducible refine Frz.mk ?_))
      all_goals try (refine Held.mk ?_; (try dsimp only at *); (try simp only [resTy, argTy, eqD, inR, big, wantOf, zB] at *); (try simp only [resTy, argTy, eqD, inR, big, wantOf, zB, hs, hc', hpw, not_true_eq_false, not_false_eq_true] at *))
      all_goals try omega
      all_goals first | exact hL | trace_state
  · have hs' : smT t = false := by simpa using hs
    clear hs
    repeat' (intro hzz; (try (rename Two => hq; cases hq)); (try dsimp only at hzz); (try simp only [resTy, argTy, eqD, inR, big, wantOf, zB] at hzz); (try simp only [resTy, argTy, eqD, inR, big, wantOf, zB, hs', hpw, not_true_eq_false, not_false_eq_true] at hzz); (try (first | contradiction | (exfalso; omega))); (try (revert hzz; intro _)))
    all_goals try (rename Unit => hq; clear hq)
    all_goals try ((with_reducible refine Held.mk ?_); (with_reducible (first | refine Frz.mk ?_ | refine And.intro (Frz.mk ?_) ?_ | refine And.intro ?_ (Frz.mk ?_))); repeat' first | exact True.intro | (change _ = _; with_reducible rfl) | refine And.intro ?_ ?_ | (with_reducible refine Frz.mk ?_))
    all_goals try (refine Held.mk ?_; (try dsimp only at *); (try simp only [resTy, argTy, eqD, inR, big, wantOf, zB] at *); (try simp only [resTy, argTy, eqD, inR, big, wantOf, zB, hs', hpw, not_true_eq_false, not_false_eq_true] at *))
    all_goals try omega
    all_goals trace_state
end Go.Eng.Ar

