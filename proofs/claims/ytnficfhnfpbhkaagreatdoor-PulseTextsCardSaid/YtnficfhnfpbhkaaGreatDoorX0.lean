/- Plain laws on texts: pieces between blanks, numerals, and what a number's text is. Conditions: each lemma's own. -/
import Derived.Lib.AtoiAll
import Derived.Lib.ItoaNum
import Derived.Lib.Split
import Derived.Lib.CutLaws
namespace Go.Eng
open Go.Lib
set_option linter.all false

/-- A text by its bytes, and its bytes. -/
def bA (l : List UInt8) : ByteArray := ⟨l.toArray⟩
abbrev bL (s : ByteArray) : List UInt8 := s.data.toList
theorem bL_bA (l : List UInt8) : bL (bA l) = l := by simp [bA]
theorem bA_bL (s : ByteArray) : bA (bL s) = s := by cases s; simp [bA]
theorem bL_len (s : ByteArray) : (bL s).length = s.size := Array.length_toList
theorem bA_size (l : List UInt8) : (bA l).size = l.length := by show l.toArray.size = _; simp
theorem bL_append (s u : ByteArray) : bL (s ++ u) = bL s ++ bL u := by show (s ++ u).data.toList = _; rw [ByteArray.data_append]; exact Array.toList_append
theorem bL_inj {s u : ByteArray} (h : bL s = bL u) : s = u := by rw [← bA_bL s, h, bA_bL]
theorem bA_append (l m : List UInt8) : bA l ++ bA m = bA (l ++ m) := bL_inj (by rw [bL_append, bL_bA, bL_bA, bL_bA])
theorem bL_extract (s : ByteArray) (a b : Nat) : bL (s.extract a b) = ((bL s).drop a).take (b - a) := by show (s.extract a b).data.toList = _; rw [ByteArray.data_extract]; simp [List.extract_eq_take_drop]

/-! ### Pieces -/

def piecesL (c : UInt8) : List UInt8 → List (List UInt8)
  | [] => [[]]
  | b :: l => if b = c then [] :: piecesL c l else match piecesL c l with
    | p :: r => (b :: p) :: r
    | [] => [[b]]

theorem pieces_ne (c : UInt8) : ∀ l, piecesL c l ≠ []
  | [] => by simp [piecesL]
  | b :: l => by
    simp only [piecesL]
    split
    · simp
    · split <;> simp

theorem pieces_len (c : UInt8) : ∀ l, (piecesL c l).length ≤ l.length + 1
  | [] => by simp [piecesL]
  | b :: l => by
    have := pieces_len c l
    simp only [piecesL]
    split
    · simp only [List.length_cons]; omega
    · split
      · rename_i p r h; rw [h] at this; simp only [List.length_cons] at this ⊢; omega
      · simp

theorem index_one (c b : UInt8) (l : List UInt8) : index (b :: l) [c] = if b = c then 0 else if index l [c] = -1 then -1 else index l [c] + 1 := by
  by_cases h : b = c
  · subst h; simp [index]
  · have h' : ¬ c = b := fun e => h e.symm
    simp [index, h, h', List.isPrefixOf]

theorem index_nil1 (c : UInt8) : index [] [c] = -1 := rfl

theorem pieces_miss (c : UInt8) : ∀ l, index l [c] = -1 → piecesL c l = [l]
  | [], _ => rfl
  | b :: l, h => by
    rw [index_one] at h
    have hb : ¬ b = c := fun e => by rw [if_pos e] at h; omega
    rw [if_neg hb] at h
    have hl : index l [c] = -1 := by
      by_cases h1 : index l [c] = -1
      · exact h1
      · rw [if_neg h1] at h
        have := index_ge l [c]
        omega
    simp only [piecesL]
    rw [if_neg hb, pieces_miss c l hl]

theorem pieces_hit (c : UInt8) : ∀ (l : List UInt8) (i : Nat), index l [c] = i → piecesL c l = l.take i :: piecesL c (l.drop (i + 1))
  | [], i, h => by rw [index_nil1] at h; omega
  | b :: l, i, h => by
    rw [index_one] at h
    by_cases hb : b = c
    · rw [if_pos hb] at h
      obtain rfl : i = 0 := by omega
      simp only [piecesL]
      rw [if_pos hb]; rfl
    · rw [if_neg hb] at h
      by_cases h1 : index l [c] = -1
      · rw [if_pos h1] at h; omega
      · rw [if_neg h1] at h
        have hg := index_ge l [c]
        obtain ⟨j, rfl⟩ : ∃ j, i = j + 1 := ⟨i - 1, by omega⟩
        have ih := pieces_hit c l j (by omega)
        simp only [piecesL]
        rw [if_neg hb, ih]
        rfl

theorem split_pieces (c : UInt8) : ∀ (n : Nat) (l : List UInt8), l.length ≤ n → splitK [c] 0 (count l [c]) l = piecesL c l := by
  intro n
  induction n with
  | zero =>
    intro l hl
    obtain rfl : l = [] := List.eq_nil_of_length_eq_zero (by omega)
    rfl
  | succ n ih =>
    intro l hl
    rcases index_spec l [c] with ⟨h, _⟩ | ⟨i, h, hi, ho, _⟩
    · rw [count_miss h, pieces_miss c l h]; rfl
    · have hroom := index_room l [c] (by omega)
      rw [count_hit (by simp) h, Nat.add_comm 1, splitK]
      rw [if_neg (by simp [h])]
      have e : (index l [c]).toNat = i := by omega
      rw [e, pieces_hit c l i h]
      simp only [List.length_cons, List.length_nil] at hroom ⊢
      rw [ih _ (by simp only [List.length_drop]; omega)]
      rfl

theorem pieces_count (c : UInt8) : ∀ (n : Nat) (l : List UInt8), l.length ≤ n → (piecesL c l).length = count l [c] + 1 := by
  intro n
  induction n with
  | zero =>
    intro l hl
    obtain rfl : l = [] := List.eq_nil_of_length_eq_zero (by omega)
    rfl
  | succ n ih =>
    intro l hl
    rcases index_spec l [c] with ⟨h, _⟩ | ⟨i, h, hi, ho, _⟩
    · rw [count_miss h, pieces_miss c l h]; rfl
    · have hroom := index_room l [c] (by omega)
      simp only [List.length_cons, List.length_nil] at hroom
      rw [count_hit (by simp) h, pieces_hit c l i h, List.length_cons]
      simp only [List.length_cons, List.length_nil, Nat.zero_add]
      rw [ih _ (by simp only [List.length_drop]; omega)]
      omega

/-- The pieces of a text. -/
def cutB (c : UInt8) (s : ByteArray) : List ByteArray := (piecesL c (bL s)).map bA

theorem splitB_cut (c : UInt8) (s : ByteArray) : splitB (bA [c]) 0 (countB s (bA [c])) s = cutB c s := by
  have h1 := splitB_data (bA [c]) 0 (countB s (bA [c])) s
  rw [show (bA [c]).data.toList = [c] from bL_bA [c]] at h1
  have h2 := split_pieces c _ (bL s) (Nat.le_refl _)
  have h3 : countB s (bA [c]) = count (bL s) [c] := by show count s.data.toList (bA [c]).data.toList = _; rw [show (bA [c]).data.toList = [c] from bL_bA [c]]
  rw [h3] at h1 ⊢
  rw [show s.data.toList = bL s from rfl, h2] at h1
  simp only [cutB, ← h1, List.map_map]
  have : (bA ∘ fun x : ByteArray => x.data.toList) = id := by funext x; exact bA_bL x
  rw [this, List.map_id]

theorem cutB_count (c : UInt8) (s : ByteArray) : (cutB c s).length = countB s (bA [c]) + 1 := by
  have h3 : countB s (bA [c]) = count (bL s) [c] := by show count s.data.toList (bA [c]).data.toList = _; rw [show (bA [c]).data.toList = [c] from bL_bA [c]]
  rw [h3, cutB, List.length_map, pieces_count c _ (bL s) (Nat.le_refl _)]

/-- Pieces, one byte more. -/
theorem pieces_app (c : UInt8) : ∀ (l m : List UInt8), piecesL c (l ++ m) = (piecesL c l).dropLast ++ (match piecesL c m with | p :: r => ((piecesL c l).getLastD [] ++ p) :: r | [] => [])
  | [], m => by
    cases h : piecesL c m with
    | nil => exact absurd h (pieces_ne c m)
    | cons p r => simp [piecesL, h]
  | b :: l, m => by
    have ih := pieces_app c l m
    obtain ⟨q, t, hl⟩ : ∃ q t, piecesL c l = q :: t := by
      cases h : piecesL c l with
      | nil => exact absurd h (pieces_ne c l)
      | cons q t => exact ⟨q, t, rfl⟩
    obtain ⟨p, r, hm⟩ : ∃ p r, piecesL c m = p :: r := by
      cases h : piecesL c m with
      | nil => exact absurd h (pieces_ne c m)
      | cons q t => exact ⟨q, t, rfl⟩
    simp only [List.cons_append, piecesL]
    rw [ih, hl, hm]
    by_cases hb : b = c
    · rw [if_pos hb, if_pos hb]
      simp
    · rw [if_neg hb, if_neg hb]
      cases t with
      | nil => simp
      | cons u t => simp

theorem pieces_none (c : UInt8) : ∀ l : List UInt8, c ∉ l → piecesL c l = [l]
  | [], _ => rfl
  | b :: l, h => by
    simp only [List.mem_cons, not_or] at h
    simp only [piecesL]
    rw [if_neg (fun e => h.1 e.symm), pieces_none c l h.2]

/-! ### Numerals -/

def isDigB (b : UInt8) : Bool := decide (48 ≤ b.toNat ∧ b.toNat ≤ 57)
def dval (l : List UInt8) : Nat := l.foldl (fun n b => 10 * n + (b.toNat - 48)) 0

theorem dval_snoc (l : List UInt8) (b : UInt8) : dval (l ++ [b]) = 10 * dval l + (b.toNat - 48) := by simp [dval]

theorem snoc_ind {α : Type} {p : List α → Prop} (h0 : p []) (h1 : ∀ l b, p l → p (l ++ [b])) : ∀ l, p l := by
  intro l
  have h : ∀ l : List α, p l.reverse := by
    intro l
    induction l with
    | nil => exact h0
    | cons b l ih => rw [List.reverse_cons]; exact h1 _ _ ih
  have := h l.reverse
  rwa [List.reverse_reverse] at this

theorem all_snoc {l : List UInt8} {b : UInt8} (h : (l ++ [b]).all isDigB = true) : l.all isDigB = true ∧ 48 ≤ b.toNat ∧ b.toNat ≤ 57 := by
  simp only [List.all_append, List.all_cons, List.all_nil, Bool.and_true, Bool.and_eq_true] at h
  exact ⟨h.1, of_decide_eq_true h.2⟩

theorem dval_lt : ∀ l : List UInt8, l.all isDigB = true → dval l < 10 ^ l.length := by
  refine snoc_ind (fun _ => by decide) fun l b ih h => ?_
  obtain ⟨h1, h2, h3⟩ := all_snoc h
  have := ih h1
  rw [dval_snoc, List.length_append, List.length_singleton, Nat.pow_succ]
  omega

/-- No needless nought ahead. -/
def leadOk (d : List UInt8) : Prop := d ≠ [] ∧ (d.head? = some 48 → d.length = 1)

theorem lead_snoc {l : List UInt8} {b : UInt8} (h : leadOk (l ++ [b])) (hl : l ≠ []) : leadOk l ∧ l.head? ≠ some 48 := by
  obtain ⟨c, r, rfl⟩ := List.exists_cons_of_ne_nil hl
  have h2 : ¬ ((c :: r) ++ [b]).head? = some 48 := fun e => by have := h.2 e; simp at this
  exact ⟨⟨by simp, fun e => absurd e h2⟩, h2⟩

theorem dval_pos : ∀ l : List UInt8, l.all isDigB = true → l ≠ [] → l.head? ≠ some 48 → 0 < dval l := by
  refine snoc_ind (fun _ h => absurd rfl h) fun l b ih h hn h0 => ?_
  obtain ⟨h1, h2, h3⟩ := all_snoc h
  rw [dval_snoc]
  cases l with
  | nil =>
    have : ¬ b = 48 := fun e => h0 (by simp [e])
    have : b.toNat ≠ 48 := fun e => this (UInt8.toNat_inj.1 e)
    omega
  | cons c r =>
    have := ih h1 (by simp) h0
    omega

theorem dig_back {b : UInt8} (h : 48 ≤ b.toNat ∧ b.toNat ≤ 57) : UInt8.ofNat (48 + (b.toNat - 48)) = b := by
  rw [show 48 + (b.toNat - 48) = b.toNat by omega]
  exact UInt8.ofNat_toNat

/-- The digits of what digits spell. -/
theorem dec_dval : ∀ l : List UInt8, l.all isDigB = true → leadOk l → decDigits (dval l) = l := by
  refine snoc_ind (fun _ h => absurd rfl h.1) fun l b ih h hl => ?_
  obtain ⟨h1, h2, h3⟩ := all_snoc h
  rw [dval_snoc]
  cases hlc : l with
  | nil =>
    rw [decDigits, dif_pos (by simp [dval]; omega)]
    show [UInt8.ofNat (48 + (10 * 0 + (b.toNat - 48)))] = [b]
    rw [Nat.mul_zero, Nat.zero_add, dig_back ⟨h2, h3⟩]
  | cons c r =>
    rw [← hlc]
    have hne : l ≠ [] := by rw [hlc]; simp
    obtain ⟨h4, h5⟩ := lead_snoc hl hne
    have hp := dval_pos l h1 hne h5
    rw [decDigits, dif_neg (by omega), show (10 * dval l + (b.toNat - 48)) / 10 = dval l by omega, show (10 * dval l + (b.toNat - 48)) % 10 = b.toNat - 48 by omega, ih h1 h4, dig_back ⟨h2, h3⟩]

theorem dig_of {k : Nat} (h : k < 10) : (UInt8.ofNat (48 + k)).toNat = 48 + k := by
  rw [UInt8.toNat_ofNat']; omega

/-- A number's digits. -/
theorem dec_spec : ∀ (n u : Nat), u < n → (decDigits u).all isDigB = true ∧ leadOk (decDigits u) ∧ dval (decDigits u) = u ∧ (0 < u → (decDigits u).head? ≠ some 48)
  | 0, u, h => absurd h (Nat.not_lt_zero u)
  | n + 1, u, h => by
    rw [decDigits]
    split
    · rename_i hu
      have hd := dig_of hu
      refine ⟨by simp [isDigB, hd]; omega, ⟨by simp, fun _ => rfl⟩, by show 10 * 0 + ((UInt8.ofNat (48 + u)).toNat - 48) = u; rw [hd]; omega, fun h0 he => ?_⟩
      have : UInt8.ofNat (48 + u) = 48 := by simpa using he
      have : (UInt8.ofNat (48 + u)).toNat = 48 := by rw [this]; rfl
      omega
    · rename_i hu
      obtain ⟨i1, i2, i3, i4⟩ := dec_spec n (u / 10) (by omega)
      have hd := dig_of (Nat.mod_lt u (show 0 < 10 by decide))
      have i4 := i4 (by omega)
      obtain ⟨c, r, hcr⟩ := List.exists_cons_of_ne_nil i2.1
      rw [hcr] at i4
      refine ⟨?_, ⟨by simp, fun he => ?_⟩, ?_, fun _ he => ?_⟩
      · rw [List.all_append, i1]; simp [isDigB, hd]; omega
      · exfalso; rw [hcr] at he; exact i4 (by simpa using he)
      · rw [dval_snoc, i3, hd]; omega
      · rw [hcr] at he; exact i4 (by simpa using he)

theorem parse_dval : ∀ (l : List UInt8) (acc : Nat), l.all isDigB = true → l.foldl (fun n b => 10 * n + (b.toNat - 48)) acc < 18446744073709551616 → parseUint10 acc l = .ok (l.foldl (fun n b => 10 * n + (b.toNat - 48)) acc)
  | [], acc, _, _ => rfl
  | b :: l, acc, h, hv => by
    simp only [List.all_cons, Bool.and_eq_true] at h
    have hb : 48 ≤ b.toNat ∧ b.toNat ≤ 57 := of_decide_eq_true h.1
    have hmono : ∀ (l : List UInt8) (a : Nat), a ≤ l.foldl (fun n b => 10 * n + (b.toNat - 48)) a := by
      intro l
      induction l with
      | nil => intro a; exact Nat.le_refl _
      | cons c r ih => intro a; have := ih (10 * a + (c.toNat - 48)); simp only [List.foldl_cons]; omega
    have h1 := hmono l (10 * acc + (b.toNat - 48))
    simp only [List.foldl_cons] at hv ⊢
    simp only [parseUint10]
    rw [if_pos hb, if_neg (by omega), if_neg (by omega), show acc * 10 + (b.toNat - 48) = 10 * acc + (b.toNat - 48) by omega]
    exact parse_dval l _ h.2 hv

theorem mag_dec (u : Nat) (hu : u < 18446744073709551616) : parseMag (decDigits u) = .ok u := by
  obtain ⟨h1, h2, h3, _⟩ := dec_spec (u + 1) u (Nat.lt_succ_self u)
  unfold parseMag
  rw [if_neg h2.1, parse_dval _ 0 h1 (by show dval _ < _; rw [h3]; exact hu)]
  show NumEnd.ok (dval _) = _
  rw [h3]

/-- A number's text is read as this number. -/
theorem atoi_itoa {n : Int} (h0 : -9223372036854775808 ≤ n) (h1 : n ≤ 9223372036854775807) : atoiAll (itoa n) = .ok n := by
  unfold itoa
  by_cases hn : n < 0
  · rw [if_pos hn]
    have hm := mag_dec n.natAbs (by omega)
    simp only [atoiAll]
    rw [if_pos (by right; decide), hm]
    simp only
    rw [if_neg (fun h => h.1 (by decide)), if_neg (fun h => by omega), if_pos (by decide)]
    congr 1; omega
  · rw [if_neg hn]
    have hm := mag_dec n.toNat (by omega)
    obtain ⟨d1, d2, _, _⟩ := dec_spec (n.toNat + 1) n.toNat (Nat.lt_succ_self _)
    cases hd : decDigits n.toNat with
    | nil => exact absurd hd d2.1
    | cons c r =>
      rw [hd] at hm d1
      simp only [List.all_cons, Bool.and_eq_true] at d1
      have hc : 48 ≤ c.toNat ∧ c.toNat ≤ 57 := of_decide_eq_true d1.1
      simp only [atoiAll]
      rw [if_neg (by omega), hm]
      simp only
      rw [if_neg (fun h => by omega), if_neg (fun h => by omega), if_neg (by omega)]
      congr 1; omega

/-- A numeral of at most so many digits, and what it spells. -/
def signL : List UInt8 → Bool × List UInt8
  | 45 :: d => (true, d)
  | d => (false, d)
def numOk (l : List UInt8) (k : Nat) : Bool := (signL l).2.all isDigB && !(signL l).2.isEmpty && decide ((signL l).2.length ≤ k) && !(decide ((signL l).2.head? = some 48) && decide (1 < l.length))
def numV (l : List UInt8) : Int := if (signL l).1 then -(dval (signL l).2 : Int) else dval (signL l).2

theorem signL_neg (d : List UInt8) : signL (45 :: d) = (true, d) := rfl
theorem signL_pos {l : List UInt8} (h : l.head? ≠ some 45) : signL l = (false, l) := by
  unfold signL
  split
  · exact absurd rfl h
  · rfl

theorem sign_trim (l : List UInt8) : (signL l).2 = trimPrefix l [45] := by
  unfold signL trimPrefix hasPrefix
  split
  · rfl
  · rename_i h
    cases l with
    | nil => rfl
    | cons b r =>
      have : ¬ (45 : UInt8) = b := fun e => h r (by rw [e])
      simp [List.isPrefixOf, this]

/-- The text of a number of at most so many digits is such a numeral. -/
theorem num_of_itoa {n : Int} {k : Nat} (hk : (trimPrefix (itoa n) [45]).length ≤ k) : numOk (itoa n) k = true ∧ numV (itoa n) = n := by
  rw [← sign_trim] at hk
  unfold itoa at hk ⊢
  by_cases hn : n < 0
  · rw [if_pos hn] at hk ⊢
    obtain ⟨d1, d2, d3, d4⟩ := dec_spec (n.natAbs + 1) n.natAbs (Nat.lt_succ_self _)
    have d4 := d4 (by omega)
    rw [signL_neg] at hk
    refine ⟨?_, ?_⟩
    · simp only [numOk, signL_neg]
      simp [d1, d2.1, hk, d4]
    · simp only [numV, signL_neg, d3]
      simp; omega
  · rw [if_neg hn] at hk ⊢
    obtain ⟨d1, d2, d3, d4⟩ := dec_spec (n.toNat + 1) n.toNat (Nat.lt_succ_self _)
    obtain ⟨c, r, hcr⟩ := List.exists_cons_of_ne_nil d2.1
    have hc : 48 ≤ c.toNat ∧ c.toNat ≤ 57 := by rw [hcr, List.all_cons, Bool.and_eq_true] at d1; exact of_decide_eq_true d1.1
    have hs : signL (decDigits n.toNat) = (false, decDigits n.toNat) := signL_pos (by
      rw [hcr]; intro e
      have : c = 45 := by simpa using e
      subst this
      exact absurd hc.1 (by decide))
    rw [hs] at hk
    refine ⟨?_, ?_⟩
    · simp only [numOk, hs]
      have : ¬ ((decDigits n.toNat).head? = some 48 ∧ 1 < (decDigits n.toNat).length) := fun h => by have := d2.2 h.1; omega
      simp only [d1, Bool.true_and, Bool.and_eq_true, Bool.not_eq_true', List.isEmpty_eq_false_iff, decide_eq_true_eq]
      refine ⟨⟨d2.1, hk⟩, ?_⟩
      by_cases h : (decDigits n.toNat).head? = some 48
      · have := d2.2 h; simp [this]
      · simp [h]
    · simp only [numV, hs, d3]
      simp; omega

/-- Such a numeral is the text of what it spells. -/
theorem itoa_of_num {l : List UInt8} {k : Nat} (h : numOk l k = true) : itoa (numV l) = l ∧ (trimPrefix l [45]).length ≤ k := by
  rw [← sign_trim]
  simp only [numOk, Bool.and_eq_true, Bool.not_eq_true', List.isEmpty_eq_false_iff, decide_eq_true_eq, Bool.and_eq_false_imp, decide_eq_false_iff_not] at h
  obtain ⟨⟨⟨h1, h2⟩, h3⟩, h4⟩ := h
  refine ⟨?_, h3⟩
  cases hs : (signL l).1 with
  | true =>
    obtain ⟨d, rfl⟩ : ∃ d, l = 45 :: d := by
      unfold signL at hs
      split at hs
      · exact ⟨_, rfl⟩
      · cases hs
    rw [signL_neg] at h1 h2 h4
    dsimp only at h1 h2 h4
    have h0 : d.head? ≠ some 48 := fun e => by
      obtain ⟨c, r, rfl⟩ := List.exists_cons_of_ne_nil h2
      exact h4 e (by simp)
    have hp := dval_pos d h1 h2 h0
    have e : numV (45 :: d) = -(dval d : Int) := rfl
    rw [e]
    unfold itoa
    rw [if_pos (by omega), show (-(dval d : Int)).natAbs = dval d by omega, dec_dval d h1 ⟨h2, fun e => absurd e h0⟩]
  | false =>
    have hl : signL l = (false, l) := by
      unfold signL at hs ⊢
      split at hs
      · cases hs
      · rfl
    rw [hl] at h1 h2 h4
    dsimp only at h1 h2 h4
    have e : numV l = (dval l : Int) := by simp only [numV, hl]; rfl
    rw [e]
    unfold itoa
    rw [if_neg (by omega), show ((dval l : Int)).toNat = dval l by omega, dec_dval l h1 ⟨h2, fun e => by
      have := h4 e
      have := List.length_pos_iff.2 h2
      omega⟩]

theorem numV_bd {l : List UInt8} {k : Nat} (h : numOk l k = true) : -(10 ^ k : Nat) < numV l ∧ numV l < (10 ^ k : Nat) := by
  simp only [numOk, Bool.and_eq_true, decide_eq_true_eq] at h
  have h1 := dval_lt _ h.1.1.1
  have h2 : 10 ^ (signL l).2.length ≤ 10 ^ k := Nat.pow_le_pow_right (by decide) h.1.2
  simp only [numV]
  split <;> omega

end Go.Eng
