/- Pieces of a text, and what the iterator's slots hold. Conditions: each lemma's own. -/
import Derived.Test.YtnficfhnfpbhkaaGreatDoorX6
namespace Go.Eng.Pu
open Go.Eng Go.Proofs Go.Lib
set_option linter.all false
set_option maxRecDepth 100000
set_option maxHeartbeats 1000000

/-! ### The pieces, one by one -/

theorem idx_eq (c : UInt8) : ∀ l : List UInt8, Lib.indexByte l c = index l [c]
  | [] => rfl
  | b :: l => by
    rw [index_one, ← idx_eq c l]
    simp only [Lib.indexByte, beq_iff_eq]

theorem fIdx_ge (s : ByteArray) : fIdx s = -1 ∨ ∃ n : Nat, fIdx s = n ∧ n < s.size := by
  have h := Lib.indexByte_ge s.data.toList 32
  by_cases h1 : fIdx s = -1
  · exact .inl h1
  · refine .inr ⟨(fIdx s).toNat, ?_, ?_⟩
    · have h : -1 ≤ fIdx s := h
      omega
    · have h : -1 ≤ fIdx s := h
      have h2 := (Lib.indexByte_some (l := s.data.toList) (c := 32) (o := (fIdx s).toNat) (show fIdx s = _ by omega)).1
      have h3 := (List.getElem?_eq_some_iff.1 h2).1
      rw [← bL_len]; exact h3

@[reducible] def ispS (s : ByteArray) : ISpec := { rd := [], e := .str, seq := fun _ i => (cutB 32 s).getD i ByteArray.empty, len := fun _ => some (cutB 32 s).length }

/-- i pieces were yielded, cur is left. -/
def left (s : ByteArray) (i : Nat) (cur : ByteArray) : Prop := i < (cutB 32 s).length ∧ (piecesL 32 (bL s)).drop i = piecesL 32 (bL cur) ∧ cur.size ≤ s.size
theorem left_first (s : ByteArray) : left s 0 s := ⟨cut_pos 32 s, rfl, Nat.le_refl _⟩
theorem left_get {s cur : ByteArray} {i : Nat} {p : List UInt8} {r : List (List UInt8)} (h : left s i cur) (hp : piecesL 32 (bL cur) = p :: r) : (cutB 32 s).getD i ByteArray.empty = bA p ∧ (piecesL 32 (bL s)).drop (i + 1) = r ∧ (cutB 32 s).length = i + 1 + r.length := by
  have h1 := h.2.1
  rw [hp] at h1
  have h0 : (piecesL 32 (bL s))[i]? = some p := by
    have := congrArg (fun l => l[0]?) h1
    simpa using this
  refine ⟨?_, ?_, ?_⟩
  · unfold cutB
    rw [List.getD_eq_getElem?_getD, List.getElem?_map, h0]; rfl
  · have := congrArg (List.drop 1) h1
    rw [List.drop_drop] at this
    exact this
  · have := congrArg List.length h1
    have h2 := h.1
    unfold cutB at h2 ⊢
    rw [List.length_map] at h2 ⊢
    rw [List.length_drop, List.length_cons] at this
    omega
theorem left_last {s cur : ByteArray} {i : Nat} (h : left s i cur) (hn : fIdx cur = -1) : (cutB 32 s).getD i ByteArray.empty = cur ∧ (cutB 32 s).length = i + 1 := by
  have := left_get h (pieces_miss 32 (bL cur) (by rw [← idx_eq]; exact hn))
  rw [bA_bL] at this
  exact ⟨this.1, this.2.2⟩
theorem left_next {s cur : ByteArray} {i n : Nat} (h : left s i cur) (hn : fIdx cur = n) : (cutB 32 s).getD i ByteArray.empty = cur.extract 0 n ∧ left s (i + 1) (cur.extract (n + 1) cur.size) := by
  have hp := pieces_hit 32 (bL cur) n (by rw [← idx_eq]; exact hn)
  obtain ⟨h1, h2, h3⟩ := left_get h hp
  have e1 : bA ((bL cur).take n) = cur.extract 0 n := bL_inj (by rw [bL_bA, bL_extract]; simp)
  have e2 : bL (cur.extract (n + 1) cur.size) = (bL cur).drop (n + 1) := by
    rw [bL_extract, List.take_of_length_le]
    rw [List.length_drop, bL_len]; exact Nat.le_refl _
  refine ⟨by rw [h1, e1], ?_, ?_, ?_⟩
  · rw [h3]
    have := List.length_pos_iff.2 (pieces_ne 32 ((bL cur).drop (n + 1)))
    omega
  · rw [h2, e2]
  · rw [← bL_len, e2, List.length_drop, bL_len]
    have := h.2.2
    omega

/-- What stays in the iterator's slots. -/
structure RawS (a : Act) (y : Value) (b : Nat) : Prop where
  size : a.tmps.size = 52
  defers : a.defers = []
  s0 : a.tmps.getD 0 undef = y
  s1 : a.tmps.getD 1 undef = .pointer (some ⟨b + 1, 0, none⟩)
  s2 : a.tmps.getD 2 undef = .pointer (some ⟨b, 0, none⟩)
  s3 : a.tmps.getD 3 undef = .pointer (some ⟨b + 2, 0, none⟩)

/-- The blocks of the iterator's own variables. -/
@[reducible] def psOf (b : Nat) (cur : ByteArray) : List (Nat × Obj) := [(b, .cells #[.string cur] 9 (0, 0)), (b + 1, .cells #[.string (bA [32])] 9 (0, 0)), (b + 2, .cells #[.int .i64 0] 3 (0, 0))]

theorem rawS_rel {a : Act} {y : Value} {b : Nat} {cur : ByteArray} {w : World} (R : RawS a y b) (h : ∀ p ∈ psOf b cur, w.heap[p.1]? = some p.2) : RelS (E0 w) 52 (st4 y cur) a w := by
  refine ⟨fun _ => none, {
    size := R.size, lim := by decide, defers := ⟨⟨[], R.defers, List.nodup_nil, fun _ h => by cases h⟩, fun _ h => by cases h⟩, os := rfl, tape := rfl, output := rfl, grow := Nat.le_refl _, keep := fun _ _ _ _ => rfl,
    own := fun k b n hk => (by cases hk), dis := fun b hb => hb.elim, inj := fun k k' b n n' hk => (by cases hk), old := fun b hb => hb.elim, obkeep := fun b i o _ h => h.elim, nd := fun _ => R.defers }, fun f hf => ?_⟩
  have hv : ∀ k c el f, w.heap[k]? = some (.cells c el f) → vw (E0 w) (fun _ => none) w k c := fun k c el f hb => ⟨fun h => h.elim id (fun ⟨_, h⟩ => by cases h), fun _ _ h => (by cases h), el, f, hb⟩
  simp only [st4, List.mem_cons, List.not_mem_nil, or_false] at hf
  rcases hf with rfl | rfl | rfl | rfl
  · simp only [Fact.holds]; rw [sval_lt (by decide)]; exact R.s0
  · simp only [Fact.holds]; rw [sval_lt (by decide), R.s1]
    exact ⟨⟨b + 1, 0, none⟩, #[.string (bA [32])], rfl, rfl, hv _ _ _ _ (h (b + 1, .cells #[.string (bA [32])] 9 (0, 0)) (List.mem_cons_of_mem _ List.mem_cons_self)), Nat.le_refl _, rfl⟩
  · simp only [Fact.holds]; rw [sval_lt (by decide), R.s2]
    exact ⟨⟨b, 0, none⟩, #[.string cur], rfl, rfl, hv _ _ _ _ (h (b, .cells #[.string cur] 9 (0, 0)) List.mem_cons_self), Nat.le_refl _, rfl⟩
  · simp only [Fact.holds]; rw [sval_lt (by decide), R.s3]
    exact ⟨⟨b + 2, 0, none⟩, #[.int .i64 0], rfl, rfl, hv _ _ _ _ (h (b + 2, .cells #[.int .i64 0] 3 (0, 0)) (List.mem_cons_of_mem _ (List.mem_cons_of_mem _ List.mem_cons_self))), Nat.le_refl _, rfl⟩

theorem agree_get {c : Code} {a a' : Act} (h : Agree (dsts c) a a') {t : Nat} (ht : memN t (dsts c) = false) : a'.tmps.getD t undef = a.tmps.getD t undef := h t fun hm => by rw [memN_iff.2 hm] at ht; cases ht

theorem rawS_of {w w' : World} {a a' : Act} {c : Code} {y : Value} {b : Nat} {st : St} (R : RawS a y b) (hR : RelS (E0 w) 52 st a' w') (hag : Agree (dsts c) a a')
    (h : (memN 0 (dsts c) || (memN 1 (dsts c) || (memN 2 (dsts c) || memN 3 (dsts c)))) = false) : RawS a' y b := by
  simp only [Bool.or_eq_false_iff] at h
  obtain ⟨η, g, _⟩ := hR
  exact ⟨g.size, g.nd rfl, (agree_get hag h.1).trans R.s0, (agree_get hag h.2.1).trans R.s1, (agree_get hag h.2.2.1).trans R.s2, (agree_get hag h.2.2.2).trans R.s3⟩

theorem rawS_put {a : Act} {y u : Value} {b t : Nat} (R : RawS a y b) (ht : (4 ≤ t ∧ t < 52)) : RawS (a.put (some t) u) y b := by
  have hs := R.size
  refine ⟨by rw [size_put]; exact hs, R.defers, ?_, ?_, ?_, ?_⟩ <;> rw [getD_put (by omega), if_neg (by omega)]
  · exact R.s0
  · exact R.s1
  · exact R.s2
  · exact R.s3

/-- One more fact on a slot. -/
theorem raw_init {y p1 p2 p3 : Value} {n : Nat} (hn : n = 52) {a : Act} (ha : a = { tmps := #[] ++ #[y] ++ ([p1, p2, p3] : List Value).toArray ++ Array.replicate (n - (#[] ++ #[y] ++ ([p1, p2, p3] : List Value).toArray).size) undef, defers := [] }) :
    a.tmps.size = 52 ∧ a.defers = [] ∧ a.tmps.getD 0 undef = y ∧ a.tmps.getD 1 undef = p1 ∧ a.tmps.getD 2 undef = p2 ∧ a.tmps.getD 3 undef = p3 := by
  subst ha
  have e4 : (#[] ++ #[y] ++ ([p1, p2, p3] : List Value).toArray) = #[y, p1, p2, p3] := by simp
  have e5 : ∀ t v, (#[y, p1, p2, p3] : Array Value)[t]? = some v → (#[] ++ #[y] ++ ([p1, p2, p3] : List Value).toArray ++ Array.replicate (n - (#[] ++ #[y] ++ ([p1, p2, p3] : List Value).toArray).size) undef).getD t undef = v := fun t v h => by
    rw [e4, Array.getD_eq_getD_getElem?, Array.getElem?_append_left (Array.getElem?_eq_some_iff.1 h).1, h]; rfl
  refine ⟨?_, rfl, e5 0 y rfl, e5 1 p1 rfl, e5 2 p2 rfl, e5 3 p3 rfl⟩
  rw [e4, Array.size_append, Array.size_replicate, hn]; rfl

theorem slot_bool {w w0 : World} {a : Act} {st : St} {t : Nat} {v : Bool} (hR : RelS (E0 w0) 52 (.slot t (.one (.d .bool v)) :: st) a w) (ht : t < 1000000) : a.eval (.tmp t) = .bool v := by
  obtain ⟨η, g, H⟩ := hR
  have h := H _ List.mem_cons_self
  simp only [Fact.holds] at h
  rw [sval_lt ht] at h
  obtain ⟨l, h1, ⟨h2, _⟩ | ⟨_, h2⟩⟩ := h
  · cases h2
  · have h1 : l = [.bool v] := h1
    rw [h1] at h2
    exact ((List.cons.inj h2).1).symm
theorem slot_str {w w0 : World} {a : Act} {st : St} {t : Nat} {v : ByteArray} (hR : RelS (E0 w0) 52 (.slot t (.one (.d .str v)) :: st) a w) (ht : t < 1000000) : a.tmps.getD t undef = .string v := by
  obtain ⟨η, g, H⟩ := hR
  have h := H _ List.mem_cons_self
  simp only [Fact.holds] at h
  rw [sval_lt ht] at h
  exact v_str h
theorem slot_int {w w0 : World} {a : Act} {st : St} {t : Nat} {v : Int} (hR : RelS (E0 w0) 52 (sI t v :: st) a w) (ht : t < 1000000) : a.tmps.getD t undef = .int .i64 v := by
  obtain ⟨η, g, H⟩ := hR
  have h := H _ List.mem_cons_self
  simp only [Fact.holds] at h
  rw [sval_lt ht] at h
  exact v_int h
theorem rel_int {w w0 : World} {a : Act} {st : St} {t : Nat} {v : Int} (hR : RelS (E0 w0) 52 st a w) (ht : t < 1000000) (h : a.tmps.getD t undef = .int .i64 v) : RelS (E0 w0) 52 (sI t v :: st) a w := by
  obtain ⟨η, g, H⟩ := hR
  refine ⟨η, g, fun f hf => ?_⟩
  rcases List.mem_cons.1 hf with rfl | hf
  · simp only [Fact.holds]; rw [sval_lt ht, h]; exact RepV.mk1 rfl rfl
  · exact H f hf

end Go.Eng.Pu
