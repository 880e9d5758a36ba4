/- Contract of circle.unit, by hand: the units that were asked so far stay right, in every order of its assignments. Conditions: none. -/
import Derived.Test.YtacgcendcdiodaaDoorL5
namespace Go.Eng.Lp
open Go.Eng Go.Proofs
set_option linter.all false
set_option maxRecDepth 100000
set_option maxHeartbeats 8000000

/-- Every order of a region, by a relation that grows with what has been done. -/
theorem any_inv {P : Program} {ops : Array Oper} {Q : Exit → Act → World → Prop} (J : (Nat → Prop) → Act → World → Prop)
    (hext : ∀ D D' a w, (∀ i, D i ↔ D' i) → J D a w → J D' a w)
    (hlt : ∀ i o, ops[i]? = some o → ∀ e ∈ o.after, Region.binds .any e = true → e.on < i)
    (hstep : ∀ (D : Nat → Prop) i o, ops[i]? = some o → ¬ D i → (∀ e ∈ o.after, Region.binds .any e = true → D e.on) → ∀ a w K, J D a w → (∀ a' w', J (fun k => k = i ∨ D k) a' w' → K a' w') → wpOp P ops Q i K a w)
    (hfin : ∀ D a w, (∀ i, i < ops.size → D i) → J D a w → Q .normal a w) :
    ∀ (fuel : Nat) (L : Array Bool) (a : Act) (w : World), L.size = ops.size → un L ops.size ≤ fuel → J (fun i => L.getD i false = true) a w → wpAny P .any ops Q fuel L a w := by
  have getDf : ∀ {L : Array Bool} {i : Nat}, L.size = ops.size → i < ops.size → L.getD i false = L.getD i true := by
    intro L i hL hi
    have : i < L.size := by omega
    simp [this]
  have notReady : ∀ (L : Array Bool), L.size = ops.size → Region.ready .any ops L = [] → ∀ i, i < ops.size → L.getD i true = true := by
    intro L hL hr i
    induction i using Nat.strongRecOn with
    | _ i ih =>
      intro hi
      cases hu : L.getD i true with
      | true => rfl
      | false =>
        exfalso
        have : i ∈ Region.ready .any ops L := by
          rw [mem_ready]
          refine ⟨hu, ops[i], by simp [hi], fun e he hb => ?_⟩
          have hl := hlt i ops[i] (by simp [hi]) e he hb
          have := ih e.on hl (by omega)
          rw [getDf hL (by omega)]
          exact this
        rw [hr] at this
        cases this
  have fin : ∀ (L : Array Bool) (a : Act) (w : World), L.size = ops.size → (∀ i, i < ops.size → L.getD i true = true) → J (fun i => L.getD i false = true) a w → Q .normal a w := by
    intro L a w hL hall hJ
    exact hfin _ a w (fun i hi => by rw [getDf hL hi]; exact hall i hi) hJ
  intro fuel
  induction fuel with
  | zero =>
    intro L a w hL hu hJ
    have hall := un_zero (Nat.le_zero.1 hu)
    refine ⟨?_, fin L a w hL hall hJ⟩
    cases hr : Region.ready .any ops L with
    | nil => rfl
    | cons i r =>
      have hi : i ∈ Region.ready .any ops L := by rw [hr]; exact List.mem_cons_self
      obtain ⟨h1, o, h2, _⟩ := mem_ready.1 hi
      have := hall i (Array.getElem?_eq_some_iff.1 h2).1
      rw [h1] at this
      cases this
  | succ fuel ih =>
    intro L a w hL hu hJ
    refine ⟨fun hr => fin L a w hL (notReady L hL hr) hJ, fun i hi => ?_⟩
    obtain ⟨h1, o, h2, h3⟩ := mem_ready.1 hi
    have hin : i < ops.size := (Array.getElem?_eq_some_iff.1 h2).1
    have hnot : ¬ (L.getD i false = true) := by rw [getDf hL hin, h1]; simp
    have hset : ∀ k, (k = i ∨ L.getD k false = true) ↔ (L.setIfInBounds i true).getD k false = true := by
      intro k
      by_cases hki : i = k
      · subst hki
        have : i < L.size := by omega
        simp [this]
      · rw [getD_set_ne false hki]
        constructor
        · rintro (h | h)
          · exact absurd h.symm hki
          · exact h
        · exact .inr
    refine hstep _ i o h2 hnot h3 a w _ hJ fun a' w' hJ' => ih _ a' w' (by simpa using hL) ?_ (hext _ _ _ _ hset hJ')
    have := un_set (by omega) h1 ops.size
    rw [if_pos hin] at this
    omega

abbrev slotV (a : Act) (t : Nat) : Value := a.tmps.getD t undef

theorem put_get {a : Act} {d t : Nat} {v : Value} (h : d < a.tmps.size) : slotV (a.put (some d) v) t = if t = d then v else slotV a t := by
  by_cases ht : t = d
  · subst ht; rw [if_pos rfl]; exact getD_put_eq h
  · rw [if_neg ht]; exact getD_put_ne ht

theorem wp_val {P : Program} {o : Oper} {a : Act} {w : World} {K : Act → World → Prop} {Q : Exit → Act → World → Prop} {v : Value} (h : (execOp a.eval o).run P w = .ok (.value v) w) (hK : K (a.put o.dst v) w) : o.wp P a w K Q := by
  unfold Oper.wp; rw [h]; exact hK

theorem wp_skipW {P : Program} {o : Oper} {a : Act} {w w' : World} {K : Act → World → Prop} {Q : Exit → Act → World → Prop} (h : (execOp a.eval o).run P w = .ok .skip w') (hd : o.dst = none) (hK : K a w') : o.wp P a w K Q := by
  unfold Oper.wp; rw [h]; simp only [Oper.upon, hd]; exact hK


theorem wl_step {P : Program} {ops : Array Oper} {Q : Exit → Act → World → Prop} {o : Oper} {rest : List Oper} {a : Act} {w : World} (hg : o.guard = none) (h : o.wp P a w (wpList P ops Q rest) Q) : wpList P ops Q (o :: rest) a w := by
  unfold wpList
  rw [if_pos (by simp [Region.wanted, hg])]
  exact .inl h

/-- Known slots. -/
def Slots (a : Act) (l : List (Nat × Value)) : Prop := a.tmps.size = 32 ∧ a.defers = [] ∧ ∀ p ∈ l, slotV a p.1 = p.2

theorem Slots.put {a : Act} {l : List (Nat × Value)} (h : Slots a l) {d : Nat} {v : Value} (hd : d < 32) (hne : ∀ p ∈ l, p.1 ≠ d) : Slots (a.put (some d) v) ((d, v) :: l) := by
  refine ⟨by simpa [Act.put] using h.1, h.2.1, fun p hp => ?_⟩
  rw [put_get (by rw [h.1]; exact hd)]
  rcases List.mem_cons.1 hp with rfl | hp
  · simp
  · rw [if_neg (hne p hp)]; exact h.2.2 p hp

theorem Slots.get {a : Act} {l : List (Nat × Value)} (h : Slots a l) (t : Nat) (v : Value) (hm : (t, v) ∈ l) : slotV a t = v := h.2.2 _ hm

theorem Slots.less {a : Act} {l l' : List (Nat × Value)} (h : Slots a l) (hs : ∀ p ∈ l', p ∈ l) : Slots a l' := ⟨h.1, h.2.1, fun p hp => h.2.2 p (hs p hp)⟩

/-! ### The single operations -/

theorem run_field0 (w : World) (b : Nat) : (Instr.fieldAt 71 (.pointer (some ⟨b, 0, none⟩)) 0).run Tryd.prog w = .ok (.pointer (some ⟨b, 0, none⟩)) w := by
  have hs : (sizeOf 68).run Tryd.prog w = .ok 4096 w := by
    have : Tryd.prog.info? 68 = some Tryd.t68 := by kernel_rfl
    have h2 : Tryd.t68.size = 4096 := by kernel_rfl
    simp [sizeOf, typeInfo, this, h2]
  simp [Instr.fieldAt, run_underlying Tryd.underlying71, Instr.sureAddr, fieldPlace, hs, add_none]

theorem run_field1 (w : World) (b : Nat) : (Instr.fieldAt 71 (.pointer (some ⟨b, 0, none⟩)) 1).run Tryd.prog w = .ok (.pointer (some ⟨b, 4096, none⟩)) w := by
  have hs : (sizeOf 69).run Tryd.prog w = .ok 12288 w := by
    have : Tryd.prog.info? 69 = some Tryd.t69 := by kernel_rfl
    have h2 : Tryd.t69.size = 12288 := by kernel_rfl
    simp [sizeOf, typeInfo, this, h2]
  simp [Instr.fieldAt, run_underlying Tryd.underlying71, Instr.sureAddr, fieldPlace, hs, add_none]

theorem run_idx118 (w : World) (b m : Nat) (hm : m < 4096) : (Instr.indexAt 68 (.pointer (some ⟨b, 0, none⟩)) (.int .i64 m)).run Tryd.prog w = .ok (.pointer (some ⟨b, m, none⟩)) w := by
  have h0 : ¬ (4096 ≤ m) := by omega
  simp [Instr.indexAt, asIntOf, run_underlying Tryd.underlying68, Instr.sureAddr, h0, run_sizeOf row4, i4, add_none]

theorem run_idx119 (w : World) (b m : Nat) (hm : m < 4096) : (Instr.indexAt 69 (.pointer (some ⟨b, 4096, none⟩)) (.int .i64 m)).run Tryd.prog w = .ok (.pointer (some ⟨b, 4096 + 3 * m, none⟩)) w := by
  have h0 : ¬ (4096 ≤ m) := by omega
  have e : 4096 + m * 3 = 4096 + 3 * m := by omega
  simp [Instr.indexAt, asIntOf, run_underlying Tryd.underlying69, Instr.sureAddr, h0, run_sizeOf row35, i35, add_none, e]

def unitV (m : Int) : Value := .agg #[.int .i64 (unitI m).1, .int .i64 (unitI m).2.1, .int .i64 (unitI m).2.2.1]

/-- The circle's cells while unit m is being noted: k, u tell what has been stored. -/
structure CU (cur : Array Value) (m : Nat) (k u : Prop) (c : Array Value) : Prop where
  size : c.size = 16384
  far : ∀ i, i ≠ m → ¬ (4096 + 3 * m ≤ i ∧ i < 4096 + 3 * m + 3) → c[i]? = cur[i]?
  known : k → c[m]? = some (.bool true)
  unit : u → c[4096 + 3 * m]? = some (.int .i64 (unitI m).1) ∧ c[4096 + 3 * m + 1]? = some (.int .i64 (unitI m).2.1) ∧ c[4096 + 3 * m + 2]? = some (.int .i64 (unitI m).2.2.1)

structure WU (w0 : World) (b b4 : Nat) (w : World) : Prop where
  os : w.os = w0.os
  tape : w.tape = w0.tape
  output : w.output = w0.output
  grow : w0.heap.size ≤ w.heap.size
  keep : ∀ b', b' < w0.heap.size → b' ≠ b → w.heap[b']? = w0.heap[b']?
  old : b < w0.heap.size
  new : w0.heap.size ≤ b4 ∧ ∃ c4 : Array Value, w.heap[b4]? = some (.cells c4 35 (0, 0)) ∧ c4.size = 3

theorem WU.set {w0 w : World} {b b4 : Nat} (h : WU w0 b b4 w) (c : Array Value) : WU w0 b b4 (w.setRow b c) where
  os := h.os
  tape := h.tape
  output := h.output
  grow := by have := h.grow; simpa using this
  keep := fun b' h1 h2 => by rw [setRow_other w b b' c h2]; exact h.keep b' h1 h2
  old := h.old
  new := by
    obtain ⟨h1, c4, h2, h3⟩ := h.new
    have := h.old
    exact ⟨h1, c4, by rw [setRow_other w b b4 c (by omega)]; exact h2, h3⟩

theorem WU.set4 {w0 w : World} {b b4 : Nat} (h : WU w0 b b4 w) {c : Array Value} (hc : c.size = 3 := by rfl) : WU w0 b b4 (w.setRow b4 c) where
  os := h.os
  tape := h.tape
  output := h.output
  grow := by have := h.grow; simpa using this
  keep := fun b' h1 h2 => by
    have := h.new.1
    rw [setRow_other w b4 b' c (by omega)]; exact h.keep b' h1 h2
  old := h.old
  new := by
    obtain ⟨h1, c4, h2, h3⟩ := h.new
    exact ⟨h1, c, setRow_heap w b4 c4 c 35 (0, 0) h2, hc⟩

theorem splice_get {cur : Array Value} {off : Nat} {vs : List Value} (hsz : off + vs.length ≤ cur.size) (j : Nat) :
    (cur.toList.take off ++ vs ++ cur.toList.drop (off + vs.length)).toArray[j]? = if j < off then cur[j]? else if j < off + vs.length then vs[j - off]? else cur[j]? := by
  have hl1 : (cur.toList.take off).length = off := by simp; omega
  simp only [List.getElem?_toArray]
  by_cases h1 : j < off
  · rw [if_pos h1, List.append_assoc, List.getElem?_append_left (by omega), List.getElem?_take]
    simp [h1]
  · rw [if_neg h1]
    by_cases h2 : j < off + vs.length
    · rw [if_pos h2, List.getElem?_append_left (by simp; omega), List.getElem?_append_right (by omega), hl1]
    · rw [if_neg h2, List.getElem?_append_right (by simp; omega)]
      simp only [List.length_append, hl1, List.getElem?_drop, Array.getElem?_toList]
      congr 1; omega

theorem splice_size {cur : Array Value} {off : Nat} {vs : List Value} (hsz : off + vs.length ≤ cur.size) :
    (cur.toList.take off ++ vs ++ cur.toList.drop (off + vs.length)).toArray.size = cur.size := by
  simp; omega

theorem CU.setKnown {cur c : Array Value} {m : Nat} {k u : Prop} (hm : m < 4096) (h : CU cur m k u c) : CU cur m True u (c.toList.take m ++ [Value.bool true] ++ c.toList.drop (m + 1)).toArray := by
  have hg := splice_get (cur := c) (off := m) (vs := [Value.bool true]) (by simp [h.size]; omega)
  have hs := splice_size (cur := c) (off := m) (vs := [Value.bool true]) (by simp [h.size]; omega)
  simp only [List.length_cons, List.length_nil, Nat.zero_add] at hg hs
  refine ⟨by rw [hs]; exact h.size, fun i h1 h2 => ?_, fun _ => ?_, fun hu => ?_⟩
  · rw [hg]
    by_cases h3 : i < m
    · rw [if_pos h3]; exact h.far i h1 h2
    · rw [if_neg h3, if_neg (by omega)]; exact h.far i h1 h2
  · rw [hg, if_neg (by omega), if_pos (by omega)]; simp
  · obtain ⟨u1, u2, u3⟩ := h.unit hu
    refine ⟨?_, ?_, ?_⟩ <;> (rw [hg, if_neg (by omega), if_neg (by omega)]; assumption)

theorem CU.setUnit {cur c : Array Value} {m : Nat} {k u : Prop} (hm : m < 4096) (h : CU cur m k u c) : CU cur m k True (c.toList.take (4096 + 3 * m) ++ [Value.int .i64 (unitI m).1, Value.int .i64 (unitI m).2.1, Value.int .i64 (unitI m).2.2.1] ++ c.toList.drop (4096 + 3 * m + 3)).toArray := by
  have hg := splice_get (cur := c) (off := 4096 + 3 * m) (vs := [.int .i64 (unitI m).1, .int .i64 (unitI m).2.1, .int .i64 (unitI m).2.2.1]) (by simp [h.size]; omega)
  have hs := splice_size (cur := c) (off := 4096 + 3 * m) (vs := [.int .i64 (unitI m).1, .int .i64 (unitI m).2.1, .int .i64 (unitI m).2.2.1]) (by simp [h.size]; omega)
  simp only [List.length_cons, List.length_nil, Nat.zero_add] at hg hs
  refine ⟨by rw [hs]; exact h.size, fun i h1 h2 => ?_, fun hk => ?_, fun _ => ?_⟩
  · rw [hg]
    by_cases h3 : i < 4096 + 3 * m
    · rw [if_pos h3]; exact h.far i h1 h2
    · rw [if_neg h3, if_neg (by omega)]; exact h.far i h1 h2
  · rw [hg, if_pos (by omega)]; exact h.known hk
  · refine ⟨?_, ?_, ?_⟩ <;> (rw [hg, if_neg (by omega), if_pos (by omega)]; simp)

theorem CU.toCirc {cur c : Array Value} {m : Nat} (hm : m < 4096) (hc : circ cur) (h : CU cur m True True c) : circ c := by
  refine ⟨h.size, fun a ha => ?_⟩
  by_cases e : a = m
  · subst e
    exact ⟨true, h.known trivial, fun _ => h.unit trivial⟩
  · obtain ⟨b, h1, h2⟩ := hc.2 a ha
    refine ⟨b, by rw [h.far a e (by omega)]; exact h1, fun hb => ?_⟩
    obtain ⟨u1, u2, u3⟩ := h2 hb
    exact ⟨by rw [h.far _ (by omega) (by omega)]; exact u1, by rw [h.far _ (by omega) (by omega)]; exact u2, by rw [h.far _ (by omega) (by omega)]; exact u3⟩

theorem CU.start {cur : Array Value} {m : Nat} (h : circ cur) : CU cur m False False cur := ⟨h.1, fun _ _ _ => rfl, fun h => h.elim, fun h => h.elim⟩


/-! ### The region whose order is open -/

noncomputable def reg3 : Array Oper := match bodyOf Tryd.f45 with
  | .seq _ (.seq _ (.seq (.seq _ (.cond _ (.region _ ops _) _)) _)) => ops
  | _ => #[]

theorem reg3_size : reg3.size = 14 := by kernel_rfl

def allLt : Nat → List Oper → Bool
  | _, [] => true
  | i, o :: r => edgesLt i o.after.toList && allLt (i + 1) r

theorem allLt_spec : ∀ {l : List Oper} {n i : Nat} {o : Oper}, allLt n l = true → l[i]? = some o → edgesLt (n + i) o.after.toList = true
  | [], _, _, _, _, h => by simp at h
  | p :: r, n, 0, o, h, he => by
    simp only [allLt, Bool.and_eq_true] at h
    simp at he; subst he; exact h.1
  | p :: r, n, i + 1, o, h, he => by
    simp only [allLt, Bool.and_eq_true] at h
    have := allLt_spec (i := i) h.2 (by simpa using he)
    rwa [show n + 1 + i = n + (i + 1) by omega] at this

theorem reg3_lt : ∀ i o, reg3[i]? = some o → ∀ e ∈ o.after, Region.binds .any e = true → e.on < i := by
  intro i o h e he hb
  have h1 : allLt 0 reg3.toList = true := by kernel_rfl
  have := allLt_spec (i := i) h1 (by simpa using h)
  rw [Nat.zero_add] at this
  exact edgesLt_mem this e (by simpa using he) hb

def hasDep (j : Nat) (o : Oper) : Bool := o.after.toList.any fun e => Region.binds .any e && Nat.beq e.on j

theorem dep {D : Nat → Prop} {o : Oper} (j : Nat) (h : hasDep j o = true) (hd : ∀ e ∈ o.after, Region.binds .any e = true → D e.on) : D j := by
  simp only [hasDep, List.any_eq_true, Bool.and_eq_true] at h
  obtain ⟨e, h1, h2, h3⟩ := h
  have := hd e (by simpa using h1) h2
  rwa [Nat.eq_of_beq_eq_true h3] at this

def dstN : Nat → Option Nat
  | 0 => some 14 | 1 => some 15 | 2 => some 16 | 3 => some 17 | 4 => some 18 | 5 => some 19 | 6 => some 20 | 7 => some 21 | 8 => some 22
  | 10 => some 23 | 11 => some 24 | 12 => some 25 | _ => none

def valN (b m : Nat) : Nat → Value
  | 14 => .pointer (some ⟨b, 0, none⟩) | 16 => .pointer (some ⟨b, 0, none⟩) | 20 => .pointer (some ⟨b, 0, none⟩) | 21 => .pointer (some ⟨b, 0, none⟩) | 23 => .pointer (some ⟨b, 0, none⟩)
  | 15 => .int .i64 m | 17 => .int .i64 m | 18 => .int .i64 m
  | 19 => unitV m
  | 22 => .pointer (some ⟨b, m, none⟩) | 24 => .pointer (some ⟨b, 4096, none⟩) | 25 => .pointer (some ⟨b, 4096 + 3 * m, none⟩)
  | _ => undef

structure J3 (w0 : World) (b b4 m : Nat) (cur : Array Value) (D : Nat → Prop) (a : Act) (w : World) : Prop where
  base : Slots a [(0, .pointer (some ⟨b, 0, none⟩)), (1, .int .i64 m), (4, .pointer (some ⟨b4, 0, none⟩))]
  done : ∀ i t, dstN i = some t → D i → slotV a t = valN b m t
  world : WU w0 b b4 w
  cell : ∃ c, w.heap[b]? = some (.cells c 71 (0, 0)) ∧ CU cur m (D 9) (D 13) c

theorem CU.ext {cur c : Array Value} {m : Nat} {k u k' u' : Prop} (h : CU cur m k u c) (hk : k' → k) (hu : u' → u) : CU cur m k' u' c := ⟨h.size, h.far, fun x => h.known (hk x), fun x => h.unit (hu x)⟩

theorem dstN_ge {i t : Nat} (h : dstN i = some t) : 14 ≤ t ∧ t < 32 := by
  unfold dstN at h
  split at h <;> simp at h <;> omega

theorem dstN_ne {i j t : Nat} (h : dstN i = some t) (h' : dstN j = some t) : i = j := by
  unfold dstN at h h'
  split at h <;> simp at h <;> subst h <;> split at h' <;> simp at h' <;> rfl

/-- A step that gives a slot its value. -/
theorem J3.val {w0 : World} {b b4 m : Nat} {cur : Array Value} {D : Nat → Prop} {a : Act} {w w' : World} (h : J3 w0 b b4 m cur D a w) {i t : Nat} (hi : dstN i = some t) (h9 : i ≠ 9) (h13 : i ≠ 13)
    (hw : WU w0 b b4 w') (hb : w'.heap[b]? = w.heap[b]?) : J3 w0 b b4 m cur (fun k => k = i ∨ D k) (a.put (some t) (valN b m t)) w' := by
  have hg := dstN_ge hi
  refine ⟨(h.base.put (v := valN b m t) hg.2 (by simp; omega)).less (fun p hp => List.mem_cons_of_mem _ hp), fun j t' hj hD => ?_, hw, ?_⟩
  · rw [put_get (by rw [h.base.1]; exact hg.2)]
    by_cases ht : t' = t
    · rw [if_pos ht, ht]
    · rw [if_neg ht]
      refine h.done j t' hj ?_
      rcases hD with rfl | hD
      · rw [hi] at hj; simp at hj; exact absurd hj.symm ht
      · exact hD
  · obtain ⟨c, h1, h2⟩ := h.cell
    refine ⟨c, by rw [hb]; exact h1, h2.ext (fun h => h.resolve_left (fun e => h9 e.symm)) (fun h => h.resolve_left (fun e => h13 e.symm))⟩

theorem wpOp_of {P : Program} {ops : Array Oper} {Q : Exit → Act → World → Prop} {i : Nat} {o : Oper} {K : Act → World → Prop} {a : Act} {w : World} (h : ops[i]? = some o) (hg : o.guard = none) (hw : o.wp P a w K Q) : wpOp P ops Q i K a w := by
  unfold wpOp
  rw [h]
  simp only
  rw [if_pos (by simp [Region.wanted, hg])]
  exact .inl hw

theorem getO {i : Nat} {o : Oper} {op : Op} {d : Option Nat} {l : List Nat} (h : reg3[i]? = some o) (e : (reg3[i]?.map fun o => (o.op, o.dst, o.guard, l.all fun j => hasDep j o)) = some (op, d, none, true)) : o.op = op ∧ o.dst = d ∧ o.guard = none ∧ ∀ j ∈ l, hasDep j o = true := by
  rw [h] at e
  simp only [Option.map_some, Option.some.injEq, Prod.mk.injEq, List.all_eq_true] at e
  exact e

theorem step3 {w0 : World} {b b4 m : Nat} {cur : Array Value} (hm : m < 4096) {Q : Exit → Act → World → Prop} (D : Nat → Prop) (i : Nat) (o : Oper) (ho : reg3[i]? = some o) (hnD : ¬ D i)
    (hd : ∀ e ∈ o.after, Region.binds .any e = true → D e.on) (a : Act) (w : World) (K : Act → World → Prop) (h : J3 w0 b b4 m cur D a w) (hK : ∀ a' w', J3 w0 b b4 m cur (fun k => k = i ∨ D k) a' w' → K a' w') : wpOp Tryd.prog reg3 Q i K a w := by
  have hi : i < 14 := by rw [← reg3_size]; exact (Array.getElem?_eq_some_iff.1 ho).1
  have s0 := h.base.get 0 (.pointer (some ⟨b, 0, none⟩)) (by simp)
  have s1 := h.base.get 1 (.int .i64 m) (by simp)
  have mv : ∀ (t : Nat) (x : Nat), dstN i = some t → o.op = .move (.tmp x) → o.dst = some t → o.guard = none → slotV a x = valN b m t → i ≠ 9 → i ≠ 13 → wpOp Tryd.prog reg3 Q i K a w := by
    intro t x h1 h2 h3 h4 h5 h6 h7
    refine wpOp_of ho h4 (wp_val (v := valN b m t) ?_ ?_)
    · simp only [execOp, h2, Sem.run_pure, Act.eval]; rw [← h5]
    · rw [h3]; exact hK _ _ (h.val h1 h6 h7 h.world rfl)
  match i, hi with
  | 0, _ =>
    obtain ⟨h1, h2, h3, h4⟩ := getO (op := .move (.tmp 0)) (d := some 14) (l := []) ho (by kernel_rfl)
    exact mv 14 0 rfl h1 h2 h3 s0 (by decide) (by decide)
  | 1, _ =>
    obtain ⟨h1, h2, h3, h4⟩ := getO (op := .move (.tmp 1)) (d := some 15) (l := []) ho (by kernel_rfl)
    exact mv 15 1 rfl h1 h2 h3 s1 (by decide) (by decide)
  | 2, _ =>
    obtain ⟨h1, h2, h3, h4⟩ := getO (op := .move (.tmp 0)) (d := some 16) (l := []) ho (by kernel_rfl)
    exact mv 16 0 rfl h1 h2 h3 s0 (by decide) (by decide)
  | 3, _ =>
    obtain ⟨h1, h2, h3, h4⟩ := getO (op := .move (.tmp 1)) (d := some 17) (l := []) ho (by kernel_rfl)
    exact mv 17 1 rfl h1 h2 h3 s1 (by decide) (by decide)
  | 4, _ =>
    obtain ⟨h1, h2, h3, h4⟩ := getO (op := .move (.tmp 1)) (d := some 18) (l := []) ho (by kernel_rfl)
    exact mv 18 1 rfl h1 h2 h3 s1 (by decide) (by decide)
  | 5, _ =>
    obtain ⟨h1, h2, h3, h4⟩ := getO (op := .call { callee := .value (.func 63), args := #[.tmp 18], argTypes := #[3] }) (d := some 19) (l := [4]) ho (by kernel_rfl)
    have e := h.done 4 18 rfl (dep 4 (h4 4 (by simp)) hd)
    refine wpOp_of ho h3 ?_
    obtain ⟨hH, fn, f1, f2, f3⟩ := h18
    have f2' : ¬ fn.name = "runtime.NumGoroutine" := by simpa using f2
    have f3' : ¬ fn.body = none := by intro hn; rw [hn] at f3; cases f3
    have hx : (execOp a.eval o).run Tryd.prog w = .ok (.enter 63 #[.int .i64 m]) w := by
      have ev : a.eval (.tmp 18) = .int .i64 m := e
      simp [execOp, h1, resolve, Deferred.ofValue, invoke, callFunc, f1, f2', f3', ev, Act.eval]
      simpa [slotV, valN, Array.getD_eq_getD_getElem?] using e
    unfold Oper.wp
    rw [hx]
    simp only [Oper.upon]
    refine (hH w (fun _ => False) ((m : Int), ()) [.int .i64 m] [] (fun _ h => h.elim) ⟨_, _, rfl, ⟨[.int .i64 m], rfl, .inr ⟨rfl, rfl⟩⟩, rfl, rfl⟩ trivial).mono fun e' w' ⟨rs, g, g1, g2, g3⟩ => ?_
    subst g1
    obtain ⟨v, vs', q1, q2, q3, q4⟩ := g3
    subst q1 q3
    simp only [retVal]
    have hv : v = unitV m := by
      obtain ⟨l, r1, ⟨_, r2⟩ | ⟨r2, _⟩⟩ := q2
      · obtain ⟨a1, a2, rfl, b1, a3, a4, rfl, b2, a5, a6, rfl, b3, b4⟩ := r1
        subst b1 b2 b3 b4 r2
        rfl
      · cases r2
    rw [h2, hv]
    have hk : ∀ b', b' < w.heap.size → w'.heap[b']? = w.heap[b']? := fun b' hb => g2.keep b' hb (by simp)
    have hw := h.world
    have hb0 : b < w.heap.size := by have := hw.old; have := hw.grow; omega
    refine hK _ _ (h.val (i := 5) (t := 19) rfl (by decide) (by decide) ⟨g2.os.trans hw.os, g2.tape.trans hw.tape, g2.output.trans hw.output, Nat.le_trans hw.grow g2.size, fun b' x1 x2 => ?_, hw.old, ?_⟩ (hk b hb0))
    · rw [hk b' (by have := hw.grow; omega)]; exact hw.keep b' x1 x2
    · obtain ⟨n1, c4, n2, n3⟩ := hw.new
      exact ⟨n1, c4, by rw [hk b4 (lt_of_heap n2)]; exact n2, n3⟩
  | 6, _ =>
    obtain ⟨h1, h2, h3, h4⟩ := getO (op := .nilCheck (.tmp 14)) (d := some 20) (l := [0]) ho (by kernel_rfl)
    have e : a.eval (.tmp 14) = _ := h.done 0 14 rfl (dep 0 (h4 0 (by simp)) hd)
    refine wpOp_of ho h3 (wp_val (v := valN b m 20) ?_ ?_)
    · simp only [execOp, h1, e, valN, Sem.run_pure]
    · rw [h2]; exact hK _ _ (h.val (i := 6) rfl (by decide) (by decide) h.world rfl)
  | 7, _ =>
    obtain ⟨h1, h2, h3, h4⟩ := getO (op := .fieldAddr 71 (.tmp 20) 0) (d := some 21) (l := [6]) ho (by kernel_rfl)
    have e : a.eval (.tmp 20) = _ := h.done 6 20 rfl (dep 6 (h4 6 (by simp)) hd)
    refine wpOp_of ho h3 (wp_val (v := valN b m 21) ?_ ?_)
    · simp only [execOp, h1, e, valN, Sem.run_bind, run_field0, Result.andThen_ok, Sem.run_pure]
    · rw [h2]; exact hK _ _ (h.val (i := 7) rfl (by decide) (by decide) h.world rfl)
  | 8, _ =>
    obtain ⟨h1, h2, h3, h4⟩ := getO (op := .indexAddr 68 (.tmp 21) (.tmp 15)) (d := some 22) (l := [7, 1]) ho (by kernel_rfl)
    have e : a.eval (.tmp 21) = _ := h.done 7 21 rfl (dep 7 (h4 7 (by simp)) hd)
    have e' : a.eval (.tmp 15) = _ := h.done 1 15 rfl (dep 1 (h4 1 (by simp)) hd)
    refine wpOp_of ho h3 (wp_val (v := valN b m 22) ?_ ?_)
    · simp only [execOp, h1, e, e', valN, Sem.run_bind, run_idx118 w b m hm, Result.andThen_ok, Sem.run_pure]
    · rw [h2]; exact hK _ _ (h.val (i := 8) rfl (by decide) (by decide) h.world rfl)
  | 9, _ =>
    obtain ⟨h1, h2, h3, h4⟩ := getO (op := .store 4 (.tmp 22) (.const (.bool true))) (d := none) (l := [8]) ho (by kernel_rfl)
    have e : a.eval (.tmp 22) = _ := h.done 8 22 rfl (dep 8 (h4 8 (by simp)) hd)
    obtain ⟨c, c1, c2⟩ := h.cell
    have hrun := run_storeVar_row (P := Tryd.prog) row4 (w := w) (off := m) (v := .bool true) c1 (by simp [Value.cells, i4]) (by simp [Value.cells, c2.size]; omega) (by simp [Value.cells, Value.oneCell'])
    refine wpOp_of ho h3 (wp_skipW (w' := w.setRow b (c.toList.take m ++ [Value.bool true] ++ c.toList.drop (m + 1)).toArray) ?_ h2 (hK _ _ ⟨h.base, fun j t hj hD => ?_, h.world.set _, _, setRow_heap w b c _ 71 (0, 0) c1, (c2.setKnown hm).ext (fun _ => trivial) (fun h => h.resolve_left (by decide))⟩))
    · have ev : a.eval (.const (.bool true)) = .bool true := rfl
      simp only [execOp, h1, e, ev, valN, Sem.run_bind, Instr.storeAt, Instr.sureAddr, Sem.run_pure, Result.andThen_ok, hrun]
      simp [Value.cells]
    · exact h.done j t hj (hD.resolve_left (by rintro rfl; cases hj))
  | 10, _ =>
    obtain ⟨h1, h2, h3, h4⟩ := getO (op := .nilCheck (.tmp 16)) (d := some 23) (l := [2]) ho (by kernel_rfl)
    have e : a.eval (.tmp 16) = _ := h.done 2 16 rfl (dep 2 (h4 2 (by simp)) hd)
    refine wpOp_of ho h3 (wp_val (v := valN b m 23) ?_ ?_)
    · simp only [execOp, h1, e, valN, Sem.run_pure]
    · rw [h2]; exact hK _ _ (h.val (i := 10) rfl (by decide) (by decide) h.world rfl)
  | 11, _ =>
    obtain ⟨h1, h2, h3, h4⟩ := getO (op := .fieldAddr 71 (.tmp 23) 1) (d := some 24) (l := [10]) ho (by kernel_rfl)
    have e : a.eval (.tmp 23) = _ := h.done 10 23 rfl (dep 10 (h4 10 (by simp)) hd)
    refine wpOp_of ho h3 (wp_val (v := valN b m 24) ?_ ?_)
    · simp only [execOp, h1, e, valN, Sem.run_bind, run_field1, Result.andThen_ok, Sem.run_pure]
    · rw [h2]; exact hK _ _ (h.val (i := 11) rfl (by decide) (by decide) h.world rfl)
  | 12, _ =>
    obtain ⟨h1, h2, h3, h4⟩ := getO (op := .indexAddr 69 (.tmp 24) (.tmp 17)) (d := some 25) (l := [11, 3]) ho (by kernel_rfl)
    have e : a.eval (.tmp 24) = _ := h.done 11 24 rfl (dep 11 (h4 11 (by simp)) hd)
    have e' : a.eval (.tmp 17) = _ := h.done 3 17 rfl (dep 3 (h4 3 (by simp)) hd)
    refine wpOp_of ho h3 (wp_val (v := valN b m 25) ?_ ?_)
    · simp only [execOp, h1, e, e', valN, Sem.run_bind, run_idx119 w b m hm, Result.andThen_ok, Sem.run_pure]
    · rw [h2]; exact hK _ _ (h.val (i := 12) rfl (by decide) (by decide) h.world rfl)
  | 13, _ =>
    obtain ⟨h1, h2, h3, h4⟩ := getO (op := .store 35 (.tmp 25) (.tmp 19)) (d := none) (l := [12, 5]) ho (by kernel_rfl)
    have e : a.eval (.tmp 25) = _ := h.done 12 25 rfl (dep 12 (h4 12 (by simp)) hd)
    have e' : a.eval (.tmp 19) = _ := h.done 5 19 rfl (dep 5 (h4 5 (by simp)) hd)
    obtain ⟨c, c1, c2⟩ := h.cell
    have hrun := run_storeVar_row (P := Tryd.prog) row35 (w := w) (off := 4096 + 3 * m) (v := unitV m) c1 (by simp [unitV, Value.cells, i35]) (by simp [unitV, Value.cells, c2.size]; omega) (by simp [unitV, Value.cells, Value.oneCell'])
    refine wpOp_of ho h3 (wp_skipW (w' := w.setRow b (c.toList.take (4096 + 3 * m) ++ [Value.int .i64 (unitI m).1, Value.int .i64 (unitI m).2.1, Value.int .i64 (unitI m).2.2.1] ++ c.toList.drop (4096 + 3 * m + 3)).toArray) ?_ h2 (hK _ _ ⟨h.base, fun j t hj hD => ?_, h.world.set _, _, setRow_heap w b c _ 71 (0, 0) c1, (c2.setUnit hm).ext (fun h => h.resolve_left (by decide)) (fun _ => trivial)⟩))
    · simp only [execOp, h1, e, e', valN, Sem.run_bind, Instr.storeAt, Instr.sureAddr, Sem.run_pure, Result.andThen_ok, hrun]
      simp [unitV, Value.cells]
    · exact h.done j t hj (hD.resolve_left (by rintro rfl; cases hj))


/-! ### The whole -/

@[reducible] def sUnit : Spec := { pats := [.ob 0, .dat I64], res := [{ t := Ball }], pre := fun _ => True, f := fun x => (unitI x.1, ()) }

theorem un_le : ∀ n (L : Array Bool), un L n ≤ n := by
  intro n L
  induction n with
  | zero => exact Nat.le_refl 0
  | succ n ih => simp only [un]; split <;> omega

theorem region3 {w0 : World} {b b4 m : Nat} {cur : Array Value} (hm : m < 4096) {Q : Exit → Act → World → Prop} {id : Nat} {a : Act} {w : World} (h : J3 w0 b b4 m cur (fun _ => False) a w)
    (hQ : ∀ a w, J3 w0 b b4 m cur (fun _ => True) a w → Q .normal a w) : (Code.region id reg3 true).wp Tryd.prog Q a w := by
  have ext : ∀ D D' a w, (∀ i, D i ↔ D' i) → J3 w0 b b4 m cur D a w → J3 w0 b b4 m cur D' a w := fun D D' a w hD h =>
    ⟨h.base, fun i t hi hd => h.done i t hi ((hD i).2 hd), h.world, by obtain ⟨c, c1, c2⟩ := h.cell; exact ⟨c, c1, c2.ext (hD 9).2 (hD 13).2⟩⟩
  refine wp_region_any mixed ?_
  refine any_inv (J3 w0 b b4 m cur) ext reg3_lt (fun D i o h1 h2 h3 a w K h4 h5 => step3 hm D i o h1 h2 h3 a w K h4 h5) (fun D a w hD hJ => hQ a w ?_) reg3.size (Array.replicate reg3.size false) a _ (by simp) (un_le _ _) ?_
  · have h9 := hD 9 (by rw [reg3_size]; decide)
    have h13 := hD 13 (by rw [reg3_size]; decide)
    have all : ∀ i t, dstN i = some t → D i := fun i t hi => hD i (by
      rw [reg3_size]
      unfold dstN at hi
      split at hi <;> simp at hi <;> omega)
    obtain ⟨c, c1, c2⟩ := hJ.cell
    exact ⟨hJ.base, fun i t hi _ => hJ.done i t hi (all i t hi), hJ.world, c, c1, c2.ext (fun _ => h9) (fun _ => h13)⟩
  · refine ext (fun _ => False) _ _ _ (fun i => ?_) ⟨h.base, h.done, ⟨h.world.os, h.world.tape, h.world.output, h.world.grow, h.world.keep, h.world.old, h.world.new⟩, h.cell⟩
    constructor
    · exact fun h => h.elim
    · intro hx
      simp [Array.getD] at hx


/-- What a step looks at: the operation, its slot, its guard. -/
def shp (o : Oper) : Op × Option Nat × Option (Nat × Bool) := (o.op, o.dst, o.guard)

theorem wl_nil {P : Program} {ops : Array Oper} {Q : Exit → Act → World → Prop} {l : List Oper} {a : Act} {w : World} (h : l.map shp = []) (hQ : Q .normal a w) : wpList P ops Q l a w := by
  cases l with
  | nil => exact hQ
  | cons o r => cases h

theorem wl_next {P : Program} {ops : Array Oper} {Q : Exit → Act → World → Prop} {l : List Oper} {a : Act} {w : World} {op : Op} {d : Option Nat} {r : List (Op × Option Nat × Option (Nat × Bool))} (h : l.map shp = (op, d, none) :: r)
    (hs : ∀ (o : Oper) (rest : List Oper), o.op = op → o.dst = d → rest.map shp = r → o.wp P a w (wpList P ops Q rest) Q) : wpList P ops Q l a w := by
  cases l with
  | nil => cases h
  | cons o rest =>
    simp only [List.map_cons, List.cons.injEq, shp, Prod.mk.injEq] at h
    exact wl_step h.1.2.2 (hs o rest h.1.1 h.1.2.1 h.2)

theorem wl_val {P : Program} {ops : Array Oper} {Q : Exit → Act → World → Prop} {l : List Oper} {a : Act} {w : World} {op : Op} {d : Nat} {r : List (Op × Option Nat × Option (Nat × Bool))} {L : List (Nat × Value)} (S : Slots a L)
    (h : l.map shp = (op, some d, none) :: r) (hd : d < 32) (hne : ∀ p ∈ L, p.1 ≠ d) (v : Value) (hrun : ∀ o : Oper, o.op = op → (execOp a.eval o).run P w = .ok (.value v) w)
    (hK : ∀ a' rest, Slots a' ((d, v) :: L) → rest.map shp = r → wpList P ops Q rest a' w) : wpList P ops Q l a w :=
  wl_next h fun o rest h1 h2 h3 => wp_val (hrun o h1) (by rw [h2]; exact hK _ _ (S.put hd hne) h3)

noncomputable def ops0 : Array Oper := match bodyOf Tryd.f45 with
  | .seq (.region _ ops _) _ => ops
  | _ => #[]
noncomputable def ops1 : Array Oper := match bodyOf Tryd.f45 with
  | .seq _ (.seq (.region _ ops _) _) => ops
  | _ => #[]
noncomputable def ops2 : Array Oper := match bodyOf Tryd.f45 with
  | .seq _ (.seq _ (.seq (.seq (.region _ ops _) _) _)) => ops
  | _ => #[]
noncomputable def ops4 : Array Oper := match bodyOf Tryd.f45 with
  | .seq _ (.seq _ (.seq _ (.seq (.region _ ops _) _))) => ops
  | _ => #[]

theorem body118 : bodyOf Tryd.f45 = .seq (.region 0 ops0 false) (.seq (.region 1 ops1 false) (.seq (.seq (.region 2 ops2 false) (.cond (.tmp 13) (.region 3 reg3 true) .skip)) (.seq (.region 4 ops4 false) .ret))) := by kernel_rfl

theorem sh0 : ops0.toList.map shp = [(.alloc 35, some 4, none)] := by kernel_rfl
theorem sh1 : ops1.toList.map shp = [(.move (.tmp 1), some 5, none), (.binOp .and 3 (.tmp 5) (.const (.int .i64 4095)) 3, some 6, none), (.assign (.tmp 6), some 1, none)] := by kernel_rfl
theorem sh2 : ops2.toList.map shp = [(.move (.tmp 0), some 7, none), (.move (.tmp 1), some 8, none), (.nilCheck (.tmp 7), some 9, none), (.fieldAddr 71 (.tmp 9) 0, some 10, none), (.indexAddr 68 (.tmp 10) (.tmp 8), some 11, none), (.load 4 (.tmp 11), some 12, none), (.unOp .not 4 (.tmp 12), some 13, none)] := by kernel_rfl
theorem sh4 : ops4.toList.map shp = [(.move (.tmp 0), some 26, none), (.move (.tmp 1), some 27, none), (.nilCheck (.tmp 26), some 28, none), (.fieldAddr 71 (.tmp 28) 1, some 29, none), (.indexAddr 69 (.tmp 29) (.tmp 27), some 30, none), (.load 35 (.tmp 30), some 31, none), (.store 35 (.tmp 4) (.tmp 31), none, none)] := by kernel_rfl

theorem h118 : Ok 45 sUnit := by
  refine ⟨?_, ⟨Tryd.f45, Tryd.func45, by kernel_rfl, by kernel_rfl⟩⟩
  intro w0 M x vs bs hM hA hpre
  obtain ⟨b, o, vs', bs', rfl, rfl, hMb, hb, ⟨_, cur, rfl, hc⟩, v, vs2, rfl, hv, rfl, rfl⟩ := hA
  obtain ⟨m0, _⟩ := x
  have hv : v = .int .i64 m0 := by
    obtain ⟨l, r1, ⟨r2, _⟩ | ⟨_, r2⟩⟩ := hv
    · cases r2
    · have r1 : l = [.int .i64 m0] := r1
      rw [r1] at r2; simp at r2; exact r2.symm
  subst hv
  have hbs := hM b hMb
  refine calls_of_wp Tryd.func45 (show Tryd.f45.body = some (bodyOf Tryd.f45) from rfl) ?_
  rw [body118]
  have S0 : Slots { tmps := #[.pointer (some ⟨b, 0, none⟩), .int .i64 m0] ++ Array.replicate (Tryd.f45.ntmps - (#[Value.pointer (some ⟨b, 0, none⟩), .int .i64 m0] : Array Value).size) undef, defers := [] } [(0, .pointer (some ⟨b, 0, none⟩)), (1, .int .i64 m0)] := by
    have hn : Tryd.f45.ntmps = 32 := by kernel_rfl
    rw [hn]
    refine ⟨by simp, rfl, fun p hp => ?_⟩
    simp only [List.mem_cons, List.not_mem_nil, or_false] at hp
    rcases hp with rfl | rfl <;> simp only [slotV, Array.getD_eq_getD_getElem?] <;> rw [Array.getElem?_append_left (by simp)] <;> rfl
  generalize ({ tmps := _, defers := [] } : Act) = a0 at S0
  obtain ⟨m, hm, hmm⟩ : ∃ m : Nat, m < 4096 ∧ (m : Int) = m0 % 4096 := ⟨(m0 % 4096).toNat, by omega, by omega⟩
  have fin : unitI m0 = unitI m := by rw [hmm, unitI_mod]
  have hz := run_zeroValue row35 w0
  refine wp_seq (wp_region_list (wl_next sh0 fun o rest ho hd hr => ?_))
  have hal : (execOp a0.eval o).run Tryd.prog w0 = .ok (.value (.pointer (some ⟨w0.heap.size, 0, none⟩))) (w0.alloc (.cells i35.zero.cells 35)) := by
    simp [execOp, ho, Instr.alloc, hz, newVar, newRow]
  unfold Oper.wp
  rw [hal]
  simp only [Oper.upon, hd]
  refine wl_nil hr ?_
  have S1 := S0.put (d := 4) (v := .pointer (some ⟨w0.heap.size, 0, none⟩)) (by decide) (by simp)
  have W1 : WU w0 b w0.heap.size (w0.alloc (.cells i35.zero.cells 35)) := {
    os := rfl, tape := rfl, output := rfl, grow := Nat.le_of_lt (lt_of_heap (heap_alloc_new w0 (.cells i35.zero.cells 35))), keep := fun b' h1 h2 => heap_alloc_old w0 _ h1, old := hbs
    new := ⟨Nat.le_refl _, _, heap_alloc_new w0 _, rfl⟩ }
  have hb1 : (w0.alloc (.cells i35.zero.cells 35)).heap[b]? = some (.cells cur 71 (0, 0)) := by rw [heap_alloc_old w0 _ hbs]; exact hb
  generalize w0.alloc (.cells i35.zero.cells 35) = w1 at W1 hb1 ⊢
  generalize a0.put (some 4) _ = a1 at S1 ⊢
  generalize w0.heap.size = b4 at S1 W1 ⊢
  change (Code.seq _ _).wp Tryd.prog _ a1 w1
  -- the number
  refine wp_seq (wp_region_list (wl_val S1 sh1 (by decide) (by simp) (.int .i64 m0) (fun o ho => ?_) fun a2 r2 S2 h2 => ?_))
  · simp only [execOp, ho, Sem.run_pure]; rw [show a1.eval (.tmp 1) = .int .i64 m0 from S1.get 1 _ (by simp)]
  refine wl_val S2 h2 (by decide) (by simp) (.int .i64 m) (fun o ho => ?_) fun a3 r3 S3 h3 => ?_
  · have e1 : a2.eval (.tmp 5) = .int .i64 m0 := S2.get 5 _ (by simp)
    have e2 : a2.eval (.const (.int .i64 4095)) = .int .i64 4095 := rfl
    have e3 : bits .and .i64 m0 4095 = (m : Int) := by rw [bits_4095, hmm]
    have := binI_sound (E := { P := Tryd.prog, M := fun _ => False, mu := fun _ => False, w0 := w1, OB := OB }) (η := fun _ => none) (w := w1) (e := .val none (.one (.d (.int .i64) (bits .and .i64 m0 4095)))) ho e1 e2 rfl
    obtain ⟨v, g1, g2⟩ := this trivial
    rw [g1, holds_int g2, e3]
  refine wl_val (S3.less (l' := [(6, .int .i64 m), (4, .pointer (some ⟨b4, 0, none⟩)), (0, .pointer (some ⟨b, 0, none⟩))]) (by simp)) h3 (by decide) (by simp) (.int .i64 m) (fun o ho => ?_) fun a4 r4 S4 h4 => wl_nil h4 ?_
  · simp only [execOp, ho, Sem.run_pure]; rw [show a3.eval (.tmp 6) = .int .i64 m from S3.get 6 _ (by simp)]
  change (Code.seq _ _).wp Tryd.prog _ a4 w1
  -- is it known?
  obtain ⟨kb, hk1, hk2⟩ := hc.2 m hm
  refine wp_seq (wp_seq (wp_region_list (wl_val S4 sh2 (by decide) (by simp) (.pointer (some ⟨b, 0, none⟩)) (fun o ho => ?_) fun a5 r5 S5 h5 => ?_)))
  · simp only [execOp, ho, Sem.run_pure]; rw [show a4.eval (.tmp 0) = .pointer (some ⟨b, 0, none⟩) from S4.get 0 _ (by simp)]
  refine wl_val S5 h5 (by decide) (by simp) (.int .i64 m) (fun o ho => ?_) fun a6 r6 S6 h6 => ?_
  · simp only [execOp, ho, Sem.run_pure]; rw [show a5.eval (.tmp 1) = .int .i64 m from S5.get 1 _ (by simp)]
  refine wl_val S6 h6 (by decide) (by simp) (.pointer (some ⟨b, 0, none⟩)) (fun o ho => ?_) fun a7 r7 S7 h7 => ?_
  · simp only [execOp, ho]; rw [show a6.eval (.tmp 7) = .pointer (some ⟨b, 0, none⟩) from S6.get 7 _ (by simp)]; rfl
  refine wl_val S7 h7 (by decide) (by simp) (.pointer (some ⟨b, 0, none⟩)) (fun o ho => ?_) fun a8 r8 S8 h8 => ?_
  · simp only [execOp, ho]; rw [show a7.eval (.tmp 9) = .pointer (some ⟨b, 0, none⟩) from S7.get 9 _ (by simp)]
    simp only [Sem.run_bind, run_field0, Result.andThen_ok, Sem.run_pure]
  refine wl_val S8 h8 (by decide) (by simp) (.pointer (some ⟨b, m, none⟩)) (fun o ho => ?_) fun a9 r9 S9 h9 => ?_
  · simp only [execOp, ho]; rw [show a8.eval (.tmp 10) = .pointer (some ⟨b, 0, none⟩) from S8.get 10 _ (by simp), show a8.eval (.tmp 8) = .int .i64 m from S8.get 8 _ (by simp)]
    simp only [Sem.run_bind, run_idx118 _ b m hm, Result.andThen_ok, Sem.run_pure]
  refine wl_val S9 h9 (by decide) (by simp) (.bool kb) (fun o ho => ?_) fun a10 r10 S10 h10 => ?_
  · simp only [execOp, ho]; rw [show a9.eval (.tmp 11) = .pointer (some ⟨b, m, none⟩) from S9.get 11 _ (by simp)]
    have hl := run_loadVar_one (P := Tryd.prog) row4 rfl (w := w1) (a := ⟨b, m, none⟩) (v := .bool kb) (by rw [cell_of hb1]; exact hk1)
    simp [Instr.loadAt, Instr.sureAddr, hl]
  refine wl_val S10 h10 (by decide) (by simp) (.bool (!kb)) (fun o ho => ?_) fun a11 r11 S11 h11 => wl_nil h11 ?_
  · simp only [execOp, ho]; rw [show a10.eval (.tmp 12) = .bool kb from S10.get 12 _ (by simp)]
    simp [Op.unary]
  have tail : ∀ a w, Slots a [(0, .pointer (some ⟨b, 0, none⟩)), (1, .int .i64 m), (4, .pointer (some ⟨b4, 0, none⟩))] → WU w0 b b4 w → (∃ c, w.heap[b]? = some (.cells c 71 (0, 0)) ∧ circ c ∧
      c[4096 + 3 * m]? = some (.int .i64 (unitI m).1) ∧ c[4096 + 3 * m + 1]? = some (.int .i64 (unitI m).2.1) ∧ c[4096 + 3 * m + 2]? = some (.int .i64 (unitI m).2.2.1)) →
      (Code.seq (.region 4 ops4 false) .ret).wp Tryd.prog (bodyPost Tryd.prog Tryd.f45 fun e w' => ∃ rs g, e = .returned (retVal rs) ∧ CPost OB w0 w' [b] ∧
        ResOK w' (fun b c => ¬ M b ∧ g ≠ some b ∧ ∃ el f, w'.heap[b]? = some (.cells c el f)) w0.heap.size sUnit.res (sUnit.f (m0, ())) rs g) a w := by
    intro a w S W ⟨c, c1, c2, u1, u2, u3⟩
    refine wp_seq (wp_region_list (wl_val S sh4 (by decide) (by simp) (.pointer (some ⟨b, 0, none⟩)) (fun o ho => ?_) fun a5 r5 S5 h5 => ?_))
    · simp only [execOp, ho, Sem.run_pure]; rw [show a.eval (.tmp 0) = .pointer (some ⟨b, 0, none⟩) from S.get 0 _ (by simp)]
    refine wl_val S5 h5 (by decide) (by simp) (.int .i64 m) (fun o ho => ?_) fun a6 r6 S6 h6 => ?_
    · simp only [execOp, ho, Sem.run_pure]; rw [show a5.eval (.tmp 1) = .int .i64 m from S5.get 1 _ (by simp)]
    refine wl_val S6 h6 (by decide) (by simp) (.pointer (some ⟨b, 0, none⟩)) (fun o ho => ?_) fun a7 r7 S7 h7 => ?_
    · simp only [execOp, ho]; rw [show a6.eval (.tmp 26) = .pointer (some ⟨b, 0, none⟩) from S6.get 26 _ (by simp)]; rfl
    refine wl_val S7 h7 (by decide) (by simp) (.pointer (some ⟨b, 4096, none⟩)) (fun o ho => ?_) fun a8 r8 S8 h8 => ?_
    · simp only [execOp, ho]; rw [show a7.eval (.tmp 28) = .pointer (some ⟨b, 0, none⟩) from S7.get 28 _ (by simp)]
      simp only [Sem.run_bind, run_field1, Result.andThen_ok, Sem.run_pure]
    refine wl_val S8 h8 (by decide) (by simp) (.pointer (some ⟨b, 4096 + 3 * m, none⟩)) (fun o ho => ?_) fun a9 r9 S9 h9 => ?_
    · simp only [execOp, ho]; rw [show a8.eval (.tmp 29) = .pointer (some ⟨b, 4096, none⟩) from S8.get 29 _ (by simp), show a8.eval (.tmp 27) = .int .i64 m from S8.get 27 _ (by simp)]
      simp only [Sem.run_bind, run_idx119 _ b m hm, Result.andThen_ok, Sem.run_pure]
    refine wl_val S9 h9 (by decide) (by simp) (unitV m) (fun o ho => ?_) fun a10 r10 S10 h10 => ?_
    · simp only [execOp, ho]; rw [show a9.eval (.tmp 30) = .pointer (some ⟨b, 4096 + 3 * m, none⟩) from S9.get 30 _ (by simp)]
      have hl := run_loadVar_agg (P := Tryd.prog) row35 rfl (w := w) (a := ⟨b, 4096 + 3 * m, none⟩) (cs := [.int .i64 (unitI m).1, .int .i64 (unitI m).2.1, .int .i64 (unitI m).2.2.1]) rfl (fun j v hj => by
        rw [add_none, cell_of c1]
        match j, hj with
        | 0, hj => simp at hj; subst hj; exact u1
        | 1, hj => simp at hj; subst hj; exact u2
        | 2, hj => simp at hj; subst hj; exact u3
        | j + 3, hj => simp at hj)
      simp [Instr.loadAt, Instr.sureAddr, hl, unitV]
    refine wl_next h10 fun o rest ho hd hr => ?_
    obtain ⟨n1, c4, n2, n3⟩ := W.new
    have hrun := run_storeVar_row (P := Tryd.prog) row35 (w := w) (off := 0) (v := unitV m) n2 (by simp [unitV, Value.cells, i35]) (by simp [unitV, Value.cells, n3]) (by simp [unitV, Value.cells, Value.oneCell'])
    have hcs : (c4.toList.take 0 ++ (unitV m).cells.toList ++ c4.toList.drop (0 + (unitV m).cells.size)).toArray = #[.int .i64 (unitI m).1, .int .i64 (unitI m).2.1, .int .i64 (unitI m).2.2.1] := by
      have : c4.toList.drop 3 = [] := by apply List.drop_of_length_le; simp [n3]
      simp [unitV, Value.cells, this]
    rw [hcs] at hrun
    refine wp_skipW (w' := w.setRow b4 #[.int .i64 (unitI m).1, .int .i64 (unitI m).2.1, .int .i64 (unitI m).2.2.1]) ?_ hd (wl_nil hr ?_)
    · simp only [execOp, ho]; rw [show a10.eval (.tmp 4) = .pointer (some ⟨b4, 0, none⟩) from S10.get 4 _ (by simp), show a10.eval (.tmp 31) = unitV m from S10.get 31 _ (by simp)]
      simp [Instr.storeAt, Instr.sureAddr, hrun]
    have W' := W.set4 (c := #[.int .i64 (unitI m).1, .int .i64 (unitI m).2.1, .int .i64 (unitI m).2.2.1])
    have hbb : b ≠ b4 := by have := W.old; omega
    have g1 : (w.setRow b4 #[.int .i64 (unitI m).1, .int .i64 (unitI m).2.1, .int .i64 (unitI m).2.2.1]).heap[b]? = some (.cells c 71 (0, 0)) := by rw [setRow_other w b4 b _ hbb]; exact c1
    have g2 := setRow_heap w b4 c4 #[.int .i64 (unitI m).1, .int .i64 (unitI m).2.1, .int .i64 (unitI m).2.2.1] 35 (0, 0) n2
    generalize w.setRow b4 _ = w' at W' g1 g2 ⊢
    change Code.ret.wp Tryd.prog _ a10 w'
    refine wp_ret ⟨S10.2.1, unitV m, ?_, [unitV m], none, rfl, ?_, _, [], rfl, ?_, rfl, rfl⟩
    · refine results_run (vs := [unitV m]) ?_
      have hr : Tryd.f45.results.toList = [.cell 4 35] := by kernel_rfl
      have hl := run_loadVar_agg (P := Tryd.prog) row35 rfl (w := w') (a := ⟨b4, 0, none⟩) (cs := [.int .i64 (unitI m).1, .int .i64 (unitI m).2.1, .int .i64 (unitI m).2.2.1]) rfl (fun j v hj => by
        rw [add_none, cell_of g2]
        match j, hj with
        | 0, hj => simp at hj; subst hj; rfl
        | 1, hj => simp at hj; subst hj; rfl
        | 2, hj => simp at hj; subst hj; rfl
        | j + 3, hj => simp at hj)
      have e4 : a10.tmps.getD 4 undef = .pointer (some ⟨b4, 0, none⟩) := S10.get 4 _ (by simp)
      rw [hr]
      simp [resVal, -Array.getD_eq_getD_getElem?, e4, asAddr, hl, unitV]
    · refine { os := W'.os, tape := W'.tape, output := W'.output, size := W'.grow, keep := fun b' h1 h2 => W'.keep b' h1 (by simpa using h2), obk := fun b' h1 i o h2 h3 => ?_ }
      simp only [List.mem_singleton] at h1
      subst h1
      obtain ⟨rfl, _⟩ := h3
      exact ⟨_, g1, rfl, c, rfl, c2⟩
    · refine ⟨[.int .i64 (unitI m).1, .int .i64 (unitI m).2.1, .int .i64 (unitI m).2.2.1], ?_, .inl ⟨rfl, rfl⟩⟩
      simp only [sUnit]
      rw [fin]
      exact ⟨[_], _, rfl, rfl, [_], _, rfl, rfl, [_], _, rfl, rfl, rfl⟩
  change (Code.cond _ _ _).wp Tryd.prog _ a11 w1
  refine wp_cond_split (t := !kb) (S11.get 13 _ (by simp)) (fun ht => ?_) (fun ht => ?_)
  · refine region3 hm (w0 := w0) (b4 := b4) (cur := cur) ⟨S11.less (by simp), fun i t _ h => h.elim, W1, cur, hb1, CU.start hc⟩ fun a w h => ?_
    obtain ⟨c, c1, c2⟩ := h.cell
    exact tail a w h.base h.world ⟨c, c1, c2.toCirc hm hc, c2.unit trivial⟩
  · refine wp_skip ?_
    have hkb : kb = true := by cases kb <;> simp_all
    exact tail a11 w1 (S11.less (by simp)) W1 ⟨cur, hb1, hc, hk2 hkb⟩

end Go.Eng.Lp
