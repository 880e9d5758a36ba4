/- The transitions of the symbolic executor: a value put into a slot, a new block, a store, an append, a call; each keeps the relation between the facts and the model's state. Conditions: none beyond each lemma's own. -/
import Derived.Test.YtimkbccpbjabiaaE2
set_option linter.all false
namespace Go.Eng

def upd (F : Fact → Prop) (add : List Fact) (K : Kill) : Fact → Prop := fun f => f ∈ add ∨ (F f ∧ K.surv f = true)

theorem getD_put_ne {a : Act} {d t : Nat} {v : Value} (h : t ≠ d) : (a.put (some d) v).tmps.getD t undef = a.tmps.getD t undef := by
  simp only [Act.put, Array.getD_eq_getD_getElem?]
  rw [Array.getElem?_setIfInBounds_ne (Ne.symm h)]

theorem getD_put_eq {a : Act} {d : Nat} {v : Value} (h : d < a.tmps.size) : (a.put (some d) v).tmps.getD d undef = v := by
  simp only [Act.put, Array.getD_eq_getD_getElem?]
  rw [Array.getElem?_setIfInBounds_self_of_lt h]
  rfl

theorem Good.put {E : Env} {nt : Nat} {η : Eta} {a : Act} {w : World} (g : Good E nt η a w) (d : Option Nat) (v : Value) : Good E nt η (a.put d v) w := by
  cases d with
  | none => exact g
  | some d => exact { g with size := by simp [Act.put, g.size], defers := g.defers }

theorem Keeps.put {E : Env} {η : Eta} {a : Act} {w : World} (d : Nat) (v : Value) : Keeps E η η a (a.put (some d) v) w w { slots := [d] } where
  view := fun _ _ h => h
  eta := fun _ _ => rfl
  slots := fun t ht => getD_put_ne (by simpa using ht)
  cells := fun _ _ _ _ cur _ _ _ _ _ _ _ h2 h3 => ⟨cur, h2, h3⟩
  rows := fun _ _ _ _ _ _ _ _ _ _ h => h
  obs := fun _ _ _ _ o _ _ _ _ h2 h3 => ⟨o, h2, h3⟩

theorem Keeps.more {E : Env} {η η' : Eta} {a a' : Act} {w w' : World} {K K' : Kill} (h : Keeps E η η' a a' w w' K) (h1 : ∀ x ∈ K.slots, x ∈ K'.slots) (h2 : ∀ x ∈ K.keys, x ∈ K'.keys)
    (h3 : ∀ x ∈ K.cells, x ∈ K'.cells) (h4 : ∀ x ∈ K.rows, x ∈ K'.rows) (h5 : ∀ x ∈ K.allof, x ∈ K'.allof) (h6 : ∀ x ∈ K.cont, x ∈ K'.cont) : Keeps E η η' a a' w w' K' where
  view := h.view
  eta := fun k hk => h.eta k (fun hc => hk (h2 k hc))
  slots := fun t ht => h.slots t (fun hc => ht (h1 t hc))
  cells := fun k off b c cur el v a1 a2 a4 a3 => h.cells k off b c cur el v (fun hc => a1 (h2 _ hc)) (fun hc => a2 (h5 _ hc)) (fun hc => a4 (h6 _ hc)) (fun hc => a3 (h3 _ hc))
  rows := fun k b c cur el a1 a2 a3 a4 => h.rows k b c cur el (fun hc => a1 (h2 _ hc)) (fun hc => a2 (h4 _ hc)) (fun hc => a3 (h5 _ hc)) (fun hc => a4 (h6 _ hc))
  obs := fun k i b c o a1 a2 a3 => h.obs k i b c o (fun hc => a1 (h2 _ hc)) (fun hc => a2 (h4 _ hc)) (fun hc => a3 (h5 _ hc))

section
variable {E : Env} {nt : Nat} {η : Eta} {F : Fact → Prop} {a : Act} {w : World}

theorem put_rel (g : Good E nt η a w) (H : ∀ f, F f → f.holds E η a w) {d : Nat} (hd : d < nt) {s : SV} {v : Value} (hv : holdsV (vw E η w) η s v) :
    Rel E nt (upd F [.slot d s] { slots := [d] }) (a.put (some d) v) w := by
  refine ⟨η, g.put _ _, fun f hf => ?_⟩
  rcases hf with hf | ⟨hf, hs⟩
  · simp only [List.mem_singleton] at hf
    subst hf
    simp only [Fact.holds]
    rw [getD_put_eq (by rw [g.size]; exact hd)]
    exact hv
  · exact (Keeps.put d v).fact hs (H f hf)

theorem undef_rel (g : Good E nt η a w) (H : ∀ f, F f → f.holds E η a w) (d : Option Nat) (v : Value) :
    Rel E nt (upd F [] { slots := d.toList }) (a.put d v) w := by
  refine ⟨η, g.put _ _, fun f hf => ?_⟩
  rcases hf with hf | ⟨hf, hs⟩
  · cases hf
  · cases d with
    | none => exact H f hf
    | some d => exact (Keeps.put d v).fact hs (H f hf)

theorem lt_of_heap {w : World} {b : Nat} {o : Obj} (h : w.heap[b]? = some o) : b < w.heap.size := (Array.getElem?_eq_some_iff.1 h).1

/-- A new block under the key d, whose pointer or slice is put into slot d. -/
theorem new_keeps (g : Good E nt η a w) (d : Nat) (v : Value) (o : Obj) (c : Nat) (wd : World) (hwd : wd.heap = w.heap) :
    Keeps E η (fun k => if k = d then some (w.heap.size, c) else η k) a (a.put (some d) v) w (wd.alloc o) { slots := [d], keys := [d] } := by
  have hold : ∀ b o', w.heap[b]? = some o' → (wd.alloc o).heap[b]? = some o' := fun b o' h => by
    have := lt_of_heap h
    rw [heap_alloc_old wd o (r := b) (by rw [hwd]; exact this), hwd]; exact h
  refine ⟨?_, ?_, ?_, ?_, ?_, ?_⟩
  · rintro b c' ⟨h1, h2, el, f, h3⟩
    refine ⟨h1, fun k n hk => ?_, el, f, hold _ _ h3⟩
    dsimp only at hk
    split at hk
    · have := lt_of_heap h3
      simp at hk; omega
    · exact h2 k n hk
  · intro k hk
    simp at hk
    simp [hk]
  · intro t ht; exact getD_put_ne (by simpa using ht)
  · intro k off b c' cur el v' _ _ _ _ _ h2 h3; exact ⟨cur, hold _ _ h2, h3⟩
  · intro k b c' cur el _ _ _ _ _ h; exact hold _ _ h
  · intro k i b c' o' _ _ _ _ h2 h3; exact ⟨o', hold _ _ h2, h3⟩

theorem new_good (g : Good E nt η a w) (d : Nat) (v : Value) (o : Obj) (c : Nat) (wd : World) (hwd : wd.heap = w.heap) (hos : wd.os = w.os) (ht : wd.tape = w.tape) (ho : wd.output = w.output) :
    Good E nt (fun k => if k = d then some (w.heap.size, c) else η k) (a.put (some d) v) (wd.alloc o) where
  size := (g.put _ _).size
  defers := (g.put _ _).defers
  os := hos.trans g.os
  tape := ht.trans g.tape
  output := ho.trans g.output
  grow := by have := g.grow; simp [hwd]; omega
  keep := fun b hb hm => by
    have := g.grow
    rw [← g.keep b hb hm]
    rw [heap_alloc_old wd o (r := b) (by rw [hwd]; omega), hwd]
  own := fun k b c' h => by
    have := g.grow
    simp only [World.size_alloc, hwd]
    split at h
    · simp at h; omega
    · have := g.own k b c' h
      exact ⟨by omega, this.2⟩
  inj := fun k k' b c1 c2 h1 h2 => by
    split at h1 <;> split at h2
    · omega
    · have := (g.own k' b c2 h2).1
      simp at h1; omega
    · have := (g.own k b c1 h1).1
      simp at h2; omega
    · exact g.inj k k' b c1 c2 h1 h2
  old := g.old
  obkeep := fun b i o1 hb hm h1 h2 => by
    obtain ⟨o', h3, h4⟩ := g.obkeep b i o1 hb hm h1 h2
    refine ⟨o', ?_, h4⟩
    have := g.grow
    rw [heap_alloc_old wd o (r := b) (by rw [hwd]; omega), hwd]; exact h3

theorem mem_cellFacts {k : Nat} {f : Fact} : ∀ {cs : List S1} {off : Nat}, f ∈ cellFacts k off cs → ∃ i s, cs[i]? = some s ∧ f = .cell k (off + i) s
  | [], _, h => by cases h
  | s :: r, off, h => by
    simp only [cellFacts, List.mem_cons] at h
    rcases h with rfl | h
    · exact ⟨0, s, by simp, by simp⟩
    · obtain ⟨i, s', h1, h2⟩ := mem_cellFacts h
      exact ⟨i + 1, s', by simpa using h1, by rw [h2]; congr 1; omega⟩

theorem holdsC_get {V : View} {η : Eta} : ∀ {cs : List S1} {vs : List Value}, holdsC V η cs vs → ∀ (i : Nat) (s : S1), cs[i]? = some s →
    ∃ v, vs[i]? = some v ∧ v.oneCell' = true ∧ holds1 V η s v
  | [], [], _, i, s, h => by simp at h
  | [], _ :: _, h, _, _, _ => h.elim
  | _ :: _, [], h, _, _, _ => h.elim
  | s :: r, v :: l, ⟨h1, h2, h3⟩, i, s', h => by
    cases i with
    | zero => simp at h; subst h; exact ⟨v, by simp, h2, h1⟩
    | succ i => simpa using holdsC_get h3 i s' (by simpa using h)

theorem holdsC_length {V : View} {η : Eta} : ∀ {cs : List S1} {vs : List Value}, holdsC V η cs vs → cs.length = vs.length
  | [], [], _ => rfl
  | [], _ :: _, h => h.elim
  | _ :: _, [], h => h.elim
  | _ :: r, _ :: l, ⟨_, _, h⟩ => by simp [holdsC_length h]

/-- What holds of a value in the state ahead of a new block may name no key that is given anew: so the cells of a box are looked at once more. -/
theorem new_rel (g : Good E nt η a w) (H : ∀ f, F f → f.holds E η a w) {d : Nat} (hd : d < nt) {cs : List S1} {vs : List Value} (el : Nat)
    (hm : anyS (S1.ment [d]) cs = false) (hc : holdsC (vw E η w) η cs vs) :
    Rel E nt (upd F (.slot d (.one (.p d 0)) :: cellFacts d 0 cs) { slots := [d], keys := [d] }) (a.put (some d) (.pointer (some ⟨w.heap.size, 0, none⟩))) (w.alloc (.cells vs.toArray el)) := by
  have hK := new_keeps g d (.pointer (some ⟨w.heap.size, 0, none⟩)) (.cells vs.toArray el) 0 w rfl
  refine ⟨_, new_good g d _ _ 0 w rfl rfl rfl rfl, fun f hf => ?_⟩
  rcases hf with hf | ⟨hf, hs⟩
  · rcases List.mem_cons.1 hf with rfl | hf
    · simp only [Fact.holds]
      rw [getD_put_eq (by rw [g.size]; exact hd)]
      exact ⟨w.heap.size, 0, by simp, rfl⟩
    · obtain ⟨i, s, h1, rfl⟩ := mem_cellFacts hf
      have hc' := holdsC_keep hK.view hK.eta hm hc
      obtain ⟨v, h2, h3, h4⟩ := holdsC_get hc' i s h1
      exact ⟨w.heap.size, 0, vs.toArray, el, v, g.grow, by simp, heap_alloc_new w _, by simpa using h2, h3, h4⟩
  · exact hK.fact hs (H f hf)

theorem newob_rel (g : Good E nt η a w) (H : ∀ f, F f → f.holds E η a w) {d : Nat} (hd : d < nt) (el i : Nat) {cur : Array Value} (ho : E.OB i (.cells cur el)) :
    Rel E nt (upd F [.slot d (.one (.p d 0)), .ob d i] { slots := [d], keys := [d] }) (a.put (some d) (.pointer (some ⟨w.heap.size, 0, none⟩))) (w.alloc (.cells cur el)) := by
  have hK := new_keeps g d (.pointer (some ⟨w.heap.size, 0, none⟩)) (.cells cur el) 0 w rfl
  refine ⟨_, new_good g d _ _ 0 w rfl rfl rfl rfl, fun f hf => ?_⟩
  rcases hf with hf | ⟨hf, hs⟩
  · simp only [List.mem_cons, List.not_mem_nil, or_false] at hf
    rcases hf with rfl | rfl
    · simp only [Fact.holds]
      rw [getD_put_eq (by rw [g.size]; exact hd)]
      exact ⟨w.heap.size, 0, by simp, rfl⟩
    · exact ⟨w.heap.size, 0, _, by simp, heap_alloc_new w _, ho⟩
  · exact hK.fact hs (H f hf)

theorem newrow_rel (g : Good E nt η a w) (H : ∀ f, F f → f.holds E η a w) {d : Nat} (hd : d < nt) {e : Ty} {xs : List e.Den} (el c : Nat) (cur : Array Value)
    (hr : RowIn (vw E η w) e xs c cur) (wd : World) (hwd : wd.heap = w.heap) (hos : wd.os = w.os) (ht : wd.tape = w.tape) (ho : wd.output = w.output) (K : Kill) (hKs : d ∈ K.slots) (hKk : d ∈ K.keys) :
    Rel E nt (upd F [.slot d (.one (.o d xs.length)), .row d el e xs] K) (a.put (some d) (.slice (some ⟨w.heap.size, 0, none⟩) xs.length c)) (wd.alloc (.cells cur el)) := by
  have hK := (new_keeps g d (.slice (some ⟨w.heap.size, 0, none⟩) xs.length c) (.cells cur el) c wd hwd).more (K' := K) (by simpa using hKs) (by simpa using hKk) (by simp) (by simp) (by simp) (by simp)
  refine ⟨_, new_good g d _ _ c wd hwd hos ht ho, fun f hf => ?_⟩
  rcases hf with hf | ⟨hf, hs⟩
  · simp only [List.mem_cons, List.not_mem_nil, or_false] at hf
    rcases hf with rfl | rfl
    · simp only [Fact.holds]
      rw [getD_put_eq (by rw [g.size]; exact hd)]
      exact .inr ⟨w.heap.size, c, by simp, rfl, hr.2.1⟩
    · exact .inr ⟨w.heap.size, c, cur, g.grow, by simp, by have := heap_alloc_new wd (.cells cur el); rw [hwd] at this; exact this, hr.mono hK.view⟩
  · exact hK.fact hs (H f hf)

/-- A store into a block of the body's own. -/
theorem set_keeps (g : Good E nt η a w) {k b c : Nat} (hk : η k = some (b, c)) {cur cur' : Array Value} {el : Nat} (hb : w.heap[b]? = some (.cells cur el (0, 0))) (K : Kill)
    (hc : ∀ off v, k ∉ K.keys → k ∉ K.allof → (k, off) ∉ K.cells → cur[off]? = some v → cur'[off]? = some v) (hr : k ∈ K.rows ∨ k ∈ K.allof ∨ k ∈ K.keys) :
    Keeps E η η a a w (w.setRow b cur') K := by
  have hother : ∀ b', b' ≠ b → (w.setRow b cur').heap[b']? = w.heap[b']? := fun b' h => setRow_other w b b' cur' h
  have hsame := setRow_heap w b cur cur' el (0, 0) hb
  refine ⟨?_, fun _ _ => rfl, fun _ _ => rfl, ?_, ?_, ?_⟩
  · rintro b' c' ⟨h1, h2, el', f', h3⟩
    refine ⟨h1, h2, el', f', ?_⟩
    rw [hother b' (fun e => h2 k c (e ▸ hk))]
    exact h3
  · intro k' off b' c' cur1 el' v h1 h2 _ h3 h4 h5 h6
    by_cases hkk : k' = k
    · subst hkk
      have he : b' = b := by rw [hk] at h4; simp at h4; exact h4.1.symm
      subst he
      rw [hb] at h5
      simp only [Option.some.injEq, Obj.cells.injEq] at h5
      obtain ⟨rfl, rfl, _⟩ := h5
      exact ⟨cur', hsame, hc off v h1 h2 h3 h6⟩
    · have hbb : b' ≠ b := fun e => hkk (g.inj k' k b c' c (e ▸ h4) hk)
      exact ⟨cur1, (hother b' hbb).trans h5, h6⟩
  · intro k' b' c' cur1 el' h1 h2 h3 _ h4 h5
    by_cases hkk : k' = k
    · subst hkk; rcases hr with h | h | h
      · exact absurd h h2
      · exact absurd h h3
      · exact absurd h h1
    · have hbb : b' ≠ b := fun e => hkk (g.inj k' k b c' c (e ▸ h4) hk)
      exact (hother b' hbb).trans h5
  · intro k' i b' c' o h1 h2 h3 h4 h5 h6
    by_cases hkk : k' = k
    · subst hkk; rcases hr with h | h | h
      · exact absurd h h2
      · exact absurd h h3
      · exact absurd h h1
    · have hbb : b' ≠ b := fun e => hkk (g.inj k' k b c' c (e ▸ h4) hk)
      exact ⟨o, (hother b' hbb).trans h5, h6⟩

theorem set_good (g : Good E nt η a w) {b : Nat} (cur' : Array Value) (hlow : E.w0.heap.size ≤ b) : Good E nt η a (w.setRow b cur') where
  size := g.size
  defers := g.defers
  os := g.os
  tape := g.tape
  output := g.output
  grow := by have := g.grow; simpa using this
  keep := fun b' hb hm => by rw [setRow_other w b b' cur' (by omega)]; exact g.keep b' hb hm
  own := fun k' b' c' h => by have := g.own k' b' c' h; simpa using this
  inj := g.inj
  old := g.old
  obkeep := fun b' i o hb hm h1 h2 => by rw [setRow_other w b b' cur' (by omega)]; exact g.obkeep b' i o hb hm h1 h2

end
end Go.Eng
