/- What the symbolic values and facts mean in the model's memory, and the frame lemma: what an operation leaves as it was. Conditions: none beyond each lemma's own. -/
import Derived.Test.YtimkbccpbjabiaaE1
set_option linter.all false
namespace Go.Eng

abbrev View := Nat → Array Value → Prop

abbrev lget {α : Type} (l : List α) (i : Nat) : Option α := l[i]?

def Rep (V : View) : (t : Ty) → t.Den → List Value → Prop
  | .int k, x, l => l = [.int k x]
  | .bool, x, l => l = [.bool x]
  | .str, x, l => l = [.string x]
  | .flt k, x, l => l = [.float k x]
  | .cpx k, x, l => l = [.complex k x.1 x.2]
  | .sl e, xs, l => ∃ (a : Option Addr) (cap : Nat), l = [.slice a (List.length (α := e.Den) xs) cap] ∧ List.length (α := e.Den) xs ≤ cap ∧ cap ≤ maxLen ∧ (a = none → xs = [] ∧ cap = 0) ∧
      ∀ ad, a = some ad → xs ≠ [] → ad.spot = none ∧ ∃ c, V ad.block c ∧ ad.off + List.length (α := e.Den) xs * e.size ≤ c.size ∧
        ∀ (i : Nat) (x : e.Den), lget (α := e.Den) xs i = some x → Rep V e x ((c.toList.drop (ad.off + i * e.size)).take e.size)
  | .nil, _, l => l = []
  | .cons a b, x, l => ∃ l1 l2, l = l1 ++ l2 ∧ Rep V a x.1 l1 ∧ Rep V b x.2 l2

theorem Rep.mono {V V' : View} (h : ∀ b c, V b c → V' b c) : ∀ (t : Ty) (x : t.Den) (l : List Value), Rep V t x l → Rep V' t x l
  | .int _, _, _, H => H
  | .bool, _, _, H => H
  | .str, _, _, H => H
  | .flt _, _, _, H => H
  | .cpx _, _, _, H => H
  | .nil, _, _, H => H
  | .cons a b, x, l, ⟨l1, l2, e, h1, h2⟩ => ⟨l1, l2, e, Rep.mono h a _ _ h1, Rep.mono h b _ _ h2⟩
  | .sl e, xs, l, ⟨a, cap, e1, e2, e3, e4, e5⟩ => ⟨a, cap, e1, e2, e3, e4, fun ad ha hne => by
      obtain ⟨hs, c, hV, hsz, hi⟩ := e5 ad ha hne
      exact ⟨hs, c, h _ _ hV, hsz, fun i x hx => Rep.mono h e _ _ (hi i x hx)⟩⟩

theorem Rep.length {V : View} : ∀ (t : Ty) (x : t.Den) (l : List Value), Rep V t x l → l.length = t.size
  | .int _, _, _, H => by subst H; rfl
  | .bool, _, _, H => by subst H; rfl
  | .str, _, _, H => by subst H; rfl
  | .flt _, _, _, H => by subst H; rfl
  | .cpx _, _, _, H => by subst H; rfl
  | .nil, _, _, H => by subst H; rfl
  | .cons a b, x, l, ⟨l1, l2, e, h1, h2⟩ => by subst e; simp [Ty.size, Rep.length a _ _ h1, Rep.length b _ _ h2]
  | .sl e, xs, l, ⟨a, cap, e1, _⟩ => by subst e1; rfl

theorem Rep.oneCell {V : View} : ∀ (t : Ty) (x : t.Den) (l : List Value), Rep V t x l → ∀ v ∈ l, v.oneCell' = true
  | .int _, _, _, H => by subst H; simp [Value.oneCell']
  | .bool, _, _, H => by subst H; simp [Value.oneCell']
  | .str, _, _, H => by subst H; simp [Value.oneCell']
  | .flt _, _, _, H => by subst H; simp [Value.oneCell']
  | .cpx _, _, _, H => by subst H; simp [Value.oneCell']
  | .nil, _, _, H => by subst H; simp
  | .cons a b, x, l, ⟨l1, l2, e, h1, h2⟩ => by
      subst e
      intro v hv
      rcases List.mem_append.1 hv with h | h
      · exact Rep.oneCell a _ _ h1 v h
      · exact Rep.oneCell b _ _ h2 v h
  | .sl e, xs, l, ⟨a, cap, e1, _⟩ => by subst e1; simp [Value.oneCell']

def RepV (V : View) (t : Ty) (x : t.Den) (v : Value) : Prop :=
  ∃ l, Rep V t x l ∧ ((t.agg = true ∧ v = .agg l.toArray) ∨ (t.agg = false ∧ l = [v]))

theorem RepV.mono {V V' : View} (h : ∀ b c, V b c → V' b c) {t : Ty} {x : t.Den} {v : Value} (H : RepV V t x v) : RepV V' t x v :=
  let ⟨l, h1, h2⟩ := H
  ⟨l, Rep.mono h _ _ _ h1, h2⟩

theorem RepV.cells {V : View} {t : Ty} {x : t.Den} {v : Value} (H : RepV V t x v) : Rep V t x v.cells.toList := by
  obtain ⟨l, h1, ⟨_, rfl⟩ | ⟨ha, rfl⟩⟩ := H
  · simpa [Value.cells] using h1
  · have := Rep.oneCell _ _ _ h1 v (by simp)
    cases v <;> first | (simp [Value.oneCell'] at this; done) | simpa [Value.cells] using h1

abbrev Eta := Nat → Option (Nat × Nat)

def holds1 (V : View) (η : Eta) : S1 → Value → Prop
  | .d t x, v => RepV V t x v
  | .lb b, v => v = .bool b
  | .v x, v => v = x
  | .p k off, v => ∃ b c, η k = some (b, c) ∧ v = .pointer (some ⟨b, off, none⟩)
  | .pd t x, v => ∃ ad c, v = .pointer (some ad) ∧ ad.spot = none ∧ V ad.block c ∧ ad.off + t.size ≤ c.size ∧ Rep V t x ((c.toList.drop ad.off).take t.size)
  | .pr k i sz, v => 0 ≤ i ∧ ∃ b c, η k = some (b, c) ∧ v = .pointer (some ⟨b, i.toNat * sz, none⟩)
  | .o k n, v => (η k = none ∧ n = 0 ∧ v = .slice none 0 0) ∨ ∃ b c, η k = some (b, c) ∧ v = .slice (some ⟨b, 0, none⟩) n c ∧ n ≤ c

def holdsC (V : View) (η : Eta) : List S1 → List Value → Prop
  | [], [] => True
  | s :: r, v :: l => holds1 V η s v ∧ v.oneCell' = true ∧ holdsC V η r l
  | _, _ => False

def holdsL (V : View) (η : Eta) : List S1 → List Value → Prop
  | [], [] => True
  | s :: r, v :: l => holds1 V η s v ∧ holdsL V η r l
  | _, _ => False

def holdsV (V : View) (η : Eta) : SV → Value → Prop
  | .one s, v => holds1 V η s v
  | .agg cs, v => ∃ vs, v = .agg vs.toArray ∧ holdsC V η cs vs
  | .tup ss, v => ∃ vs, v = .tuple vs.toArray ∧ holdsL V η ss vs

def RowIn (V : View) (e : Ty) (xs : List e.Den) (c : Nat) (cur : Array Value) : Prop :=
  cur.size = c * e.size ∧ xs.length ≤ c ∧ c ≤ maxLen ∧ ∀ (i : Nat) (x : e.Den), xs[i]? = some x → Rep V e x ((cur.toList.drop (i * e.size)).take e.size)

/-- What stays the same while a body runs. -/
structure Env where
  P : Program
  M : Nat → Prop            -- blocks of the callers' own, which may change between calls
  mu : Nat → Prop          -- those of them that this body may write
  w0 : World
  OB : Nat → Obj → Prop     -- what is kept of objects that are handed by pointer

def vw (E : Env) (η : Eta) (w : World) : View := fun b c => ¬ E.M b ∧ (∀ k n, η k ≠ some (b, n)) ∧ ∃ el f, w.heap[b]? = some (.cells c el f)

def Fact.holds (E : Env) (η : Eta) (a : Act) (w : World) : Fact → Prop
  | .slot t s => holdsV (vw E η w) η s (a.tmps.getD t undef)
  | .cell k off s => ∃ b c cur el v, E.w0.heap.size ≤ b ∧ η k = some (b, c) ∧ w.heap[b]? = some (.cells cur el (0, 0)) ∧ cur[off]? = some v ∧ v.oneCell' = true ∧ holds1 (vw E η w) η s v
  | .row k el e xs => (η k = none ∧ xs = []) ∨ ∃ b c cur, E.w0.heap.size ≤ b ∧ η k = some (b, c) ∧ w.heap[b]? = some (.cells cur el (0, 0)) ∧ RowIn (vw E η w) e xs c cur
  | .ob k i => ∃ b c o, η k = some (b, c) ∧ w.heap[b]? = some o ∧ E.OB i o

structure Good (E : Env) (nt : Nat) (η : Eta) (a : Act) (w : World) : Prop where
  size : a.tmps.size = nt
  defers : a.defers = []
  os : w.os = E.w0.os
  tape : w.tape = E.w0.tape
  output : w.output = E.w0.output
  grow : E.w0.heap.size ≤ w.heap.size
  keep : ∀ b, b < E.w0.heap.size → ¬ E.mu b → w.heap[b]? = E.w0.heap[b]?
  own : ∀ k b c, η k = some (b, c) → b < w.heap.size ∧ (E.w0.heap.size ≤ b ∨ E.mu b)
  inj : ∀ k k' b c c', η k = some (b, c) → η k' = some (b, c') → k = k'
  old : ∀ b, E.M b → b < E.w0.heap.size
  obkeep : ∀ b i o, b < E.w0.heap.size → E.mu b → E.w0.heap[b]? = some o → E.OB i o → ∃ o', w.heap[b]? = some o' ∧ E.OB i o'

def Rel (E : Env) (nt : Nat) (F : Fact → Prop) (a : Act) (w : World) : Prop :=
  ∃ η, Good E nt η a w ∧ ∀ f, F f → f.holds E η a w

theorem Rel.weaken {E : Env} {nt : Nat} {F F' : Fact → Prop} {a : Act} {w : World} (h : Rel E nt F a w) (hF : ∀ f, F' f → F f) : Rel E nt F' a w :=
  let ⟨η, g, H⟩ := h
  ⟨η, g, fun f hf => H f (hF f hf)⟩

theorem memN_iff {n : Nat} : ∀ {l : List Nat}, memN n l = true ↔ n ∈ l
  | [] => by simp [memN]
  | m :: r => by
    simp only [memN]
    cases h : Nat.beq m n with
    | true => simp [Nat.eq_of_beq_eq_true h]
    | false =>
      have : m ≠ n := Nat.ne_of_beq_eq_false h
      simp [memN_iff (l := r), Ne.symm this]

theorem memC_iff {k off : Nat} : ∀ {l : List (Nat × Nat)}, memC k off l = true ↔ (k, off) ∈ l
  | [] => by simp [memC]
  | m :: r => by
    obtain ⟨m1, m2⟩ := m
    simp only [memC]
    cases h : (Nat.beq m1 k && Nat.beq m2 off) with
    | true =>
      rw [Bool.and_eq_true] at h
      simp [Nat.eq_of_beq_eq_true h.1, Nat.eq_of_beq_eq_true h.2]
    | false =>
      have : ¬ (k = m1 ∧ off = m2) := by
        rintro ⟨rfl, rfl⟩
        simp at h
      simp [memC_iff (l := r), this]

theorem holds1_keep {V V' : View} {η η' : Eta} {ks : List Nat} (hv : ∀ b c, V b c → V' b c) (hη : ∀ k, k ∉ ks → η' k = η k) {s : S1} {v : Value}
    (hm : s.ment ks = false) (h : holds1 V η s v) : holds1 V' η' s v := by
  cases s with
  | d t x => exact RepV.mono hv h
  | lb b => exact h
  | v x => exact h
  | p k off =>
    have hk : k ∉ ks := fun hc => by rw [S1.ment, memN_iff.2 hc] at hm; cases hm
    simpa only [holds1, hη k hk] using h
  | pd t x =>
    obtain ⟨ad, c, h1, h2, h3, h4, h5⟩ := h
    exact ⟨ad, c, h1, h2, hv _ _ h3, h4, Rep.mono hv _ _ _ h5⟩
  | pr k i sz =>
    have hk : k ∉ ks := fun hc => by rw [S1.ment, memN_iff.2 hc] at hm; cases hm
    simpa only [holds1, hη k hk] using h
  | o k n =>
    have hk : k ∉ ks := fun hc => by rw [S1.ment, memN_iff.2 hc] at hm; cases hm
    simpa only [holds1, hη k hk] using h

theorem holdsC_keep {V V' : View} {η η' : Eta} {ks : List Nat} (hv : ∀ b c, V b c → V' b c) (hη : ∀ k, k ∉ ks → η' k = η k) :
    ∀ {cs : List S1} {vs : List Value}, anyS (S1.ment ks) cs = false → holdsC V η cs vs → holdsC V' η' cs vs
  | [], [], _, h => h
  | [], _ :: _, _, h => h.elim
  | _ :: _, [], _, h => h.elim
  | s :: r, v :: l, hm, ⟨h1, h2, h3⟩ => by
    rw [anyS, Bool.or_eq_false_iff] at hm
    exact ⟨holds1_keep hv hη hm.1 h1, h2, holdsC_keep hv hη hm.2 h3⟩

theorem holdsL_keep {V V' : View} {η η' : Eta} {ks : List Nat} (hv : ∀ b c, V b c → V' b c) (hη : ∀ k, k ∉ ks → η' k = η k) :
    ∀ {cs : List S1} {vs : List Value}, anyS (S1.ment ks) cs = false → holdsL V η cs vs → holdsL V' η' cs vs
  | [], [], _, h => h
  | [], _ :: _, _, h => h.elim
  | _ :: _, [], _, h => h.elim
  | s :: r, v :: l, hm, ⟨h1, h3⟩ => by
    rw [anyS, Bool.or_eq_false_iff] at hm
    exact ⟨holds1_keep hv hη hm.1 h1, holdsL_keep hv hη hm.2 h3⟩

theorem holdsV_keep {V V' : View} {η η' : Eta} {ks : List Nat} (hv : ∀ b c, V b c → V' b c) (hη : ∀ k, k ∉ ks → η' k = η k) {s : SV} {v : Value}
    (hm : s.ment ks = false) (h : holdsV V η s v) : holdsV V' η' s v := by
  cases s with
  | one s => exact holds1_keep hv hη hm h
  | agg cs => obtain ⟨vs, rfl, h⟩ := h; exact ⟨vs, rfl, holdsC_keep hv hη hm h⟩
  | tup cs => obtain ⟨vs, rfl, h⟩ := h; exact ⟨vs, rfl, holdsL_keep hv hη hm h⟩

theorem RowIn.mono {V V' : View} (hv : ∀ b c, V b c → V' b c) {e : Ty} {xs : List e.Den} {c : Nat} {cur : Array Value} (h : RowIn V e xs c cur) : RowIn V' e xs c cur :=
  ⟨h.1, h.2.1, h.2.2.1, fun i x hx => Rep.mono hv _ _ _ (h.2.2.2 i x hx)⟩

/-- What an operation leaves as it was. -/
structure Keeps (E : Env) (η η' : Eta) (a a' : Act) (w w' : World) (K : Kill) : Prop where
  view : ∀ b c, vw E η w b c → vw E η' w' b c
  eta : ∀ k, k ∉ K.keys → η' k = η k
  slots : ∀ t, t ∉ K.slots → a'.tmps.getD t undef = a.tmps.getD t undef
  cells : ∀ k off b c cur el v, k ∉ K.keys → k ∉ K.allof → k ∉ K.cont → (k, off) ∉ K.cells → η k = some (b, c) → w.heap[b]? = some (.cells cur el (0, 0)) → cur[off]? = some v →
    ∃ cur', w'.heap[b]? = some (.cells cur' el (0, 0)) ∧ cur'[off]? = some v
  rows : ∀ k b c cur el, k ∉ K.keys → k ∉ K.rows → k ∉ K.allof → k ∉ K.cont → η k = some (b, c) → w.heap[b]? = some (.cells cur el (0, 0)) → w'.heap[b]? = some (.cells cur el (0, 0))
  obs : ∀ k i b c o, k ∉ K.keys → k ∉ K.rows → k ∉ K.allof → η k = some (b, c) → w.heap[b]? = some o → E.OB i o → ∃ o', w'.heap[b]? = some o' ∧ E.OB i o'

theorem Keeps.fact {E : Env} {η η' : Eta} {a a' : Act} {w w' : World} {K : Kill} (H : Keeps E η η' a a' w w' K) {f : Fact} (hs : K.surv f = true)
    (h : f.holds E η a w) : f.holds E η' a' w' := by
  cases f with
  | slot t s =>
    simp only [Kill.surv, Bool.and_eq_true, Bool.not_eq_true'] at hs
    have ht : t ∉ K.slots := fun hc => by rw [memN_iff.2 hc] at hs; cases hs.1
    simp only [Fact.holds, H.slots t ht]
    exact holdsV_keep H.view H.eta hs.2 h
  | cell k off s =>
    simp only [Kill.surv, Bool.and_eq_true, Bool.not_eq_true'] at hs
    obtain ⟨⟨⟨⟨h1, h2⟩, h3⟩, h5⟩, h4⟩ := hs
    have hn : k ∉ K.cont := fun hc => by rw [memN_iff.2 hc] at h5; cases h5
    have hk : k ∉ K.keys := fun hc => by rw [memN_iff.2 hc] at h1; cases h1
    have hc : (k, off) ∉ K.cells := fun hc => by rw [memC_iff.2 hc] at h2; cases h2
    have ha : k ∉ K.allof := fun hc => by rw [memN_iff.2 hc] at h3; cases h3
    obtain ⟨b, c, cur, el, v, e0, e1, e2, e3, e4, e5⟩ := h
    obtain ⟨cur', e6, e7⟩ := H.cells k off b c cur el v hk ha hn hc e1 e2 e3
    exact ⟨b, c, cur', el, v, e0, (H.eta k hk).trans e1, e6, e7, e4, holds1_keep H.view H.eta h4 e5⟩
  | row k el e xs =>
    simp only [Kill.surv, Bool.and_eq_true, Bool.not_eq_true'] at hs
    obtain ⟨⟨⟨h1, h2⟩, h3⟩, h5⟩ := hs
    have hn : k ∉ K.cont := fun hc => by rw [memN_iff.2 hc] at h5; cases h5
    have hk : k ∉ K.keys := fun hc => by rw [memN_iff.2 hc] at h1; cases h1
    have hc : k ∉ K.rows := fun hc => by rw [memN_iff.2 hc] at h2; cases h2
    have ha : k ∉ K.allof := fun hc => by rw [memN_iff.2 hc] at h3; cases h3
    rcases h with ⟨e1, e2⟩ | ⟨b, c, cur, e0, e1, e2, e3⟩
    · exact .inl ⟨(H.eta k hk).trans e1, e2⟩
    · exact .inr ⟨b, c, cur, e0, (H.eta k hk).trans e1, H.rows k b c cur el hk hc ha hn e1 e2, e3.mono H.view⟩
  | ob k i =>
    simp only [Kill.surv, Bool.and_eq_true, Bool.not_eq_true'] at hs
    obtain ⟨⟨h1, h2⟩, h3⟩ := hs
    have hk : k ∉ K.keys := fun hc => by rw [memN_iff.2 hc] at h1; cases h1
    have hc : k ∉ K.rows := fun hc => by rw [memN_iff.2 hc] at h2; cases h2
    have ha : k ∉ K.allof := fun hc => by rw [memN_iff.2 hc] at h3; cases h3
    obtain ⟨b, c, o, e1, e2, e3⟩ := h
    obtain ⟨o', e4, e5⟩ := H.obs k i b c o hk hc ha e1 e2 e3
    exact ⟨b, c, o', (H.eta k hk).trans e1, e4, e5⟩

end Go.Eng
