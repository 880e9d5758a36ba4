/- The verification condition of a body is right: ghost steps, regions in the text's order, branches, loops. Conditions: the table of types is the program's; each contract in use holds. -/
import Derived.Test.YtimkbccpbjabiaaE13
import Derived.Test.YtimkbccpbjabiaaE14
set_option linter.all false
namespace Go.Eng

abbrev RelS (E : Env) (nt : Nat) (st : St) (a : Act) (w : World) : Prop := Rel E nt (fun f => f ∈ st) a w

theorem mem_filt {p : Fact → Bool} {f : Fact} : ∀ {l : St}, f ∈ filt p l ↔ f ∈ l ∧ p f = true
  | [] => by simp [filt]
  | x :: r => by
    simp only [filt]
    cases hx : p x with
    | true =>
      simp only [cond_true, List.mem_cons, mem_filt (l := r)]
      constructor
      · rintro (rfl | ⟨h1, h2⟩)
        · exact ⟨.inl rfl, hx⟩
        · exact ⟨.inr h1, h2⟩
      · rintro ⟨rfl | h1, h2⟩
        · exact .inl rfl
        · exact .inr ⟨h1, h2⟩
    | false =>
      simp only [cond_false, List.mem_cons, mem_filt (l := r)]
      constructor
      · rintro ⟨h1, h2⟩; exact ⟨.inr h1, h2⟩
      · rintro ⟨rfl | h1, h2⟩
        · rw [hx] at h2; cases h2
        · exact ⟨h1, h2⟩

section
variable {E : Env} {nt : Nat} {a : Act} {w : World}

/-- The keys of a state may be given anew, as long as no block that was free becomes taken. -/
theorem reeta {η η' : Eta} (g : Good E nt η a w) (h1 : ∀ k b c, η' k = some (b, c) → ∃ k', η k' = some (b, c)) (h2 : ∀ k k' b c c', η' k = some (b, c) → η' k' = some (b, c') → k = k') :
    Good E nt η' a w ∧ ∀ b c, vw E η w b c → vw E η' w b c := by
  refine ⟨{ g with own := fun k b c h => ?_, inj := h2 }, fun b c ⟨h3, h4, h5⟩ => ⟨h3, fun k n h => ?_, h5⟩⟩
  · obtain ⟨k', h'⟩ := h1 k b c h
    exact g.own k' b c h'
  · obtain ⟨k', h'⟩ := h1 k b n h
    exact h4 k' n h'

def etaDrop (η : Eta) (k : Nat) : Eta := fun j => if j = k then none else η j

theorem etaDrop_good {η : Eta} (g : Good E nt η a w) (k : Nat) : Good E nt (etaDrop η k) a w ∧ ∀ b c, vw E η w b c → vw E (etaDrop η k) w b c := by
  refine reeta g (fun j b c h => ?_) (fun j j' b c c' h h' => ?_)
  · unfold etaDrop at h
    split at h
    · cases h
    · exact ⟨j, h⟩
  · unfold etaDrop at h h'
    split at h
    · cases h
    · split at h'
      · cases h'
      · exact g.inj j j' b c c' h h'

theorem etaDrop_other {η : Eta} {k j : Nat} (h : j ∉ [k]) : etaDrop η k j = η j := by
  simp at h
  simp [etaDrop, h]

theorem Fact.keep {η η' : Eta} {ks : List Nat} (hv : ∀ b c, vw E η w b c → vw E η' w b c) (hη : ∀ k, k ∉ ks → η' k = η k) {f : Fact} (hm : f.ment ks = false) (h : f.holds E η a w) :
    f.holds E η' a w := by
  have nm : ∀ {k}, memN k ks = false → k ∉ ks := fun h hc => by rw [memN_iff.2 hc] at h; cases h
  cases f with
  | slot t s => exact holdsV_keep hv hη hm h
  | cell k off s =>
    simp only [Fact.ment, Bool.or_eq_false_iff] at hm
    obtain ⟨b, c, cur, el, v, e0, e1, e2, e3, e4, e5⟩ := h
    exact ⟨b, c, cur, el, v, e0, (hη k (nm hm.1)).trans e1, e2, e3, e4, holds1_keep hv hη hm.2 e5⟩
  | row k el e xs =>
    rcases h with ⟨e1, e2⟩ | ⟨b, c, cur, e0, e1, e2, e3⟩
    · exact .inl ⟨(hη k (nm hm)).trans e1, e2⟩
    · exact .inr ⟨b, c, cur, e0, (hη k (nm hm)).trans e1, e2, e3.mono hv⟩
  | ob k i =>
    obtain ⟨b, c, o, e1, e2⟩ := h
    exact ⟨b, c, o, (hη k (nm hm)).trans e1, e2⟩

/-! ### Freezing -/

theorem frz1_holds {η : Eta} (g : Good E nt η a w) {k el : Nat} {e : Ty} {xs : List e.Den} (hrow : Fact.holds E η a w (.row k el e xs)) {s : S1} {v : Value} (h : holds1 (vw E η w) η s v)
    (hp : s.ment [k] = true → s.frzP k xs.length) (hm : (s.frz k e xs).ment [k] = false) : holds1 (vw E (etaDrop η k) w) (etaDrop η k) (s.frz k e xs) v := by
  obtain ⟨_, hv⟩ := etaDrop_good g k
  cases s with
  | o k' n =>
    simp only [S1.frz] at hm ⊢
    cases hb : Nat.beq k' k with
    | false =>
      rw [hb] at hm
      simp only [cond_false] at hm ⊢
      exact holds1_keep (ks := [k]) hv (fun j hj => etaDrop_other hj) hm h
    | true =>
      have hk := Nat.eq_of_beq_eq_true hb
      subst hk
      have hn : n = xs.length := by
        have := hp (by simp [S1.ment, memN])
        simpa [S1.frzP] using this
      simp only [cond_true]
      rcases h with ⟨h1, h2, rfl⟩ | ⟨b, c, h1, rfl, h3⟩
      · have : xs = [] := List.eq_nil_of_length_eq_zero (by omega)
        rw [this]
        exact RepV.mk1 rfl (rep_nil e)
      · rcases hrow with ⟨h4, _⟩ | ⟨b', c', cur, q0, q1, q2, q3⟩
        · rw [h1] at h4; cases h4
        · rw [h1] at q1
          simp only [Option.some.injEq, Prod.mk.injEq] at q1
          obtain ⟨rfl, rfl⟩ := q1
          have hV : vw E (etaDrop η k') w b cur := by
            refine ⟨fun hM => ?_, fun j m hj => ?_, el, (0, 0), q2⟩
            · have := g.old b hM; omega
            · unfold etaDrop at hj
              split at hj
              · cases hj
              · rename_i hne
                exact hne (g.inj j k' b m c hj h1)
          refine RepV.mk1 rfl ⟨some ⟨b, 0, none⟩, c, by rw [hn], by rw [← hn]; exact h3, q3.2.2.1, fun h => (by cases h), fun ad had hne => ?_⟩
          simp only [Option.some.injEq] at had
          subst had
          refine ⟨rfl, cur, hV, ?_, fun i x hx => ?_⟩
          · simp only [Nat.zero_add]
            rw [q3.1]; exact Nat.mul_le_mul_right _ q3.2.1
          · simp only [Nat.zero_add]
            exact Rep.mono hv _ _ _ (q3.2.2.2 i x hx)
  | d t x => exact holds1_keep (ks := [k]) hv (fun j hj => etaDrop_other hj) hm h
  | lb b => exact h
  | v x => exact h
  | p j off => exact holds1_keep (ks := [k]) hv (fun j hj => etaDrop_other hj) hm h
  | pd t x => exact holds1_keep (ks := [k]) hv (fun j hj => etaDrop_other hj) hm h
  | pr j i sz => exact holds1_keep (ks := [k]) hv (fun j hj => etaDrop_other hj) hm h

theorem frzC_holds {η : Eta} (g : Good E nt η a w) {k el : Nat} {e : Ty} {xs : List e.Den} (hrow : Fact.holds E η a w (.row k el e xs)) : ∀ {cs : List S1} {vs : List Value}, holdsC (vw E η w) η cs vs →
    (anyS (S1.ment [k]) cs = true → frzLP k xs.length cs) → anyS (S1.ment [k]) (frzL k e xs cs) = false → holdsC (vw E (etaDrop η k) w) (etaDrop η k) (frzL k e xs cs) vs
  | [], [], _, _, _ => trivial
  | [], _ :: _, h, _, _ => h.elim
  | _ :: _, [], h, _, _ => h.elim
  | s :: r, v :: l, ⟨h1, h2, h3⟩, hp, hm => by
    simp only [frzL, anyS, Bool.or_eq_false_iff] at hm
    refine ⟨frz1_holds g hrow h1 (fun hs => (hp (by simp [anyS, hs])).1) hm.1, h2, frzC_holds g hrow h3 (fun hs => (hp (by simp [anyS, hs])).2) hm.2⟩

theorem frzL_holds {η : Eta} (g : Good E nt η a w) {k el : Nat} {e : Ty} {xs : List e.Den} (hrow : Fact.holds E η a w (.row k el e xs)) : ∀ {cs : List S1} {vs : List Value}, holdsL (vw E η w) η cs vs →
    (anyS (S1.ment [k]) cs = true → frzLP k xs.length cs) → anyS (S1.ment [k]) (frzL k e xs cs) = false → holdsL (vw E (etaDrop η k) w) (etaDrop η k) (frzL k e xs cs) vs
  | [], [], _, _, _ => trivial
  | [], _ :: _, h, _, _ => h.elim
  | _ :: _, [], h, _, _ => h.elim
  | s :: r, v :: l, ⟨h1, h3⟩, hp, hm => by
    simp only [frzL, anyS, Bool.or_eq_false_iff] at hm
    exact ⟨frz1_holds g hrow h1 (fun hs => (hp (by simp [anyS, hs])).1) hm.1, frzL_holds g hrow h3 (fun hs => (hp (by simp [anyS, hs])).2) hm.2⟩

theorem frzV_holds {η : Eta} (g : Good E nt η a w) {k el : Nat} {e : Ty} {xs : List e.Den} (hrow : Fact.holds E η a w (.row k el e xs)) {s : SV} {v : Value} (h : holdsV (vw E η w) η s v)
    (hp : s.ment [k] = true → s.frzP k xs.length) (hm : (s.frz k e xs).ment [k] = false) : holdsV (vw E (etaDrop η k) w) (etaDrop η k) (s.frz k e xs) v := by
  cases s with
  | one s => exact frz1_holds g hrow h hp hm
  | agg cs => obtain ⟨vs, rfl, hc⟩ := h; exact ⟨vs, rfl, frzC_holds g hrow hc hp hm⟩
  | tup cs => obtain ⟨vs, rfl, hc⟩ := h; exact ⟨vs, rfl, frzL_holds g hrow hc hp hm⟩

theorem frzF_holds {η : Eta} (g : Good E nt η a w) {k el : Nat} {e : Ty} {xs : List e.Den} (hrow : Fact.holds E η a w (.row k el e xs)) {f : Fact} (h : f.holds E η a w)
    (hp : f.ment [k] = true → f.frzP k xs.length) (hm : (f.frz k e xs).ment [k] = false) : (f.frz k e xs).holds E (etaDrop η k) a w := by
  obtain ⟨_, hv⟩ := etaDrop_good g k
  cases f with
  | slot t s => exact frzV_holds g hrow h hp hm
  | cell j off s =>
    simp only [Fact.frz, Fact.ment, Bool.or_eq_false_iff] at hm
    have hj : j ∉ [k] := fun hc => by rw [memN_iff.2 hc] at hm; cases hm.1
    obtain ⟨b, c, cur, el', v, e0, e1, e2, e3, e4, e5⟩ := h
    exact ⟨b, c, cur, el', v, e0, (etaDrop_other hj).trans e1, e2, e3, e4, frz1_holds g hrow e5 (fun hs => hp (by simp [Fact.ment, hs])) hm.2⟩
  | row j el' e' ys => exact Fact.keep (ks := [k]) hv (fun j hj => etaDrop_other hj) hm h
  | ob j i => exact Fact.keep (ks := [k]) hv (fun j hj => etaDrop_other hj) hm h

theorem mem_frzSt {k : Nat} {e : Ty} {xs : List e.Den} {f : Fact} : ∀ {st : St}, f ∈ frzSt k e xs st → ∃ q ∈ st, f = q.frz k e xs ∧ f.ment [k] = false
  | [], h => by simp [frzSt] at h
  | q :: r, h => by
    simp only [frzSt] at h
    cases hm : (q.frz k e xs).ment [k] with
    | true =>
      rw [hm] at h
      obtain ⟨q', h1, h2⟩ := mem_frzSt (st := r) h
      exact ⟨q', List.mem_cons_of_mem _ h1, h2⟩
    | false =>
      rw [hm] at h
      rcases List.mem_cons.1 h with rfl | h
      · exact ⟨q, List.mem_cons_self, rfl, hm⟩
      · obtain ⟨q', h1, h2⟩ := mem_frzSt (st := r) h
        exact ⟨q', List.mem_cons_of_mem _ h1, h2⟩

theorem frzStP_mem {k len : Nat} : ∀ {st : St}, frzStP k len st → ∀ q ∈ st, q.ment [k] = true → q.frzP k len
  | f :: r, h, q, hq, hm => by
    simp only [frzStP] at h
    rcases List.mem_cons.1 hq with rfl | hq
    · rw [hm] at h; exact h.1
    · cases hf : f.ment [k] with
      | true => rw [hf] at h; exact frzStP_mem h.2 q hq hm
      | false => rw [hf] at h; exact frzStP_mem h q hq hm

theorem freeze_sound {k : Nat} {st st' : St} {p : Prop} (h : freeze k st = some (p, st')) (hp : p) (hR : RelS E nt st a w) : RelS E nt st' a w := by
  unfold freeze at h
  split at h
  case h_2 => cases h
  case h_1 r hr =>
    simp only [Option.some.injEq, Prod.mk.injEq] at h
    obtain ⟨h1, h2⟩ := h
    rw [← h1] at hp
    subst h2
    obtain ⟨η, g, H⟩ := hR
    have hrow := H _ (findRow_mem hr)
    refine ⟨etaDrop η k, (etaDrop_good g k).1, fun f hf => ?_⟩
    obtain ⟨q, q1, rfl, q3⟩ := mem_frzSt hf
    exact frzF_holds g hrow (H q q1) (fun hm => frzStP_mem hp q q1 hm) q3

theorem freezes_sound : ∀ {ks : List Nat} {st st' : St} {p : OP}, freezes ks st = some (p, st') → p.hold → RelS E nt st a w → RelS E nt st' a w
  | [], st, st', p, h, _, hR => by simp only [freezes, Option.some.injEq, Prod.mk.injEq] at h; rw [← h.2]; exact hR
  | k :: r, st, st', p, h, hp, hR => by
    simp only [freezes] at h
    split at h
    case h_2 => exact freezes_sound h hp hR
    case h_1 q st1 hf =>
      split at h
      case h_3 => cases h
      case h_1 st2 hs =>
        simp only [Option.some.injEq, Prod.mk.injEq] at h
        obtain ⟨h1, h2⟩ := h
        rw [← h1] at hp
        subst h2
        exact freezes_sound hs trivial (freeze_sound hf hp hR)
      case h_2 q2 st2 hs =>
        simp only [Option.some.injEq, Prod.mk.injEq] at h
        obtain ⟨h1, h2⟩ := h
        rw [← h1] at hp
        subst h2
        exact freezes_sound hs hp.2 (freeze_sound hf hp.1 hR)

/-! ### Renaming, nil slices -/

def etaRen (η : Eta) (k k' : Nat) : Eta := fun j => if j = k' then η k else if j = k then none else η j

theorem etaRen_good {η : Eta} (g : Good E nt η a w) {k k' : Nat} : Good E nt (etaRen η k k') a w ∧ ∀ b c, vw E η w b c → vw E (etaRen η k k') w b c := by
  refine reeta g (fun j b c h => ?_) (fun j j' b c c' h h' => ?_)
  · unfold etaRen at h
    split at h
    · exact ⟨k, h⟩
    · split at h
      · cases h
      · exact ⟨j, h⟩
  · unfold etaRen at h h'
    by_cases e1 : j = k'
    · by_cases e2 : j' = k'
      · omega
      · rw [if_pos e1] at h
        rw [if_neg e2] at h'
        split at h'
        · cases h'
        · rename_i e3
          exact absurd (g.inj k j' b c c' h h') (fun e => e3 e.symm)
    · rw [if_neg e1] at h
      split at h
      · cases h
      · rename_i e3
        by_cases e2 : j' = k'
        · rw [if_pos e2] at h'
          exact absurd (g.inj j k b c c' h h') e3
        · rw [if_neg e2] at h'
          split at h'
          · cases h'
          · exact g.inj j j' b c c' h h'

theorem etaRen_key {η : Eta} {k k' n : Nat} (hne : n ≠ k') : etaRen η k k' (renN k k' n) = η n := by
  unfold renN
  cases hb : Nat.beq n k with
  | true =>
    have := Nat.eq_of_beq_eq_true hb
    subst this
    simp [etaRen]
  | false =>
    have := Nat.ne_of_beq_eq_false hb
    simp [etaRen, hne, this]

theorem ren1_holds {η : Eta} {V V' : View} (hv : ∀ b c, V b c → V' b c) {k k' : Nat} {s : S1} {v : Value} (hm : s.ment [k'] = false) (h : holds1 V η s v) : holds1 V' (etaRen η k k') (s.ren k k') v := by
  have nm : ∀ {n}, memN n [k'] = false → n ≠ k' := fun h hc => by rw [hc] at h; simp [memN] at h
  cases s with
  | d t x => exact RepV.mono hv h
  | lb b => exact h
  | v x => exact h
  | p n off => simpa only [S1.ren, holds1, etaRen_key (nm hm)] using h
  | pd t x =>
    obtain ⟨ad, c, h1, h2, h3, h4, h5⟩ := h
    exact ⟨ad, c, h1, h2, hv _ _ h3, h4, Rep.mono hv _ _ _ h5⟩
  | pr n i sz => simpa only [S1.ren, holds1, etaRen_key (nm hm)] using h
  | o n m => simpa only [S1.ren, holds1, etaRen_key (nm hm)] using h

theorem renC_holds {η : Eta} {V V' : View} (hv : ∀ b c, V b c → V' b c) {k k' : Nat} : ∀ {cs : List S1} {vs : List Value}, anyS (S1.ment [k']) cs = false → holdsC V η cs vs → holdsC V' (etaRen η k k') (renL k k' cs) vs
  | [], [], _, _ => trivial
  | [], _ :: _, _, h => h.elim
  | _ :: _, [], _, h => h.elim
  | s :: r, v :: l, hm, ⟨h1, h2, h3⟩ => by
    simp only [anyS, Bool.or_eq_false_iff] at hm
    exact ⟨ren1_holds hv hm.1 h1, h2, renC_holds hv hm.2 h3⟩

theorem renL_holds {η : Eta} {V V' : View} (hv : ∀ b c, V b c → V' b c) {k k' : Nat} : ∀ {cs : List S1} {vs : List Value}, anyS (S1.ment [k']) cs = false → holdsL V η cs vs → holdsL V' (etaRen η k k') (renL k k' cs) vs
  | [], [], _, _ => trivial
  | [], _ :: _, _, h => h.elim
  | _ :: _, [], _, h => h.elim
  | s :: r, v :: l, hm, ⟨h1, h3⟩ => by
    simp only [anyS, Bool.or_eq_false_iff] at hm
    exact ⟨ren1_holds hv hm.1 h1, renL_holds hv hm.2 h3⟩

theorem renF_holds {η : Eta} (g : Good E nt η a w) {k k' : Nat} {f : Fact} (hm : f.ment [k'] = false) (h : f.holds E η a w) : (f.ren k k').holds E (etaRen η k k') a w := by
  have nm : ∀ {n}, memN n [k'] = false → n ≠ k' := fun h hc => by rw [hc] at h; simp [memN] at h
  obtain ⟨_, hv⟩ := etaRen_good g (k := k) (k' := k')
  cases f with
  | slot t s =>
    cases s with
    | one s => exact ren1_holds hv hm h
    | agg cs => obtain ⟨vs, e, hc⟩ := h; exact ⟨vs, e, renC_holds hv hm hc⟩
    | tup cs => obtain ⟨vs, e, hc⟩ := h; exact ⟨vs, e, renL_holds hv hm hc⟩
  | cell n off s =>
    simp only [Fact.ment, Bool.or_eq_false_iff] at hm
    obtain ⟨b, c, cur, el, v, e0, e1, e2, e3, e4, e5⟩ := h
    exact ⟨b, c, cur, el, v, e0, (etaRen_key (nm hm.1)).trans e1, e2, e3, e4, ren1_holds hv hm.2 e5⟩
  | row n el e xs =>
    rcases h with ⟨e1, e2⟩ | ⟨b, c, cur, e0, e1, e2, e3⟩
    · exact .inl ⟨(etaRen_key (nm hm)).trans e1, e2⟩
    · exact .inr ⟨b, c, cur, e0, (etaRen_key (nm hm)).trans e1, e2, e3.mono hv⟩
  | ob n i =>
    obtain ⟨b, c, o, e1, e2⟩ := h
    exact ⟨b, c, o, (etaRen_key (nm hm)).trans e1, e2⟩

theorem renSt_sound {k k' : Nat} {st : St} (hR : RelS E nt st a w) : RelS E nt (renSt k k' st) a w := by
  obtain ⟨η, g, H⟩ := hR
  refine ⟨etaRen η k k', (etaRen_good g).1, fun f hf => ?_⟩
  have key : ∀ (st : St), f ∈ renSt k k' st → ∃ q ∈ st, f = q.ren k k' ∧ q.ment [k'] = false := by
    intro st
    induction st with
    | nil => intro h; simp [renSt] at h
    | cons q r ih =>
      intro h
      simp only [renSt] at h
      cases hm : q.ment [k'] with
      | true => rw [hm] at h; obtain ⟨q', h1, h2⟩ := ih h; exact ⟨q', List.mem_cons_of_mem _ h1, h2⟩
      | false =>
        rw [hm] at h
        rcases List.mem_cons.1 h with h | h
        · exact ⟨q, List.mem_cons_self, h, hm⟩
        · obtain ⟨q', h1, h2⟩ := ih h; exact ⟨q', List.mem_cons_of_mem _ h1, h2⟩
  obtain ⟨q, h1, rfl, h3⟩ := key st hf
  exact renF_holds g h3 (H q h1)

theorem surv_ment {K : Kill} {f : Fact} (h : K.surv f = true) : f.ment K.keys = false := by
  cases f <;> simp only [Kill.surv, Bool.and_eq_true, Bool.not_eq_true'] at h <;> simp only [Fact.ment, Bool.or_eq_false_iff]
  · exact h.2
  · exact ⟨h.1.1.1.1, h.2⟩
  · exact h.1.1.1
  · exact h.1.1

theorem nilOwn_sound {t k el : Nat} {e : Ty} {st : St} {x : Value} (hs : findSlot t st = some (.one (.v x))) (hx : isNilSlice x = true) (hR : RelS E nt st a w) : RelS E nt (nilOwn t k el e st) a w := by
  obtain ⟨η, g, H⟩ := hR
  have hv := H _ (findSlot_mem hs)
  obtain ⟨g', hV⟩ := etaDrop_good g k
  refine ⟨etaDrop η k, g', fun f hf => ?_⟩
  simp only [nilOwn, List.mem_cons] at hf
  rcases hf with rfl | rfl | hf
  · have hv' : a.tmps.getD t undef = x := hv
    exact .inl ⟨by simp [etaDrop], rfl, by rw [hv', isNilSlice_eq hx]⟩
  · exact .inl ⟨by simp [etaDrop], rfl⟩
  · obtain ⟨h1, h2⟩ := mem_filt.1 hf
    exact Fact.keep (ks := [k]) hV (fun j hj => etaDrop_other hj) (surv_ment h2) (H f h1)

theorem nilOwnCell_sound {j off k el : Nat} {e : Ty} {st : St} {x : Value} (hjk : j ≠ k) (hs : findCell j off st = some (.v x)) (hx : isNilSlice x = true) (hR : RelS E nt st a w) : RelS E nt (nilOwnCell j off k el e st) a w := by
  obtain ⟨η, g, H⟩ := hR
  obtain ⟨b, c, cur, el', v, e0, e1, e2, e3, e4, e5⟩ := H _ (findCell_mem hs)
  obtain ⟨g', hV⟩ := etaDrop_good g k
  refine ⟨etaDrop η k, g', fun f hf => ?_⟩
  simp only [nilOwnCell, List.mem_cons] at hf
  rcases hf with rfl | rfl | hf
  · have hv' : v = x := e5
    exact ⟨b, c, cur, el', v, e0, (etaDrop_other (by simpa using hjk)).trans e1, e2, e3, e4, .inl ⟨by simp [etaDrop], rfl, by rw [hv', isNilSlice_eq hx]⟩⟩
  · exact .inl ⟨by simp [etaDrop], rfl⟩
  · obtain ⟨h1, h2⟩ := mem_filt.1 hf
    exact Fact.keep (ks := [k]) hV (fun j hj => etaDrop_other hj) (surv_ment h2) (H f h1)

theorem bif_ren {b : Bool} {st st2 st' : St} {p : Prop} (h : (bif b then some (True, st) else some (True, st2)) = some (p, st')) (h1 : RelS E nt st a w) (h2 : RelS E nt st2 a w) : RelS E nt st' a w := by
  cases b <;> simp only [cond_true, cond_false, Option.some.injEq, Prod.mk.injEq] at h <;> rw [← h.2] <;> assumption

theorem align1_sound {target : St} {f : Fact} {st st' : St} {p : Prop} (h : align1 target f st = some (p, st')) (hp : p) (hR : RelS E nt st a w) : RelS E nt st' a w := by
  unfold align1 at h
  split at h
  · split at h
    · exact bif_ren h hR (renSt_sound hR)
    · rename_i x hs
      cases hx : isNilSlice x with
      | false => rw [hx] at h; simp at h
      | true =>
        rw [hx] at h
        simp only [cond_true] at h
        split at h
        · simp only [Option.some.injEq, Prod.mk.injEq] at h; rw [← h.2]; exact nilOwn_sound hs hx hR
        · cases h
    · cases h
  · split at h
    · exact bif_ren h hR (renSt_sound hR)
    · cases h
  · split at h
    · exact freeze_sound h hp hR
    · simp only [Option.some.injEq, Prod.mk.injEq] at h; rw [← h.2]; exact hR
  · split at h
    · exact bif_ren h hR (renSt_sound hR)
    · rename_i x hs
      split at h
      · rename_i hx
        simp only [Bool.and_eq_true, Bool.not_eq_true'] at hx
        split at h
        · simp only [Option.some.injEq, Prod.mk.injEq] at h; rw [← h.2]; exact nilOwnCell_sound (Nat.ne_of_beq_eq_false hx.2) hs hx.1 hR
        · cases h
      · cases h
    · cases h
  · split at h
    · exact freeze_sound h hp hR
    · simp only [Option.some.injEq, Prod.mk.injEq] at h; rw [← h.2]; exact hR
  · simp only [Option.some.injEq, Prod.mk.injEq] at h; rw [← h.2]; exact hR

theorem align_sound {target : St} : ∀ {l : St} {st st' : St} {p : Prop}, align target l st = some (p, st') → p → RelS E nt st a w → RelS E nt st' a w
  | [], st, st', p, h, _, hR => by simp only [align, Option.some.injEq, Prod.mk.injEq] at h; rw [← h.2]; exact hR
  | f :: r, st, st', p, h, hp, hR => by
    simp only [align] at h
    split at h
    case h_2 => cases h
    case h_1 q st1 hf =>
      split at h
      case h_2 => cases h
      case h_1 q2 st2 hs =>
        simp only [Option.some.injEq, Prod.mk.injEq] at h
        obtain ⟨h1, h2⟩ := h
        rw [← h1] at hp
        subst h2
        exact align_sound hs hp.2 (align1_sound hf hp.1 hR)

/-! ### Entailment -/

theorem eqS1_sound {V : View} {η : Eta} {s' s : S1} {v : Value} (h : eqS1 s' s) (hs : holds1 V η s' v) : holds1 V η s v := by
  cases s with
  | d t x =>
    simp only [eqS1] at h
    split at h
    · rename_i y hy; have h := eqD_eq _ _ _ h; subst h; exact S1.den_sound hy hs
    · exact h.elim
  | lb b =>
    simp only [eqS1] at h
    split at h
    · subst h; exact hs
    · subst h
      obtain ⟨l, h1, ⟨h2, _⟩ | ⟨_, h2⟩⟩ := hs
      · cases h2
      · simp only [Rep] at h1; rw [h1] at h2; simp only [List.cons.injEq, and_true] at h2; exact h2.symm
    · exact h.elim
  | v x =>
    simp only [eqS1] at h
    split at h
    · subst h; exact hs
    · exact h.elim
  | p k off =>
    simp only [eqS1] at h
    split at h
    · rename_i k' off'
      cases hb : (Nat.beq k' k && Nat.beq off' off) with
      | false => rw [hb] at h; exact h.elim
      | true =>
        rw [Bool.and_eq_true] at hb
        have e1 := Nat.eq_of_beq_eq_true hb.1
        have e2 := Nat.eq_of_beq_eq_true hb.2
        subst e1; subst e2; exact hs
    · exact h.elim
  | pd t x =>
    simp only [eqS1] at h
    split at h
    · split at h
      · rename_i t' y z hz
        have h := eqD_eq _ _ _ h
        subst h
        obtain ⟨e, rfl⟩ := castD_eq hz
        subst e
        exact hs
      · exact h.elim
    · exact h.elim
  | pr k i sz =>
    simp only [eqS1] at h
    split at h
    · rename_i k' i' sz'
      cases hb : (Nat.beq k' k && Nat.beq sz' sz) with
      | false => rw [hb] at h; exact h.elim
      | true =>
        rw [hb] at h
        simp only [cond_true] at h
        rw [Bool.and_eq_true] at hb
        have e1 := Nat.eq_of_beq_eq_true hb.1
        have e2 := Nat.eq_of_beq_eq_true hb.2
        subst e1; subst e2; subst h; exact hs
    · exact h.elim
  | o k n =>
    simp only [eqS1] at h
    split at h
    · rename_i k' n'
      cases hb : Nat.beq k' k with
      | false => rw [hb] at h; exact h.elim
      | true =>
        rw [hb] at h
        simp only [cond_true] at h
        have e1 := Nat.eq_of_beq_eq_true hb
        subst e1; subst h; exact hs
    · exact h.elim

theorem eqL_C {V : View} {η : Eta} : ∀ {cs' cs : List S1} {vs : List Value}, eqL cs' cs → holdsC V η cs' vs → holdsC V η cs vs
  | [], [], [], _, _ => trivial
  | [], [], _ :: _, _, h => h.elim
  | _ :: _, [], _, h, _ => h.elim
  | [], _ :: _, _, h, _ => h.elim
  | _ :: _, _ :: _, [], _, h => h.elim
  | _ :: _, _ :: _, _ :: _, ⟨h1, h2⟩, ⟨g1, g2, g3⟩ => ⟨eqS1_sound h1 g1, g2, eqL_C h2 g3⟩

theorem eqL_L {V : View} {η : Eta} : ∀ {cs' cs : List S1} {vs : List Value}, eqL cs' cs → holdsL V η cs' vs → holdsL V η cs vs
  | [], [], [], _, _ => trivial
  | [], [], _ :: _, _, h => h.elim
  | _ :: _, [], _, h, _ => h.elim
  | [], _ :: _, _, h, _ => h.elim
  | _ :: _, _ :: _, [], _, h => h.elim
  | _ :: _, _ :: _, _ :: _, ⟨h1, h2⟩, ⟨g1, g3⟩ => ⟨eqS1_sound h1 g1, eqL_L h2 g3⟩

theorem eqSV_sound {V : View} {η : Eta} {s' s : SV} {v : Value} (h : eqSV s' s) (hs : holdsV V η s' v) : holdsV V η s v := by
  unfold eqSV at h
  split at h
  · split at h
    · rename_i y hy; have h := eqD_eq _ _ _ h; subst h; exact SV.den_sound hy hs
    · exact h.elim
  · split at h
    · exact eqS1_sound h hs
    · exact h.elim
  · split at h
    · obtain ⟨vs, e, hc⟩ := hs; exact ⟨vs, e, eqL_C h hc⟩
    · exact h.elim
  · split at h
    · obtain ⟨vs, e, hc⟩ := hs; exact ⟨vs, e, eqL_L h hc⟩
    · exact h.elim

theorem entF_sound {η : Eta} {st : St} (H : ∀ f ∈ st, Fact.holds E η a w f) {f : Fact} (h : entF st f) : f.holds E η a w := by
  cases f with
  | slot t s =>
    simp only [entF] at h
    split at h
    · rename_i s' hs'; exact eqSV_sound h (H _ (findSlot_mem hs'))
    · exact h.elim
  | cell k off s =>
    simp only [entF] at h
    split at h
    · rename_i s' hs'
      obtain ⟨b, c, cur, el, v, e0, e1, e2, e3, e4, e5⟩ := H _ (findCell_mem hs')
      exact ⟨b, c, cur, el, v, e0, e1, e2, e3, e4, eqS1_sound h e5⟩
    · exact h.elim
  | row k el e xs =>
    simp only [entF] at h
    split at h
    · rename_i r hr
      cases hb : Nat.beq r.el el with
      | false => rw [hb] at h; exact h.elim
      | true =>
        rw [hb] at h
        simp only [cond_true] at h
        split at h
        · rename_i ys hy
          subst h
          have hr' := H _ (findRow_mem hr)
          obtain ⟨hty, hz⟩ := castD_eq hy
          injection hty with hty
          obtain ⟨rel, re, rxs⟩ := r
          have e1 := Nat.eq_of_beq_eq_true hb
          simp only at hty hz e1 hr'
          subst hty
          subst e1
          simp only at hz
          subst hz
          exact hr'
        · exact h.elim
    · exact h.elim
  | ob k i =>
    simp only [entF] at h
    split at h
    · rename_i j hj
      cases hb : Nat.beq j i with
      | false => rw [hb] at h; exact h.elim
      | true =>
        have e1 := Nat.eq_of_beq_eq_true hb
        subst e1
        exact H _ (findOb_mem hj)
    · exact h.elim

theorem entL_sound {η : Eta} {st : St} (H : ∀ f ∈ st, Fact.holds E η a w f) : ∀ {target : St}, entL st target → ∀ f ∈ target, f.holds E η a w
  | f :: r, h, q, hq => by
    rcases List.mem_cons.1 hq with rfl | hq
    · exact entF_sound H h.1
    · exact entL_sound H h.2 q hq

theorem ent_sound {st target : St} (h : ent st target) (hR : RelS E nt st a w) : RelS E nt target a w := by
  unfold ent at h
  split at h
  · rename_i p st1 hs
    have h := h.out
    obtain ⟨η, g, H⟩ := align_sound hs h.1 hR
    exact ⟨η, g, fun f hf => entL_sound H h.2 f hf⟩
  · exact h.elim

end
end Go.Eng
