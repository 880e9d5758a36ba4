/- What an effect of the symbolic executor says of the model's run, contracts of functions, and that an effect carries the relation on. Conditions: none beyond each lemma's own. -/
import Derived.Test.YtimkbccpbjabiaaE3
set_option linter.all false
namespace Go.Eng

/-! ### Contracts -/

def retVal : List Value → Value
  | [v] => v
  | l => .tuple l.toArray

structure CPost (OB : Nat → Obj → Prop) (w w' : World) (bs : List Nat) : Prop where
  os : w'.os = w.os
  tape : w'.tape = w.tape
  output : w'.output = w.output
  size : w.heap.size ≤ w'.heap.size
  keep : ∀ b, b < w.heap.size → b ∉ bs → w'.heap[b]? = w.heap[b]?
  obk : ∀ b ∈ bs, ∀ i o, w.heap[b]? = some o → OB i o → ∃ o', w'.heap[b]? = some o' ∧ OB i o'

def ResOK (w' : World) (V : View) (B : Nat) : (cs : List RC) → (resTy cs).Den → List Value → Option Nat → Prop
  | [], _, vs, g => vs = [] ∧ g = none
  | { own := none, t := t } :: r, x, vs, g => ∃ v vs', vs = v :: vs' ∧ RepV V t x.1 v ∧ ResOK w' V B r x.2 vs' g
  | { own := some el, t := .sl e } :: r, x, vs, g => ∃ v vs', vs = v :: vs' ∧ ResOK w' V B r x.2 vs' none ∧
      ((x.1 = [] ∧ v = .slice none 0 0 ∧ g = none) ∨ ∃ b c cur, g = some b ∧ v = .slice (some ⟨b, 0, none⟩) (List.length (α := e.Den) x.1) c ∧ B ≤ b ∧
        w'.heap[b]? = some (.cells cur el (0, 0)) ∧ RowIn V e x.1 c cur)
  | { own := some _, t := t } :: r, x, vs, g => ∃ v vs', vs = v :: vs' ∧ RepV V t x.1 v ∧ ResOK w' V B r x.2 vs' g

def ArgsOK (OB : Nat → Obj → Prop) (w : World) (M : Nat → Prop) : (ps : List Pat) → (argTy ps).Den → List Value → List Nat → Prop
  | [], _, vs, bs => vs = [] ∧ bs = []
  | .dat t :: r, x, vs, bs => ∃ v vs', vs = v :: vs' ∧ RepV (fun b c => ¬ M b ∧ ∃ el f, w.heap[b]? = some (.cells c el f)) t x.1 v ∧ ArgsOK OB w M r x.2 vs' bs
  | .lit y :: r, x, vs, bs => ∃ vs', vs = y :: vs' ∧ ArgsOK OB w M r x vs' bs
  | .ob i :: r, x, vs, bs => ∃ b o vs' bs', vs = .pointer (some ⟨b, 0, none⟩) :: vs' ∧ bs = b :: bs' ∧ M b ∧ w.heap[b]? = some o ∧ OB i o ∧ ArgsOK OB w M r x vs' bs'

def Holds (P : Program) (OB : Nat → Obj → Prop) (f : Nat) (sp : Spec) : Prop :=
  ∀ (w : World) (M : Nat → Prop) (x : (argTy sp.pats).Den) (vs : List Value) (bs : List Nat),
    (∀ b, M b → b < w.heap.size) → ArgsOK OB w M sp.pats x vs bs → sp.pre x →
    Calls P f vs.toArray w fun e w' => ∃ rs g, e = .returned (retVal rs) ∧ CPost OB w w' bs ∧
      ResOK w' (fun b c => ¬ M b ∧ g ≠ some b ∧ ∃ el f, w'.heap[b]? = some (.cells c el f)) w.heap.size sp.res (sp.f x) rs g

def ownKey : Value → Option (Nat × Nat)
  | .slice (some ad) _ c => some (ad.block, c)
  | _ => none

def findKey (d : Nat) : List RC → List Value → Nat → Nat → Option (Option (Nat × Nat))
  | { own := some _, t := .sl _ } :: r, v :: vs, j, k => if k = d + 100000 * j then some (ownKey v) else findKey d r vs (j + 1) k
  | _ :: r, _ :: vs, j, k => findKey d r vs (j + 1) k
  | _, _, _, _ => none

theorem findKey_other {d : Nat} : ∀ (cs : List RC) (x : (resTy cs).Den) (vs : List Value) (j k : Nat), k ∉ (resS1 d cs x j).2.2 → findKey d cs vs j k = none
  | [], _, vs, j, k, _ => by simp [findKey]
  | c :: r, x, [], j, k, _ => by cases c with | mk o t => cases o <;> cases t <;> simp [findKey]
  | c :: r, x, v :: vs, j, k, h => by
    have ih := findKey_other (d := d) r x.2 vs (j + 1) k
    cases c with
    | mk o t =>
      cases o with
      | none => simp only [resS1] at h; simp only [findKey]; exact ih h
      | some el =>
        cases t <;> simp only [resS1] at h <;> simp only [findKey]
        case sl e =>
          simp only [List.mem_cons, not_or] at h
          rw [if_neg h.1]; exact ih h.2
        all_goals exact ih h

theorem findKey_ge {d : Nat} : ∀ (cs : List RC) (vs : List Value) (j k : Nat) (r : Option (Nat × Nat)), findKey d cs vs j k = some r → d + 100000 * j ≤ k
  | [], vs, j, k, r, h => by simp [findKey] at h
  | c :: cs, [], j, k, r, h => by cases c with | mk o t => cases o <;> cases t <;> simp [findKey] at h
  | c :: cs, v :: vs, j, k, r, h => by
    have ih := findKey_ge (d := d) cs vs (j + 1) k r
    cases c with
    | mk o t =>
      cases o with
      | none => simp only [findKey] at h; have := ih h; omega
      | some el =>
        cases t <;> simp only [findKey] at h
        case sl e =>
          split at h
          · omega
          · have := ih h; omega
        all_goals (have := ih h; omega)

/-- Where a key of a result is, it is the one block of new memory. -/
theorem findKey_block {d : Nat} {w' : World} {V : View} {B : Nat} : ∀ (cs : List RC) (x : (resTy cs).Den) (vs : List Value) (j k : Nat) (g : Option Nat) (b c : Nat),
    ResOK w' V B cs x vs g → findKey d cs vs j k = some (some (b, c)) → g = some b ∧ B ≤ b ∧ b < w'.heap.size
  | [], _, vs, j, k, g, b, c, _, h => by simp [findKey] at h
  | rc :: cs, x, vs, j, k, g, b, c, H, h => by
    have ih := fun vs g => findKey_block (d := d) (w' := w') (V := V) (B := B) cs x.2 vs (j + 1) k g b c
    cases rc with
    | mk o t =>
      cases o with
      | none =>
        obtain ⟨v, vs', rfl, _, H⟩ := H
        simp only [findKey] at h
        exact ih _ _ H h
      | some el =>
        cases t
        case sl e =>
          obtain ⟨v, vs', rfl, H, hv⟩ := H
          simp only [findKey] at h
          split at h
          · rcases hv with ⟨_, rfl, rfl⟩ | ⟨b', c', cur, rfl, rfl, h1, h2, h3⟩
            · simp [ownKey] at h
            · simp only [ownKey, Option.some.injEq, Prod.mk.injEq] at h
              obtain ⟨rfl, rfl⟩ := h
              exact ⟨rfl, h1, lt_of_heap h2⟩
          · have := ih _ _ H h
            simp at this
        all_goals
          obtain ⟨v, vs', rfl, _, H⟩ := H
          simp only [findKey] at h
          exact ih _ _ H h

theorem findKey_inj {d : Nat} {w' : World} {V : View} {B : Nat} : ∀ (cs : List RC) (x : (resTy cs).Den) (vs : List Value) (j k k' : Nat) (g : Option Nat) (b c b' c' : Nat),
    ResOK w' V B cs x vs g → findKey d cs vs j k = some (some (b, c)) → findKey d cs vs j k' = some (some (b', c')) → k = k'
  | [], _, vs, j, k, k', g, b, c, b', c', _, h, _ => by simp [findKey] at h
  | rc :: cs, x, vs, j, k, k', g, b, c, b', c', H, h, h' => by
    have ih := fun vs g => findKey_inj (d := d) (w' := w') (V := V) (B := B) cs x.2 vs (j + 1) k k' g b c b' c'
    cases rc with
    | mk o t =>
      cases o with
      | none =>
        obtain ⟨v, vs', rfl, _, H⟩ := H
        simp only [findKey] at h h'
        exact ih _ _ H h h'
      | some el =>
        cases t
        case sl e =>
          obtain ⟨v, vs', rfl, H, hv⟩ := H
          simp only [findKey] at h h'
          split at h <;> split at h'
          · omega
          · have := findKey_block cs x.2 vs' (j + 1) k' none b' c' H h'
            simp at this
          · have := findKey_block cs x.2 vs' (j + 1) k none b c H h
            simp at this
          · exact ih _ _ H h h'
        all_goals
          obtain ⟨v, vs', rfl, _, H⟩ := H
          simp only [findKey] at h h'
          exact ih _ _ H h h'

/-- The results, in a state whose keys are those of the results. -/
theorem res_holds {E : Env} {d : Nat} {w' : World} {V : View} {B : Nat} {η' : Eta} {a' : Act} (hlow : E.w0.heap.size ≤ B) (hV : ∀ b c, V b c → vw E η' w' b c) :
    ∀ (cs : List RC) (x : (resTy cs).Den) (vs : List Value) (j : Nat) (g : Option Nat), ResOK w' V B cs x vs g →
      (∀ k r, findKey d cs vs j k = some r → η' k = r) →
      holdsL (vw E η' w') η' (resS1 d cs x j).1 vs ∧ ∀ f ∈ (resS1 d cs x j).2.1, f.holds E η' a' w'
  | [], _, vs, j, g, H, _ => by
    obtain ⟨rfl, rfl⟩ := H
    exact ⟨trivial, fun f hf => by simp [resS1] at hf⟩
  | rc :: cs, x, vs, j, g, H, hk => by
    cases rc with
    | mk o t =>
      cases o with
      | none =>
        obtain ⟨v, vs', rfl, h1, H⟩ := H
        have ih := res_holds (d := d) (a' := a') hlow hV cs x.2 vs' (j + 1) _ H (fun k r h => hk k r (by simpa only [findKey] using h))
        exact ⟨⟨RepV.mono hV h1, ih.1⟩, ih.2⟩
      | some el =>
        cases t
        case sl e =>
          obtain ⟨v, vs', rfl, H, hv⟩ := H
          have ih := res_holds (d := d) (a' := a') hlow hV cs x.2 vs' (j + 1) _ H (fun k r h => hk k r (by
            have hge := findKey_ge _ _ _ _ _ h
            simp only [findKey]
            have hne : ¬ k = d + 100000 * j := by omega
            rw [if_neg hne]; exact h))
          have hkey : η' (d + 100000 * j) = ownKey v := hk _ _ (by simp [findKey])
          rcases hv with ⟨e1, rfl, rfl⟩ | ⟨b, c, cur, rfl, rfl, h1, h2, h3⟩
          · refine ⟨⟨.inl ⟨hkey, by rw [e1]; rfl, rfl⟩, ih.1⟩, fun f hf => ?_⟩
            simp only [resS1, List.mem_cons] at hf
            rcases hf with rfl | hf
            · exact .inl ⟨hkey, e1⟩
            · exact ih.2 f hf
          · refine ⟨⟨.inr ⟨b, c, hkey, rfl, h3.2.1⟩, ih.1⟩, fun f hf => ?_⟩
            simp only [resS1, List.mem_cons] at hf
            rcases hf with rfl | hf
            · exact .inr ⟨b, c, cur, by omega, hkey, h2, h3.mono hV⟩
            · exact ih.2 f hf
        all_goals
          obtain ⟨v, vs', rfl, h1, H⟩ := H
          have ih := res_holds (d := d) (a' := a') hlow hV cs x.2 vs' (j + 1) _ H (fun k r h => hk k r (by simpa only [findKey] using h))
          exact ⟨⟨RepV.mono hV h1, ih.1⟩, ih.2⟩

theorem holds_oneOrTup {V : View} {η : Eta} {ss : List S1} {vs : List Value} (h : holdsL V η ss vs) : holdsV V η (oneOrTup ss) (retVal vs) := by
  match ss, vs, h with
  | [], [], _ => exact ⟨[], rfl, trivial⟩
  | [s], [v], h => exact h.1
  | s :: s' :: r, v :: v' :: l, h => exact ⟨_, rfl, h⟩
  | [], _ :: _, h => exact h.elim
  | [_], [], h => exact h.elim
  | _ :: _ :: _, [], h => exact h.elim
  | [_], _ :: _ :: _, h => exact h.2.elim
  | _ :: _ :: _, [_], h => exact h.2.elim

/-! ### What an effect says of the model's run -/

def AppOK (E : Env) (η : Eta) (w : World) (k : Option Nat) (el : Nat) (e : Ty) (xs : List e.Den) (v : Value) (w' : World) : Prop :=
  (xs = [] ∧ v = .slice none 0 0 ∧ w' = w) ∨
  (∃ (c : Nat) (cur : Array Value) (wd : World), v = .slice (some ⟨w.heap.size, 0, none⟩) xs.length c ∧ w' = wd.alloc (.cells cur el) ∧ wd.heap = w.heap ∧ wd.os = w.os ∧ wd.tape = w.tape ∧ wd.output = w.output ∧
    RowIn (vw E η w) e xs c cur) ∨
  (∃ kk b c cur cur', k = some kk ∧ η kk = some (b, c) ∧ E.w0.heap.size ≤ b ∧ w.heap[b]? = some (.cells cur el (0, 0)) ∧ v = .slice (some ⟨b, 0, none⟩) xs.length c ∧
    w' = w.setRow b cur' ∧ RowIn (vw E η w) e xs c cur')

def EffSem (E : Env) (η : Eta) (a : Act) (w : World) (o : Oper) : Eff → Prop
  | .val ob s => ob.hold → ∃ v, (execOp a.eval o).run E.P w = .ok (.value v) w ∧ holdsV (vw E η w) η s v
  | .new el cs => ∃ vs : List Value, (execOp a.eval o).run E.P w = .ok (.value (.pointer (some ⟨w.heap.size, 0, none⟩))) (w.alloc (.cells vs.toArray el)) ∧ holdsC (vw E η w) η cs vs
  | .newob el i => ∃ cur, (execOp a.eval o).run E.P w = .ok (.value (.pointer (some ⟨w.heap.size, 0, none⟩))) (w.alloc (.cells cur el)) ∧ E.OB i (.cells cur el)
  | .newrow ob el e xs => ob.hold → ∃ c cur, (execOp a.eval o).run E.P w = .ok (.value (.slice (some ⟨w.heap.size, 0, none⟩) xs.length c)) (w.alloc (.cells cur el)) ∧ RowIn (vw E η w) e xs c cur
  | .st k off cs => ∃ vs b c cur el, η k = some (b, c) ∧ E.w0.heap.size ≤ b ∧ w.heap[b]? = some (.cells cur el (0, 0)) ∧ off + vs.length ≤ cur.size ∧ holdsC (vw E η w) η cs vs ∧
      (execOp a.eval o).run E.P w = .ok .skip (w.setRow b (cur.toList.take off ++ vs ++ cur.toList.drop (off + vs.length)).toArray)
  | .strow ob k el e xs => ob.hold → ∃ b c cur cur', η k = some (b, c) ∧ E.w0.heap.size ≤ b ∧ w.heap[b]? = some (.cells cur el (0, 0)) ∧ RowIn (vw E η w) e xs c cur' ∧
      (execOp a.eval o).run E.P w = .ok .skip (w.setRow b cur')
  | .app ob k el e xs => ob.hold → ∃ v w', (execOp a.eval o).run E.P w = .ok (.value v) w' ∧ AppOK E η w k el e xs v w'
  | .call ob oks cs x => ob.hold → ∃ f args bs, (execOp a.eval o).run E.P w = .ok (.enter f args) w ∧ (∀ b ∈ bs, ∃ k c, k ∈ oks ∧ η k = some (b, c)) ∧
      Calls E.P f args w fun e w' => ∃ rs g, e = .returned (retVal rs) ∧ CPost E.OB w w' bs ∧
        ResOK w' (fun b c => ¬ (E.M b ∨ ∃ k n, η k = some (b, n)) ∧ g ≠ some b ∧ ∃ el f, w'.heap[b]? = some (.cells c el f)) w.heap.size cs x rs g

section
variable {E : Env} {nt : Nat} {η : Eta} {F : Fact → Prop} {a : Act} {w : World}

theorem anyS_nil : ∀ (cs : List S1), anyS (S1.ment []) cs = false
  | [] => rfl
  | s :: r => by rw [anyS, Bool.or_eq_false_iff]; exact ⟨by cases s <;> rfl, anyS_nil r⟩

theorem mem_cellLocs {k off : Nat} : ∀ {cs : List S1} {o : Nat}, (k, off) ∈ cellLocs k o cs ↔ o ≤ off ∧ off < o + cs.length
  | [], o => by (simp [cellLocs]) <;> omega
  | s :: r, o => by
    simp only [cellLocs, List.mem_cons, Prod.mk.injEq, true_and, mem_cellLocs (cs := r), List.length_cons]
    omega

theorem st_rel (g : Good E nt η a w) (H : ∀ f, F f → f.holds E η a w) {k b c off : Nat} {cs : List S1} {vs : List Value} {cur : Array Value} {el : Nat}
    (hk : η k = some (b, c)) (hlow : E.w0.heap.size ≤ b) (hb : w.heap[b]? = some (.cells cur el (0, 0))) (hsz : off + vs.length ≤ cur.size) (hc : holdsC (vw E η w) η cs vs) :
    Rel E nt (upd F (cellFacts k off cs) { cells := cellLocs k off cs, rows := [k] }) a (w.setRow b (cur.toList.take off ++ vs ++ cur.toList.drop (off + vs.length)).toArray) := by
  have hlen := holdsC_length hc
  have hget : ∀ j, (cur.toList.take off ++ vs ++ cur.toList.drop (off + vs.length)).toArray[j]? = if j < off then cur[j]? else if j < off + vs.length then vs[j - off]? else cur[j]? := by
    intro j
    have hl1 : (cur.toList.take off).length = off := by simp; omega
    simp only [List.getElem?_toArray]
    by_cases h1 : j < off
    · rw [if_pos h1, List.append_assoc, List.getElem?_append_left (by omega), List.getElem?_take]
      simp [h1]
    · rw [if_neg h1]
      by_cases h2 : j < off + vs.length
      · rw [if_pos h2, List.getElem?_append_left (by simp; omega), List.getElem?_append_right (by omega), hl1]
      · rw [if_neg h2, List.getElem?_append_right (by simp; omega)]
        simp only [List.length_append, hl1, List.getElem?_drop, Array.getElem?_toList]
        congr 1; omega
  have hK := set_keeps g hk hb (cur' := (cur.toList.take off ++ vs ++ cur.toList.drop (off + vs.length)).toArray) { cells := cellLocs k off cs, rows := [k] }
    (fun j v _ _ h3 h4 => by
      rw [hget]
      rw [mem_cellLocs] at h3
      by_cases h1 : j < off
      · rw [if_pos h1]; exact h4
      · rw [if_neg h1, if_neg (by omega)]; exact h4) (.inl (by simp))
  refine ⟨η, set_good g _ hlow, fun f hf => ?_⟩
  rcases hf with hf | ⟨hf, hs⟩
  · obtain ⟨i, s, h1, rfl⟩ := mem_cellFacts hf
    have hc' : holdsC (vw E η (w.setRow b _)) η cs vs := holdsC_keep (ks := []) hK.view (fun _ _ => rfl) (anyS_nil cs) hc
    obtain ⟨v, h2, h3, h4⟩ := holdsC_get hc' i s h1
    have hi : i < vs.length := (List.getElem?_eq_some_iff.1 h2).1
    refine ⟨b, c, _, el, v, hlow, hk, setRow_heap w b cur _ el (0, 0) hb, ?_, h3, h4⟩
    rw [hget, if_neg (by omega), if_pos (by omega)]
    simpa using h2
  · exact hK.fact hs (H f hf)

theorem strow_rel (g : Good E nt η a w) (H : ∀ f, F f → f.holds E η a w) {k b c : Nat} {e : Ty} {xs : List e.Den} {cur cur' : Array Value} {el : Nat}
    (hk : η k = some (b, c)) (hlow : E.w0.heap.size ≤ b) (hb : w.heap[b]? = some (.cells cur el (0, 0))) (hr : RowIn (vw E η w) e xs c cur') :
    Rel E nt (upd F [.row k el e xs] { allof := [k] }) a (w.setRow b cur') := by
  have hK := set_keeps g hk hb (cur' := cur') { allof := [k] } (fun j v _ h2 _ _ => absurd (by simp) h2) (.inr (.inl (by simp)))
  refine ⟨η, set_good g _ hlow, fun f hf => ?_⟩
  rcases hf with hf | ⟨hf, hs⟩
  · simp only [List.mem_singleton] at hf
    subst hf
    exact .inr ⟨b, c, cur', hlow, hk, setRow_heap w b cur _ el (0, 0) hb, hr.mono hK.view⟩
  · exact hK.fact hs (H f hf)

end
end Go.Eng
