/- An append and a call carry the relation on; with that, every effect of the symbolic executor does. Conditions: none beyond each lemma's own. -/
import Derived.Test.YtimkbccpbjabiaaE4
set_option linter.all false
namespace Go.Eng

section
variable {E : Env} {nt : Nat} {η : Eta} {F : Fact → Prop} {a : Act} {w : World}

theorem app_rel (g : Good E nt η a w) (H : ∀ f, F f → f.holds E η a w) {d : Nat} (hd : d < nt) {k : Option Nat} {el : Nat} {e : Ty} {xs : List e.Den} {v : Value} {w' : World}
    (h : AppOK E η w k el e xs v w') (K : Kill) (hKs : d ∈ K.slots) (hKk : d ∈ K.keys) (hKo : ∀ kk, k = some kk → kk ∈ K.keys) :
    Rel E nt (upd F [.slot d (.one (.o d xs.length)), .row d el e xs] K) (a.put (some d) v) w' := by
  rcases h with ⟨rfl, rfl, hw⟩ | ⟨c, cur, wd, rfl, rfl, h1, h2, h3, h4, hr⟩ | ⟨kk, b, c, cur, cur', rfl, hk, hlow, hb, rfl, rfl, hr⟩
  · rw [hw]
    have hK : Keeps E η (fun j => if j = d then none else η j) a (a.put (some d) (.slice none 0 0)) w w K := by
      refine ⟨?_, ?_, ?_, fun _ _ _ _ cur _ _ _ _ _ _ _ h2 h3 => ⟨cur, h2, h3⟩, fun _ _ _ _ _ _ _ _ _ _ h => h, fun _ _ _ _ o _ _ _ _ h2 h3 => ⟨o, h2, h3⟩⟩
      · rintro b c ⟨h1, h2, h3⟩
        refine ⟨h1, fun k n hk => ?_, h3⟩
        dsimp only at hk
        split at hk
        · cases hk
        · exact h2 k n hk
      · intro j hj
        have : j ≠ d := fun e => hj (e ▸ hKk)
        simp [this]
      · intro t ht; exact getD_put_ne (fun e => ht (e ▸ hKs))
    refine ⟨fun j => if j = d then none else η j, ?_, fun f hf => ?_⟩
    · refine { g.put _ _ with own := ?_, inj := ?_ }
      · intro j b c hj
        split at hj
        · cases hj
        · exact g.own j b c hj
      · intro j j' b c c' hj hj'
        split at hj
        · cases hj
        · split at hj'
          · cases hj'
          · exact g.inj j j' b c c' hj hj'
    · rcases hf with hf | ⟨hf, hs⟩
      · simp only [List.mem_cons, List.not_mem_nil, or_false] at hf
        rcases hf with rfl | rfl
        · simp only [Fact.holds]
          rw [getD_put_eq (by rw [g.size]; exact hd)]
          exact .inl ⟨by simp, rfl, rfl⟩
        · exact .inl ⟨by simp, rfl⟩
      · exact hK.fact hs (H f hf)
  · exact newrow_rel g H hd el c cur hr wd h1 h2 h3 h4 K hKs hKk
  · have hkk := hKo kk rfl
    have hother : ∀ b', b' ≠ b → (w.setRow b cur').heap[b']? = w.heap[b']? := fun b' h => setRow_other w b b' cur' h
    have hne : ∀ k' b' c', k' ∉ K.keys → η k' = some (b', c') → b' ≠ b := fun k' b' c' h1 h2 e => h1 ((g.inj k' kk b c' c (e ▸ h2) hk) ▸ hkk)
    have hK : Keeps E η (fun j => if j = d then some (b, c) else if j = kk then none else η j) a (a.put (some d) (.slice (some ⟨b, 0, none⟩) xs.length c)) w (w.setRow b cur') K := by
      refine ⟨?_, ?_, ?_, ?_, ?_, ?_⟩
      · rintro b1 c1 ⟨h1, h2, el1, f1, h3⟩
        have hb1 : b1 ≠ b := fun e => h2 kk c (e ▸ hk)
        refine ⟨h1, fun j n hj => ?_, el1, f1, (hother b1 hb1).trans h3⟩
        dsimp only at hj
        split at hj
        · simp at hj; omega
        · split at hj
          · cases hj
          · exact h2 j n hj
      · intro j hj
        have h1 : j ≠ d := fun e => hj (e ▸ hKk)
        have h2 : j ≠ kk := fun e => hj (e ▸ hkk)
        simp [h1, h2]
      · intro t ht; exact getD_put_ne (fun e => ht (e ▸ hKs))
      · intro k' off b' c' cur1 el1 v1 h1 _ _ _ h4 h5 h6
        exact ⟨cur1, (hother b' (hne k' b' c' h1 h4)).trans h5, h6⟩
      · intro k' b' c' cur1 el1 h1 _ _ _ h4 h5
        exact (hother b' (hne k' b' c' h1 h4)).trans h5
      · intro k' i b' c' o h1 _ _ h4 h5 h6
        exact ⟨o, (hother b' (hne k' b' c' h1 h4)).trans h5, h6⟩
    have gs := set_good g cur' hlow
    refine ⟨fun j => if j = d then some (b, c) else if j = kk then none else η j, ?_, fun f hf => ?_⟩
    · refine { gs.put _ _ with own := ?_, inj := ?_ }
      · intro j b1 c1 hj
        split at hj
        · simp only [Option.some.injEq, Prod.mk.injEq] at hj
          obtain ⟨rfl, rfl⟩ := hj
          exact gs.own kk _ _ hk
        · split at hj
          · cases hj
          · exact gs.own j b1 c1 hj
      · intro j j' b1 c1 c2 hj hj'
        by_cases e1 : j = d
        · by_cases e2 : j' = d
          · omega
          · simp only [e1, if_true, Option.some.injEq, Prod.mk.injEq] at hj
            simp only [e2, if_false] at hj'
            split at hj'
            · cases hj'
            · rename_i e3
              exact absurd (g.inj j' kk b1 c2 c hj' (by rw [← hj.1]; exact hk)) e3
        · simp only [e1, if_false] at hj
          split at hj
          · cases hj
          · rename_i e3
            by_cases e2 : j' = d
            · simp only [e2, if_true, Option.some.injEq, Prod.mk.injEq] at hj'
              exact absurd (g.inj j kk b1 c1 c hj (by rw [← hj'.1]; exact hk)) e3
            · simp only [e2, if_false] at hj'
              split at hj'
              · cases hj'
              · exact g.inj j j' b1 c1 c2 hj hj'
    · rcases hf with hf | ⟨hf, hs⟩
      · simp only [List.mem_cons, List.not_mem_nil, or_false] at hf
        rcases hf with rfl | rfl
        · simp only [Fact.holds]
          rw [getD_put_eq (by rw [g.size]; exact hd)]
          exact .inr ⟨b, c, by simp, rfl, hr.2.1⟩
        · exact .inr ⟨b, c, cur', hlow, by simp, setRow_heap w b cur _ el (0, 0) hb, hr.mono hK.view⟩
      · exact hK.fact hs (H f hf)

theorem call_rel (g : Good E nt η a w) (H : ∀ f, F f → f.holds E η a w) {d : Nat} (hd : d < nt) {cs : List RC} {x : (resTy cs).Den} {w' : World} {bs oks : List Nat} {rs : List Value} {gb : Option Nat}
    (hbs : ∀ b ∈ bs, ∃ k c, k ∈ oks ∧ η k = some (b, c)) (hp : CPost E.OB w w' bs)
    (hr : ResOK w' (fun b c => ¬ (E.M b ∨ ∃ k n, η k = some (b, n)) ∧ gb ≠ some b ∧ ∃ el f, w'.heap[b]? = some (.cells c el f)) w.heap.size cs x rs gb) :
    Rel E nt (upd F (.slot d (oneOrTup (resS1 d cs x 0).1) :: (resS1 d cs x 0).2.1) { slots := [d], keys := (resS1 d cs x 0).2.2, cont := oks }) (a.put (some d) (retVal rs)) w' := by
  let η' : Eta := fun k => match findKey d cs rs 0 k with | some r => r | none => η k
  have hη : ∀ k, η' k = match findKey d cs rs 0 k with | some r => r | none => η k := fun _ => rfl
  have hnb : ∀ k b c, k ∉ oks → η k = some (b, c) → b ∉ bs := fun k b c h1 h2 h3 => by
    obtain ⟨k', c', h4, h5⟩ := hbs b h3
    exact h1 ((g.inj k k' b c c' h2 h5) ▸ h4)
  have hK : Keeps E η η' a (a.put (some d) (retVal rs)) w w' { slots := [d], keys := (resS1 d cs x 0).2.2, cont := oks } := by
    refine ⟨?_, ?_, ?_, ?_, ?_, ?_⟩
    · rintro b c ⟨h1, h2, el, f, h3⟩
      have hlt := lt_of_heap h3
      have hb : b ∉ bs := fun hb => by obtain ⟨k, c', _, h5⟩ := hbs b hb; exact h2 k c' h5
      refine ⟨h1, fun k n hk => ?_, el, f, (hp.keep b hlt hb).trans h3⟩
      rw [hη] at hk
      split at hk
      · rename_i r hf
        subst hk
        have := findKey_block cs x rs 0 k gb b n hr hf
        omega
      · exact h2 k n hk
    · intro k hk
      rw [hη, findKey_other cs x rs 0 k hk]
    · intro t ht; exact getD_put_ne (by simpa using ht)
    · intro k off b c cur el v h1 h2 h3 h4 h5 h6 h7
      exact ⟨cur, (hp.keep b (lt_of_heap h6) (hnb k b c h3 h5)).trans h6, h7⟩
    · intro k b c cur el h1 h2 h3 h4 h5 h6
      exact (hp.keep b (lt_of_heap h6) (hnb k b c h4 h5)).trans h6
    · intro k i b c o h1 h2 h3 h4 h5 h6
      by_cases hb : b ∈ bs
      · exact hp.obk b hb i o h5 h6
      · exact ⟨o, (hp.keep b (lt_of_heap h5) hb).trans h5, h6⟩
  have hsz := hp.size
  have hgr := g.grow
  refine ⟨η', ?_, fun f hf => ?_⟩
  · refine { size := (g.put _ _).size, defers := (g.put _ _).defers, os := hp.os.trans g.os, tape := hp.tape.trans g.tape, output := hp.output.trans g.output, grow := by omega, keep := ?_, own := ?_, inj := ?_, old := g.old, obkeep := ?_ }
    · intro b hb hm
      have hnb' : b ∉ bs := fun h => by
        obtain ⟨k, c, _, h5⟩ := hbs b h
        rcases (g.own k b c h5).2 with h6 | h6
        · omega
        · exact hm h6
      exact (hp.keep b (by omega) hnb').trans (g.keep b hb hm)
    · intro k b c hk
      rw [hη] at hk
      split at hk
      · rename_i r hf
        subst hk
        have := findKey_block cs x rs 0 k gb b c hr hf
        exact ⟨this.2.2, .inl (by omega)⟩
      · have := g.own k b c hk
        exact ⟨by omega, this.2⟩
    · intro k k' b c c' hk hk'
      rw [hη] at hk hk'
      split at hk <;> split at hk'
      · rename_i r hf _ r' hf'
        subst hk; subst hk'
        exact findKey_inj cs x rs 0 k k' gb _ _ _ _ hr hf hf'
      · rename_i r hf _ hf'
        subst hk
        have h1 := findKey_block cs x rs 0 k gb b c hr hf
        have h2 := (g.own k' b c' hk').1
        omega
      · rename_i hf _ r hf'
        subst hk'
        have h1 := findKey_block cs x rs 0 k' gb b c' hr hf'
        have h2 := (g.own k b c hk).1
        omega
      · exact g.inj k k' b c c' hk hk'
    · intro b i o hb hm h1 h2
      obtain ⟨o1, h3, h4⟩ := g.obkeep b i o hb hm h1 h2
      by_cases hb' : b ∈ bs
      · exact hp.obk b hb' i o1 h3 h4
      · exact ⟨o1, (hp.keep b (lt_of_heap h3) hb').trans h3, h4⟩
  · rcases hf with hf | ⟨hf, hs⟩
    · have hres := res_holds (E := E) (d := d) (η' := η') (a' := a.put (some d) (retVal rs)) g.grow (fun b c ⟨h1, h2, h3⟩ => ⟨fun h => h1 (.inl h), fun k n hk => by
          rw [hη] at hk
          split at hk
          · rename_i r hf
            subst hk
            exact h2 (findKey_block cs x rs 0 k gb b n hr hf).1
          · exact h1 (.inr ⟨k, n, hk⟩), h3⟩) cs x rs 0 gb hr (fun k r h => by rw [hη, h])
      rcases List.mem_cons.1 hf with rfl | hf
      · simp only [Fact.holds]
        rw [getD_put_eq (by rw [g.size]; exact hd)]
        exact holds_oneOrTup hres.1
      · exact hres.2 f hf
    · exact hK.fact hs (H f hf)

/-- Every effect carries the relation on. -/
theorem toRes_sound (g : Good E nt η a w) (H : ∀ f, F f → f.holds E η a w) {o : Oper} {e : Eff} (he : EffSem E η a w o e) {r : Res} (hr : toRes o.dst e = some r)
    (hd : ∀ d, o.dst = some d → d < nt) (hob : r.ob.hold) {K : Act → World → Prop} {Q : Exit → Act → World → Prop} (hK : ∀ a' w', Rel E nt (upd F r.add r.kill) a' w' → K a' w') :
    o.wp E.P a w K Q := by
  unfold Oper.wp
  cases hdst : o.dst with
  | none =>
    rw [hdst] at hr
    cases e <;> simp only [toRes] at hr <;> try (cases hr; done)
    case st k off cs =>
      obtain ⟨vs, b, c, cur, el, h1, h2, h3, h4, h5, h6⟩ := he
      rw [h6]
      simp only [Option.some.injEq] at hr
      subst hr
      simp only [Oper.upon, hdst]
      exact hK _ _ (st_rel g H h1 h2 h3 h4 h5)
    case strow ob k el e xs =>
      simp only [Option.some.injEq] at hr
      subst hr
      obtain ⟨b, c, cur, cur', h1, h2, h3, h4, h5⟩ := he hob
      rw [h5]
      simp only [Oper.upon, hdst]
      exact hK _ _ (strow_rel g H h1 h2 h3 h4)
  | some d =>
    have hd' := hd d hdst
    rw [hdst] at hr
    cases e <;> simp only [toRes] at hr <;> try (cases hr; done)
    case val ob s =>
      simp only [Option.some.injEq] at hr
      subst hr
      obtain ⟨v, h1, h2⟩ := he hob
      rw [h1]
      simp only [Oper.upon, hdst]
      exact hK _ _ (put_rel g H hd' h2)
    case new el cs =>
      cases hm : anyS (S1.ment [d]) cs with
      | true => rw [hm] at hr; simp at hr
      | false =>
        rw [hm] at hr
        simp only [cond_false, Option.some.injEq] at hr
        subst hr
        obtain ⟨vs, h1, h2⟩ := he
        rw [h1]
        simp only [Oper.upon, hdst]
        exact hK _ _ (new_rel g H hd' el hm h2)
    case newob el i =>
      simp only [Option.some.injEq] at hr
      subst hr
      obtain ⟨cur, h1, h2⟩ := he
      rw [h1]
      simp only [Oper.upon, hdst]
      exact hK _ _ (newob_rel g H hd' el i h2)
    case newrow ob el e xs =>
      simp only [Option.some.injEq] at hr
      subst hr
      obtain ⟨c, cur, h1, h2⟩ := he hob
      rw [h1]
      simp only [Oper.upon, hdst]
      exact hK _ _ (newrow_rel g H hd' el c cur h2 w rfl rfl rfl rfl _ (by simp) (by simp))
    case app ob k el e xs =>
      simp only [Option.some.injEq] at hr
      subst hr
      obtain ⟨v, w', h1, h2⟩ := he hob
      rw [h1]
      simp only [Oper.upon, hdst]
      exact hK _ _ (app_rel g H hd' h2 _ (by simp) (by cases k <;> simp) (by rintro kk rfl; simp))
    case call ob oks cs x =>
      simp only [Option.some.injEq] at hr
      subst hr
      obtain ⟨f, args, bs, h1, h2, h3⟩ := he hob
      rw [h1]
      simp only [Oper.upon, hdst]
      refine h3.mono fun e' w' ⟨rs, gb, h4, h5, h6⟩ => ?_
      subst h4
      exact hK _ _ (call_rel g H hd' h2 h5 h6)

end
end Go.Eng
