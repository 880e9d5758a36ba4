/- The verification condition of a function is right: it gives the function's contract. Conditions: the table of types is the program's; each contract in use holds; regions whose order is open are covered by a lemma of their own. -/
import Derived.Test.YtimkbccpbjabiaaE15
set_option linter.all false
namespace Go.Eng

section
variable {E : Env} {a : Act} {w : World} {c : Cfg}

theorem stepRes_sound (hC : CfgOk E.P E.OB c) {st : St} (hR : RelS E c.nt st a w) {o : Oper} {r : Res} (h : stepRes c st o = some r) (hob : r.ob.hold) {K : Act → World → Prop} {Q : Exit → Act → World → Prop}
    (hK : ∀ a' w', RelS E c.nt (after st r) a' w' → K a' w') : o.wp E.P a w K Q := by
  obtain ⟨η, g, H⟩ := hR
  unfold stepRes at h
  split at h
  case h_2 => cases h
  case h_1 e he =>
    have hsem := effOf_sound hC g H he
    have up : ∀ a' w', Rel E c.nt (upd (fun f => f ∈ st) r.add r.kill) a' w' → K a' w' := fun a' w' hr => hK a' w' (hr.weaken fun f hf => by
      rcases List.mem_append.1 hf with h | h
      · exact .inl h
      · exact .inr (mem_filt.1 h))
    split at h
    · rename_i hd
      exact toRes_sound g H hsem (by rw [hd]; exact h) (fun d hd' => by rw [hd] at hd'; cases hd') hob up
    · rename_i d hd
      cases hb : Nat.blt d c.nt with
      | false => rw [hb] at h; simp at h
      | true =>
        rw [hb] at h
        exact toRes_sound g H hsem (by rw [hd]; exact h) (fun d' hd' => by
          rw [hd] at hd'
          simp only [Option.some.injEq] at hd'
          subst hd'
          simpa using hb) hob up

theorem runOne_sound (hC : CfgOk E.P E.OB c) {st : St} (hR : RelS E c.nt st a w) {o : Oper} {K : St → Prop} (h : runOne c o st K) {K' : Act → World → Prop} {Q : Exit → Act → World → Prop}
    (hK : ∀ st' a' w', K st' → RelS E c.nt st' a' w' → K' a' w') : o.wp E.P a w K' Q := by
  unfold runOne at h
  split at h
  case h_2 => exact h.elim
  case h_1 p st1 hf =>
    split at h
    case h_2 => exact h.elim
    case h_1 r hr =>
      obtain ⟨h1, h⟩ := OP.andK_out h
      obtain ⟨h2, h3⟩ := OP.andK_out h
      rw [force_eq] at h3
      exact stepRes_sound hC (freezes_sound hf h1 hR) hr h2 (fun a' w' h => hK _ a' w' h3 h)

theorem undefSt_sound {st : St} {nt : Nat} (hR : RelS E nt st a w) (d : Option Nat) (hd : ∀ t, d = some t → t < nt) : RelS E nt (undefSt d st) (a.put d undef) w := by
  obtain ⟨η, g, H⟩ := hR
  cases d with
  | none => exact ⟨η, g, H⟩
  | some t =>
    refine (put_rel g (F := fun f => f ∈ st) H (hd t rfl) (s := .one (.v undef)) (v := undef) rfl).weaken fun f hf => ?_
    simp only [undefSt, List.mem_cons] at hf
    rcases hf with rfl | hf
    · exact .inl List.mem_cons_self
    · exact .inr (mem_filt.1 hf)

theorem put_self {a : Act} {t : Nat} (h : t < a.tmps.size) : a.put (some t) (a.tmps.getD t undef) = a := by
  cases a with
  | mk tmps defers =>
    simp only [Act.put]
    congr 1
    apply Array.ext
    · simp
    · intro i h1 h2
      by_cases hi : t = i
      · subst hi
        simp at h1
        simp [h1]
      · rw [Array.getElem_setIfInBounds_ne (by simpa using h1) hi]

theorem setLb_sound {st : St} {nt t : Nat} {b : Bool} (ht : t < nt) (hR : RelS E nt st a w) (hv : a.tmps.getD t undef = .bool b) : RelS E nt (setLb t b st) a w := by
  obtain ⟨η, g, H⟩ := hR
  have := (put_rel g (F := fun f => f ∈ st) H ht (s := .one (.lb b)) (v := .bool b) rfl)
  rw [← hv, put_self (by rw [g.size]; exact ht)] at this
  refine this.weaken fun f hf => ?_
  simp only [setLb, List.mem_cons] at hf
  rcases hf with rfl | hf
  · exact .inl List.mem_cons_self
  · exact .inr (mem_filt.1 hf)

theorem guardOf_sound {ops : Array Oper} {st : St} (hR : RelS E c.nt st a w) {o : Oper} :
    match guardOf c ops st o with
    | .yes => Region.wanted o (yielded ops a.tmps) = true
    | .no => Region.wanted o (yielded ops a.tmps) = false
    | .open_ t b => t < c.nt ∧ a.tmps.getD t undef = .bool b ∧ Region.wanted o (yielded ops a.tmps) = (b == wantOf o)
    | .bad => True := by
  obtain ⟨η, g, H⟩ := hR
  cases hg : o.guard with
  | none => simp [guardOf, hg, Region.wanted]
  | some p =>
    obtain ⟨j, want⟩ := p
    cases hgd : ops[j]? with
    | none => simp only [guardOf, hg, hgd]
    | some gd =>
      cases ht : gd.dst with
      | none => simp only [guardOf, hg, hgd, ht]
      | some t =>
        cases hb : Nat.blt t c.nt with
        | false => simp only [guardOf, hg, hgd, ht, hb, cond_false]
        | true =>
          have hlt : t < c.nt := by simpa using hb
          have hlt' : t < a.tmps.size := by rw [g.size]; exact hlt
          have hget : a.tmps[t]? = some (a.tmps.getD t undef) := by simp [Array.getD, hlt']
          have hy : yielded ops a.tmps j = match a.tmps.getD t undef with | .bool b => some b | _ => none := by
            simp only [yielded, hgd, Option.bind_some, ht, hget]
            split <;> rename_i heq <;> simp_all
          have hwant : Region.wanted o (yielded ops a.tmps) = (yielded ops a.tmps j == some want) := by simp [Region.wanted, hg]
          have hwo : wantOf o = want := by simp [wantOf, hg]
          cases hs : findSlot t st with
          | none => simp only [guardOf, hg, hgd, ht, hb, cond_true, hs]
          | some s =>
            have hold := H _ (findSlot_mem hs)
            cases s with
            | agg cs => simp only [guardOf, hg, hgd, ht, hb, cond_true, hs]
            | tup cs => simp only [guardOf, hg, hgd, ht, hb, cond_true, hs]
            | one u =>
              cases u with
              | lb b =>
                have hv : a.tmps.getD t undef = .bool b := hold
                rw [hy, hv] at hwant
                simp only [guardOf, hg, hgd, ht, hb, cond_true, hs]
                cases b <;> cases want <;> simpa using hwant
              | d ty x =>
                cases ty with
                | bool =>
                  have hv : a.tmps.getD t undef = .bool x := holds_bool hold
                  rw [hy, hv] at hwant
                  simp only [guardOf, hg, hgd, ht, hb, cond_true, hs]
                  refine ⟨hlt, hv, ?_⟩
                  rw [hwant, hwo]
                  cases x <;> cases want <;> rfl
                | int k => simp only [guardOf, hg, hgd, ht, hb, cond_true, hs]
                | str => simp only [guardOf, hg, hgd, ht, hb, cond_true, hs]
                | flt k => simp only [guardOf, hg, hgd, ht, hb, cond_true, hs]
                | cpx k => simp only [guardOf, hg, hgd, ht, hb, cond_true, hs]
                | sl e => simp only [guardOf, hg, hgd, ht, hb, cond_true, hs]
                | nil => simp only [guardOf, hg, hgd, ht, hb, cond_true, hs]
                | cons p q => simp only [guardOf, hg, hgd, ht, hb, cond_true, hs]
              | v x =>
                have hv : a.tmps.getD t undef = x := hold
                rw [hy, hv] at hwant
                cases x <;> simp only [guardOf, hg, hgd, ht, hb, cond_true, hs]
                simpa using hwant
              | p k off => simp only [guardOf, hg, hgd, ht, hb, cond_true, hs]
              | pd ty x => simp only [guardOf, hg, hgd, ht, hb, cond_true, hs]
              | pr k i sz => simp only [guardOf, hg, hgd, ht, hb, cond_true, hs]
              | o k n => simp only [guardOf, hg, hgd, ht, hb, cond_true, hs]

theorem exists_min (p : Nat → Prop) (h : ∃ n, p n) : ∃ n, p n ∧ ∀ m, p m → n ≤ m := by
  obtain ⟨n, hn⟩ := h
  induction n using Nat.strongRecOn with
  | _ n ih =>
    by_cases hm : ∃ m, m < n ∧ p m
    · obtain ⟨m, h1, h2⟩ := hm
      exact ih m h1 h2
    · exact ⟨n, hn, fun m hm' => by
        rcases Nat.lt_or_ge m n with h | h
        · exact absurd ⟨m, h, hm'⟩ hm
        · exact h⟩

open Classical in
/-- A loop whose measure is that of data that the state only describes. -/
theorem wp_loop_rel {P : Program} {b : Code} {Q : Exit → Act → World → Prop} (I : Nat → Act → World → Prop) {n : Nat} {a : Act} {w : World} (h0 : I n a w)
    (round : ∀ n a w, I n a w → b.wp P (Exit.then (fun a' w' => ∃ n', n' < n ∧ I n' a' w') Q) a w) : (Code.loop b).wp P Q a w := by
  let μ : Act → World → Nat := fun a w => if h : ∃ n, I n a w then Classical.choose (exists_min (fun n => I n a w) h) else 0
  have hμ : ∀ n a w, I n a w → I (μ a w) a w ∧ μ a w ≤ n := by
    intro n a w h
    have hex : ∃ n, I n a w := ⟨n, h⟩
    have hc := Classical.choose_spec (exists_min (fun n => I n a w) hex)
    have he : μ a w = Classical.choose (exists_min (fun n => I n a w) hex) := dif_pos hex
    rw [he]
    exact ⟨hc.1, hc.2 n h⟩
  refine wp_loop (fun a w => ∃ n, I n a w) μ ⟨n, h0⟩ fun a w ⟨m, hm⟩ => ?_
  refine wp_mono (round (μ a w) a w (hμ m a w hm).1) fun e a' w' hq => ?_
  cases e with
  | normal =>
    obtain ⟨n', h1, h2⟩ := hq
    exact ⟨⟨n', h2⟩, Nat.lt_of_le_of_lt (hμ n' a' w' h2).2 h1⟩
  | exit id => exact hq
  | goto l => exact hq
  | ret => exact hq
  | panic ch => exact hq
  | outgrown => exact hq

theorem runOps_sound (hC : CfgOk E.P E.OB c) {ops : Array Oper} {Q : Exit → Act → World → Prop} (hdst : ∀ o ∈ ops.toList, ∀ t, o.dst = some t → t < c.nt) : ∀ (l : List Oper) (_ : ∀ o ∈ l, o ∈ ops.toList) (st : St) (K : St → Prop) (a : Act) (w : World),
    runOps c ops l st K → RelS E c.nt st a w → (∀ st' a' w', K st' → RelS E c.nt st' a' w' → Q .normal a' w') → wpList E.P ops Q l a w
  | [], _, st, K, a, w, h, hR, hQ => hQ st a w h hR
  | o :: r, hl, st, K, a, w, h, hR, hQ => by
    have ih := runOps_sound hC (Q := Q) hdst r (fun o ho => hl o (List.mem_cons_of_mem _ ho))
    have hg := guardOf_sound (ops := ops) hR (o := o)
    have hd := hdst o (hl o List.mem_cons_self)
    simp only [runOps] at h
    unfold wpList
    split at h
    · rename_i heq
      rw [heq] at hg
      simp only at hg
      rw [if_pos hg]
      exact .inl (runOne_sound hC hR h fun st' a' w' hk hr => ih st' K a' w' hk hr hQ)
    · rename_i heq
      rw [heq] at hg
      simp only at hg
      rw [if_neg (by rw [hg]; simp)]
      exact ih _ K _ w h (undefSt_sound hR _ hd) hQ
    · rename_i t b heq
      rw [heq] at hg
      simp only at hg
      obtain ⟨ht, hv, hw⟩ := hg
      by_cases hbw : b = wantOf o
      · rw [if_pos (by rw [hw, hbw]; simp)]
        have hv' : a.tmps.getD t undef = .bool (wantOf o) := by rw [hv, hbw]
        exact .inl (runOne_sound hC (setLb_sound ht hR hv') (h.out.1 hbw) fun st' a' w' hk hr => ih st' K a' w' hk hr hQ)
      · have hbn : b = !wantOf o := by cases b <;> cases hh : wantOf o <;> simp_all
        rw [if_neg (by rw [hw]; simpa using hbw)]
        have hv' : a.tmps.getD t undef = .bool (!wantOf o) := by rw [hv, hbn]
        exact ih _ K _ w (h.out.2 hbn) (undefSt_sound (setLb_sound ht hR hv') _ hd) hQ
    · exact h.elim

def XE.to : XE → Exit
  | .normal => .normal
  | .exit id => .exit id
  | .ret => .ret

/-- What a lemma on regions whose order is open must give. -/
def ParOk (E : Env) (c : Cfg) (par : Array Oper → St → (St → Prop) → Prop) : Prop :=
  ∀ (id : Nat) (ops : Array Oper) (st : St) (K : St → Prop) (a : Act) (w : World) (Q : Exit → Act → World → Prop), par ops st K → RelS E c.nt st a w →
    (∀ st' a' w', K st' → RelS E c.nt st' a' w' → Q .normal a' w') → (Code.region id ops true).wp E.P Q a w

/-- All slots that a body writes are there. -/
def dstOk (nt : Nat) : Code → Bool
  | .region _ ops _ => ops.toList.all fun o => match o.dst with | some d => Nat.blt d nt | none => true
  | .seq a b => dstOk nt a && dstOk nt b
  | .cond _ a b => dstOk nt a && dstOk nt b
  | .block _ b => dstOk nt b
  | .loop b => dstOk nt b
  | _ => true

def PostX (E : Env) (nt : Nat) (K : XE → St → Prop) : Exit → Act → World → Prop := fun e a w => ∃ x st, XE.to x = e ∧ K x st ∧ RelS E nt st a w

theorem vc_sound (hC : CfgOk E.P E.OB c) {par : Array Oper → St → (St → Prop) → Prop} (hpar : ParOk E c par) {anns : List (St → LoopAnn)} : ∀ (b : Code) (n : Nat) (st : St) (K : XE → St → Prop) (a : Act) (w : World),
    dstOk c.nt b = true → vc c par anns b n st K → RelS E c.nt st a w → b.wp E.P (PostX E c.nt K) a w
  | .skip, n, st, K, a, w, _, h, hR => wp_skip ⟨.normal, st, rfl, h, hR⟩
  | .label _, n, st, K, a, w, _, h, hR => wp_label ⟨.normal, st, rfl, h, hR⟩
  | .region id ops false, n, st, K, a, w, hd, h, hR => by
    refine wp_region_list ?_
    have hdst : ∀ o ∈ ops.toList, ∀ t, o.dst = some t → t < c.nt := by
      intro o ho t ht
      simp only [dstOk, List.all_eq_true] at hd
      have := hd o ho
      rw [ht] at this
      simpa using this
    exact runOps_sound hC hdst ops.toList (fun _ h => h) st _ a w h hR fun st' a' w' hk hr => ⟨.normal, st', rfl, hk, hr⟩
  | .region id ops true, n, st, K, a, w, _, h, hR => hpar id ops st _ a w _ h hR fun st' a' w' hk hr => ⟨.normal, st', rfl, hk, hr⟩
  | .seq x y, n, st, K, a, w, hd, h, hR => by
    simp only [dstOk, Bool.and_eq_true] at hd
    refine wp_seq (wp_mono (vc_sound hC hpar x n st _ a w hd.1 h hR) fun e a' w' ⟨xe, st', h1, h2, h3⟩ => ?_)
    subst h1
    cases xe with
    | normal => simp only [forceN_eq] at h2; exact vc_sound hC hpar y _ st' K a' w' hd.2 h2 h3
    | exit id => exact ⟨.exit id, st', rfl, h2, h3⟩
    | ret => exact ⟨.ret, st', rfl, h2, h3⟩
  | .cond x y z, n, st, K, a, w, hd, h, hR => by
    simp only [dstOk, Bool.and_eq_true] at hd
    obtain ⟨η, g, H⟩ := hR
    simp only [vc, forceN_eq] at h
    split at h
    · rename_i hx
      have hv : a.eval x = .bool true := eval_sound H hx
      exact wp_cond_true hv (vc_sound hC hpar y n st K a w hd.1 h ⟨η, g, H⟩)
    · rename_i hx
      have hv : a.eval x = .bool false := eval_sound H hx
      exact wp_cond_false hv (vc_sound hC hpar z _ st K a w hd.2 h ⟨η, g, H⟩)
    · rename_i b hx
      have hv : a.eval x = .bool b := holds_bool (eval_sound H hx)
      exact wp_cond_split hv (fun hb => vc_sound hC hpar y n st K a w hd.1 (h.out.1 hb) ⟨η, g, H⟩) (fun hb => vc_sound hC hpar z _ st K a w hd.2 (h.out.2 hb) ⟨η, g, H⟩)
    · exact h.elim
  | .block id b, n, st, K, a, w, hd, h, hR => by
    refine wp_block (wp_mono (vc_sound hC hpar b n st _ a w hd h hR) fun e a' w' ⟨xe, st', h1, h2, h3⟩ => ?_)
    subst h1
    cases xe with
    | normal => exact ⟨.normal, st', rfl, h2, h3⟩
    | exit j =>
      simp only [XE.to, Exit.inBlock]
      simp only at h2
      cases hb : Nat.beq j id with
      | true =>
        rw [hb] at h2
        have := Nat.eq_of_beq_eq_true hb
        rw [if_pos this]
        exact ⟨.normal, st', rfl, h2, h3⟩
      | false =>
        rw [hb] at h2
        have := Nat.ne_of_beq_eq_false hb
        rw [if_neg this]
        exact ⟨.exit j, st', rfl, h2, h3⟩
    | ret => exact ⟨.ret, st', rfl, h2, h3⟩
  | .loop b, n, st, K, a, w, hd, h, hR => by
    simp only [vc, forceNs_eq, force_eq, unAnn_eq] at h
    split at h
    case h_2 => exact h.elim
    case h_1 A0 hA =>
      let A := A0 st
      obtain ⟨hg, h3⟩ := h.out
      obtain ⟨s, h1, h2⟩ := hg.out
      refine wp_loop_rel (fun m a w => ∃ s, A.meas s = m ∧ A.inv s ∧ RelS E c.nt (headSt (dsts b) st (A.pat s)) a w) ⟨s, rfl, h2, ent_sound h1 hR⟩ fun m a w ⟨s, hm, hi, hr⟩ => ?_
      refine wp_mono (vc_sound hC hpar b (n + 1) _ _ a w hd (h3 s hi) hr) fun e a' w' ⟨xe, st', g1, g2, g3⟩ => ?_
      subst g1
      cases xe with
      | normal =>
        obtain ⟨s', e1, e2, e3⟩ := Goal.out g2
        exact ⟨A.meas s', hm ▸ e3, s', rfl, e2, ent_sound e1 g3⟩
      | exit id => exact ⟨.exit id, st', rfl, g2, g3⟩
      | ret => exact ⟨.ret, st', rfl, g2, g3⟩
  | .exit id, n, st, K, a, w, _, h, hR => wp_exit ⟨.exit id, st, rfl, h, hR⟩
  | .ret, n, st, K, a, w, _, h, hR => wp_ret ⟨.ret, st, rfl, h, hR⟩
  | .rangeFunc _ _ _ _, n, st, K, a, w, _, h, hR => h.elim
  | .scope _, n, st, K, a, w, _, h, hR => h.elim
  | .goto _, n, st, K, a, w, _, h, hR => h.elim
  | .refuse _, n, st, K, a, w, _, h, hR => h.elim

end
end Go.Eng
