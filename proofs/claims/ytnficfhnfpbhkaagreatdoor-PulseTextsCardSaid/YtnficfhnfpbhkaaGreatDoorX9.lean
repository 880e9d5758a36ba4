/- A function walked by hand, and strings.SplitSeq. Conditions: each lemma's own. -/
import Derived.Test.YtnficfhnfpbhkaaGreatDoorX8
import Derived.WalkKit
namespace Go.Eng
set_option linter.all false
set_option maxRecDepth 100000
section
variable {c : Cfg}
theorem fn_hand {P : Program} {OB : Nat → Obj → Prop} (hC : CfgOk P OB c) {f : Nat} {fn : Func} {body : Code} {rs : List ResultVar} {sp : Spec}
    (hf : P.funcs[f]? = some fn) (hb : fn.body = some body) (hnt : fn.ntmps = c.nt) (hps : sp.pats.length ≤ c.nt) (hlim : c.nt ≤ 1000000) (hob : obCount sp.pats ≤ 1) (hrs : fn.results.toList = rs)
    (h : ∀ x, sp.pre x → ∀ (M : Nat → Prop) (bs : List Nat) (w : World) (a : Act), a.defers = [] → RelS { P := P, M := M, mu := fun b => b ∈ bs, w0 := w, OB := OB } c.nt (initFacts sp.pats x 0) a w →
      body.wpIn (Fw none) 0 P (PostX { P := P, M := M, mu := fun b => b ∈ bs, w0 := w, OB := OB } c.nt fun e st => match e with
        | .ret | .normal => retVC c rs sp.res (sp.f x) st
        | _ => False) a w) : Holds P OB f sp := by
  intro w M x vs bs hM hA hpre
  obtain ⟨o1, o2, o3, o4⟩ := obsOf_spec sp.pats x vs bs 0 hA
  let E : Env := { P := P, M := M, mu := fun b => b ∈ bs, w0 := w, OB := OB }
  refine callsIn_wide.1 (callsIn_of_wp_marks (F := Fence.wide) (n := 0) hf hb trivial ?_)
  have hsz : (vs.toArray ++ Array.replicate (fn.ntmps - vs.toArray.size) undef).size = c.nt := by
    simp; omega
  have hR : RelS E c.nt (initFacts sp.pats x 0) { tmps := vs.toArray ++ Array.replicate (fn.ntmps - vs.toArray.size) undef, defers := [] } w := by
    have hη : ∀ k b n, etaOf (obsOf sp.pats vs 0) k = some (b, n) → (k, b) ∈ obsOf sp.pats vs 0 ∧ n = 0 := by
      intro k b n
      generalize obsOf sp.pats vs 0 = l
      induction l with
      | nil => intro h; cases h
      | cons p r ih =>
        intro h
        simp only [etaOf] at h
        split at h
        · rename_i hk
          simp only [Option.some.injEq, Prod.mk.injEq] at h
          obtain ⟨rfl, rfl⟩ := h
          subst hk
          exact ⟨List.mem_cons_self, rfl⟩
        · obtain ⟨h1, h2⟩ := ih h
          exact ⟨List.mem_cons_of_mem _ h1, h2⟩
    have hbs : ∀ k b, (k, b) ∈ obsOf sp.pats vs 0 → b ∈ bs := fun k b hkb => by rw [← o1]; exact List.mem_map.2 ⟨_, hkb, rfl⟩
    refine ⟨etaOf (obsOf sp.pats vs 0), ?_, ?_⟩
    · exact {
        size := hsz, lim := hlim, defers := ⟨⟨[], rfl, List.nodup_nil, fun _ h => by cases h⟩, fun _ h => by cases h⟩, os := rfl, tape := rfl, output := rfl, grow := Nat.le_refl _, keep := fun _ _ _ _ => rfl,
        own := fun k b n hk => ⟨(o4 b (hbs k b (hη k b n hk).1)).2, .inr (hbs k b (hη k b n hk).1)⟩,
        dis := fun b hb h => h.elim (fun h => absurd (o4 b hb).2 (Nat.not_lt_of_le h)) id,
        inj := fun k k' b n n' hk hk' => by
          have h1 := (hη k b n hk).1
          have h2 := (hη k' b n' hk').1
          have hl : (obsOf sp.pats vs 0).length ≤ 1 := by omega
          match hobs : obsOf sp.pats vs 0, hl with
          | [], _ => rw [hobs] at h1; cases h1
          | [p], _ =>
            rw [hobs] at h1 h2
            simp only [List.mem_singleton] at h1 h2
            rw [← h2] at h1
            simpa using h1
        old := fun b hb h => h.elim (fun h => absurd (hM b hb) (Nat.not_lt_of_le h)) id, obkeep := fun b i o _ _ h1 h2 => ⟨o, h1, h2⟩ }
    · refine init_facts rfl rfl (fun b h => h.elim id fun ⟨_, h⟩ => by cases h) rfl (fun k b n hk => (o4 b (hbs k b (hη k b n hk).1)).1) sp.pats x vs bs 0 hA (by omega) (fun j v hj => ?_) (fun k b hkb => ?_)
      · simp only [Nat.zero_add]
        have hjl := (List.getElem?_eq_some_iff.1 hj).1
        simp only [Array.getD_eq_getD_getElem?]
        rw [Array.getElem?_append_left (by simpa using hjl)]
        simp [hj]
      · have hl : (obsOf sp.pats vs 0).length ≤ 1 := by omega
        match hobs : obsOf sp.pats vs 0, hl with
        | [], _ => rw [hobs] at hkb; cases hkb
        | [p], _ =>
          rw [hobs] at hkb
          simp only [List.mem_singleton] at hkb
          subst hkb
          simp [etaOf]
  have hCE : CfgOk E.P E.OB c := hC
  refine wpIn_mono (h x hpre M bs w _ rfl hR) fun e a' w' ⟨xe, st', e1, e2, e3⟩ => ?_
  subst e1
  have leave : ∀ (R : Ending → World → Prop) (st1 : St) (η : Eta) (tmps : Array Value), (∀ a1 w1, a1.tmps = tmps → Good E c.nt η a1 w1 → (∀ f ∈ st1, Fact.holds E η a1 w1 f) → ∃ v, (results fn tmps).run P w1 = .ok v w1 ∧ R (.returned v) w1) →
      ∀ (ms : List Nat) (a1 : Act) (w1 : World), a1.tmps = tmps → a1.defers = ms.map mkD → ms.Nodup → (∀ D ∈ ms, E.w0.heap.size ≤ D ∧ w1.heap[D]? = some (.deferred (some [])) ∧ ∀ k c, η k ≠ some (D, c)) →
      Good E c.nt η a1 w1 → (∀ f ∈ st1, Fact.holds E η a1 w1 f) → LeavesInM Fence.wide 0 P fn tmps R a1.defers .returning w1 := by
    intro R st1 η tmps hfin ms
    induction ms with
    | nil =>
      intro a1 w1 ht hd1 _ _ g H
      rw [hd1]
      exact hfin a1 w1 ht g H
    | cons D ms ih =>
      intro a1 w1 ht hd1 hn hm g H
      have ht2 := take_mark rfl g H (by rw [hd1]; rfl) hn hm
      rw [hd1]
      refine ⟨by simp, .inl ⟨D, _, rfl, run_takeDeferred (hm D List.mem_cons_self).2.1, ?_⟩⟩
      refine ih { a1 with defers := ms.map mkD } _ ht rfl (List.nodup_cons.1 hn).2 (fun D' hD' => ?_) ht2.1 ht2.2
      obtain ⟨p1, p2, p3⟩ := hm D' (List.mem_cons_of_mem _ hD')
      have hne : D' ≠ D := fun e => (List.nodup_cons.1 hn).1 (by rw [← e]; exact hD')
      exact ⟨p1, (World.putObj_heap_other hne).trans p2, p3⟩
  have fin : ∀ st', retVC c rs sp.res (sp.f x) st' → RelS E c.nt st' a' w' → LeavesInM Fence.wide 0 P fn a'.tmps (fun e w' => ∃ rs g, e = .returned (retVal rs) ∧ CPost OB w w' bs ∧
      ResOK w' (fun b c => ¬ M b ∧ g ≠ some b ∧ ∃ el f, w'.heap[b]? = some (.cells c el f)) w.heap.size sp.res (sp.f x) rs g) a'.defers .returning w' := by
    intro st' hr hR
    unfold retVC at hr
    split at hr
    case h_2 => exact hr.elim
    case h_1 p st1 hfz =>
      split at hr
      case h_2 => exact hr.elim
      case h_1 q y hq =>
        obtain ⟨r1, hr⟩ := OP.andK_out hr
        obtain ⟨r2, r3⟩ := hr.out
        have r3 := eqD_eq _ _ _ r3
        obtain ⟨η, g, H⟩ := freezes_sound hfz r1 hR
        obtain ⟨⟨ms, m1, m2, m3⟩, _⟩ := g.defers
        refine leave _ st1 η a'.tmps (fun a1 w1 ht g H => ?_) ms a' w' rfl m1 m2 m3 g H
        obtain ⟨vs', gb, k1, k2, k3, k4⟩ := resOf_sound hCE.tbl g H rs sp.res q y hq r2 (.inr fun _ h => h)
        rw [r3] at k4
        rw [← hrs, ht] at k1
        refine ⟨_, results_run k1, vs', gb, rfl, ?_, k4 _ (fun b c ⟨m1, m2, m3⟩ => ⟨fun hm => m1 (.inl hm), fun hg => ?_, m3⟩)⟩
        · exact { os := g.os, tape := g.tape, output := g.output, size := g.grow, keep := fun b hb hn => g.keep b hb hn (fun h => h), obk := fun b hb i o h1 h2 => g.obkeep b i o (o4 b hb).2 hb h1 h2 }
        · obtain ⟨k, n, hk⟩ := k2 b hg
          exact m2 k n hk
  cases xe with
  | normal => exact fin st' e2 e3
  | exit id => exact e2.elim
  | ret => exact fin st' e2 e3

end
end Go.Eng
namespace Go.Eng.Pu
open Go.Eng Go.Proofs Go.Lib Go
set_option linter.all false
set_option maxRecDepth 100000
set_option maxHeartbeats 1000000

theorem split_in (s sp : ByteArray) (w : World) : Calls Tryz.prog 51 #[.string s, .string sp, .int .i64 0] w fun e w' => e = .returned (.func (.func 76) #[] #[.pointer (some ⟨w.heap.size + 1, 0, none⟩), .pointer (some ⟨w.heap.size, 0, none⟩), .pointer (some ⟨w.heap.size + 2, 0, none⟩)]) ∧ w' = ((w.alloc (.cells #[.string s] 9 (0, 0))).alloc (.cells #[.string sp] 9 (0, 0))).alloc (.cells #[.int .i64 0] 3 (0, 0)) := by
  have mixed := mixed
  have t9 := Tryz.underlying9
  have t3 := Tryz.underlying3
  have a3 : ∀ w, (isAgg 3).run Tryz.prog w = .ok false w := run_isAgg row3
  have a9 : ∀ w, (isAgg 9).run Tryz.prog w = .ok false w := run_isAgg row9
  have hn : Tryz.f51.ntmps = 8 := rfl
  go_enter Tryz.func51, hn
  go_wp2
  go_ret
  exact ⟨rfl, rfl⟩

/-- strings.SplitSeq: the iterator's value, and its three variables. -/
theorem split_calls (s sp : ByteArray) (w : World) : Calls Tryz.prog 23 #[.string s, .string sp] w fun e w' => e = .returned (.func (.func 76) #[] #[.pointer (some ⟨w.heap.size + 1, 0, none⟩), .pointer (some ⟨w.heap.size, 0, none⟩), .pointer (some ⟨w.heap.size + 2, 0, none⟩)]) ∧ w' = ((w.alloc (.cells #[.string s] 9 (0, 0))).alloc (.cells #[.string sp] 9 (0, 0))).alloc (.cells #[.int .i64 0] 3 (0, 0)) := by
  have mixed := mixed
  have e51 : ∀ args w, (callFunc 51 args).run Tryz.prog w = .ok (.enter 51 args) w := enters_of Tryz.func51 (by kernel_rfl) rfl
  have hn : Tryz.f23.ntmps = 8 := rfl
  go_enter Tryz.func23, hn
  go_wp2_with (go_at_fn 51; refine (split_in _ _ _).mono ?_; rintro e w' ⟨rfl, rfl⟩)
  go_ret
  exact ⟨rfl, rfl⟩

/-- The environment of a body. -/
@[reducible] noncomputable def EH (M : Nat → Prop) (bs : List Nat) (w : World) (nd : Bool) : Env := { P := Tryz.prog, M := M, mu := fun b => b ∈ bs, w0 := w, OB := OB, x := { nd := nd } }

theorem nd_on {M : Nat → Prop} {bs : List Nat} {w0 w : World} {nt : Nat} {st : St} {a : Act} (hR : RelS (EH M bs w0 false) nt st a w) (hd : a.defers = []) : RelS (EH M bs w0 true) nt st a w :=
  let ⟨η, g, H⟩ := hR
  ⟨η, ⟨g.size, g.lim, g.defers, g.os, g.tape, g.output, g.grow, g.keep, g.own, g.dis, g.inj, g.old, g.obkeep, fun _ => hd⟩, H⟩
theorem nd_off {M : Nat → Prop} {bs : List Nat} {w0 w : World} {nt : Nat} {st : St} {a : Act} (hR : RelS (EH M bs w0 true) nt st a w) : RelS (EH M bs w0 false) nt st a w ∧ a.defers = [] :=
  let ⟨η, g, H⟩ := hR
  ⟨⟨η, ⟨g.size, g.lim, g.defers, g.os, g.tape, g.output, g.grow, g.keep, g.own, g.dis, g.inj, g.old, g.obkeep, fun h => by cases h⟩, H⟩, g.nd rfl⟩

/-- A part of a body, walked by the executor. -/
theorem pieceH {ctr : List (Nat × Spec)} (hctr : All ctr) {nt : Nat} {anns : List (St → LoopAnn)} {b : Code} {st0 target : St} {a : Act} {M : Nat → Prop} {bs : List Nat} {w0 w : World} {Q : Exit → Act → World → Prop} (hR : RelS (EH M bs w0 true) nt st0 a w) (hd : dstOk nt b = true) (hnr : noRange b = true)
    (hvc : vc (cfg {} ctr nt) (par (cfg {} ctr nt)) anns b 0 st0 (fun e st => match e with | .normal => Goal (∃ s : Unit, ent st target ∧ True) | _ => False))
    (hQ : ∀ a' w', RelS (EH M bs w0 true) nt target a' w' → Q .normal a' w') : b.wpIn (Fw none) 0 Tryz.prog Q a w := by
  refine wpIn_mono (vc_sound (cfgOk (X := {}) trivial hctr) (par_sound mixed (cfgOk (X := {}) trivial hctr)) b 0 st0 _ a w (EH M bs w0 true) none rfl rfl (.inr hnr) hd hvc hR) ?_
  rintro e a' w' ⟨⟨xe, st', h1, h2, h3⟩, hag⟩
  subst h1
  cases xe with
  | normal =>
    obtain ⟨_, h4, _⟩ := h2.out
    exact hQ a' w' (ent_sound h4 h3)
  | exit id => exact h2.elim
  | ret => exact h2.elim

end Go.Eng.Pu
