/- A range over an iterator whose own blocks lie there from the start, and the iterator of the pieces of a text. Conditions: each lemma's own. -/
import Derived.Test.YtnficfhnfpbhkaaGreatDoorX4
namespace Go.Eng
set_option linter.all false
set_option maxRecDepth 100000

/-- The contract of one iterator's value: g with the captured values cv, which owns the blocks ps0 from the start. -/
def IGen (P : Program) (g : Nat) (isp : ISpec) (x : (rdTy isp.rd).Den) (cv : List Value) (ps0 : List (Nat × Obj)) : Prop :=
  ∀ (l N : Nat) (J Jx : Nat → List (Nat × Obj) → World → Prop) (W : World),
    (∀ i ps W, J i ps W → ∀ p ∈ ps, W.heap[p.1]? = some p.2) →
    (∀ i ps ps' W W', J i ps W → OwnStep W W' ps ps' → J i ps' W') → (∀ i ps ps' W W', Jx i ps W → OwnStep W W' ps ps' → Jx i ps' W') →
    (∀ i ps W, J i ps W → match isp.len x with | some L => i ≤ L | none => i < N) →
    (∀ i ps W1, J i ps W1 → (∀ L, isp.len x = some L → i < L) → YieldAt (Fw none) 0 P l (isp.args x i (encV isp.e (isp.seq x i))) W1 fun e W' => (e = .returned (.bool true) ∧ J (i + 1) ps W') ∨ (e = .returned (.bool false) ∧ Jx i ps W')) →
    J 0 ps0 W →
    CallsIn (Fw none) 0 P g (#[] ++ #[.func (.yield l) #[] #[]] ++ cv.toArray) W fun e W' => (∃ v, e = .returned v) ∧ ((∃ L ps, isp.len x = some L ∧ J L ps W') ∨ ∃ i ps, Jx i ps W')

theorem hpn_rest {E : Env} {ms : List Nat} {D : Nat} (h : E.pins = []) : restP E ms D = (D, .deferred (some [])) :: (ms.map fun D => (D, Obj.deferred (some []))) := by
  simp only [restP, h, List.append_nil]

section
variable {E : Env} {nt : Nat} {η : Eta} {st : St} {a : Act} {w : World}

theorem range_gen {g : Nat} {isp : ISpec} {cv : List Value} {ps0 : List (Nat × Obj)} {ps : Array Nat} {p q : Nat} {x : (rdTy isp.rd).Den} {σ : Type} {head : σ → St} {inv : σ → Prop} {meas : σ → Nat} {B : σ → St → Prop} {ds : List Nat} {K : XE → St → Prop} {f : Operand} {assign body : Code}
    (hx0 : E.x.nd = false) (hI : IGen E.P g isp x cv ps0) (hE : Enters E.P g) (hflat : isp.e.flat = true) (hps : parP ps.toList = some (p, isp.two, q)) (hp : p < nt) (hpd : p ∈ ds) (hq : q < nt) (hqd : q ∈ ds) (hda : ∀ t ∈ dsts assign, t ∈ ds) (hdb : ∀ t ∈ dsts body, t ∈ ds)
    (hfe : a.eval f = .func (.func g) #[] cv.toArray) (hpn : E.pins = []) (hcl : ∀ q ∈ ps0, q.2 ≠ .deferred (some []))
    (hslot : ∀ s, inv s → ∀ t v, Fact.slot t v ∈ head s → t ∉ ds) (s0 : σ) (h0 : inv s0) (hm0 : meas s0 = 0) (hR : RelS (withP E ps0) nt (head s0) a w)
    (hN : isp.len x = none → ∃ N, ∀ s, inv s → meas s < N) (hfin : ∀ s, inv s → isp.len x = some (meas s) → K .normal (head s))
    (hassign : ∀ s, inv s → (∀ L, isp.len x = some L → meas s < L) → ∀ (E1 : Env) (l : Nat) (a1 : Act) (W : World), E1.P = E.P → E1.OB = E.OB → RelS E1 nt (.slot p (.one (.d isp.e (isp.seq x (meas s)))) :: head s) a1 W →
      assign.wpIn (Fw (some l)) 0 E1.P (AgX (dsts assign) a1 (PostX E1 nt fun e st1 => e = .normal ∧ B s st1)) a1 W)
    (hbody : ∀ s st1, B s st1 → ∀ (E1 : Env) (l : Nat) (a1 : Act) (W : World), E1.P = E.P → E1.OB = E.OB → RelS E1 nt st1 a1 W →
      body.wpIn (Fw (some l)) 0 E1.P (AgX (dsts body) a1 (PostX E1 nt fun e st' => match e with | .normal => ∃ s', ent st' (head s') ∧ inv s' ∧ meas s' = meas s + 1 | e => K e (dropS ds st'))) a1 W) :
    (Code.rangeFunc f ps assign body).wpIn (Fw none) 0 E.P (AgX [] a (PostX E nt K)) a w := by
  have hsz : a.tmps.size = nt := by obtain ⟨η, gd, H⟩ := hR; exact gd.size
  obtain ⟨N, hN⟩ : ∃ N, isp.len x = none → ∀ s, inv s → meas s < N := by
    cases hl : isp.len x with
    | none => obtain ⟨N, h⟩ := hN hl; exact ⟨N, fun _ => h⟩
    | some L => exact ⟨0, fun h => by cases h⟩
  refine wpIn_rangeFunc fun fn hfn => ?_
  obtain ⟨rc, hrc⟩ : ∃ rc : LoopState → Option Code → Loop, rc = fun st pe => { state := st, pending := pe, fn, tmps := a.tmps, params := ps, assign, body, defers := w.heap.size } := ⟨_, rfl⟩
  obtain ⟨ms, d1, d2, d3, d4, d5, R0⟩ := range_in (o := .loop (rc .ready none)) hR rfl
  obtain ⟨D, hD⟩ : ∃ D, D = w.heap.size := ⟨_, rfl⟩
  obtain ⟨a0, ha0⟩ : ∃ a0 : Act, a0 = { tmps := a.tmps, defers := [] } := ⟨_, rfl⟩
  obtain ⟨W1, hW1⟩ : ∃ W1, W1 = (w.alloc (.deferred (some []))).alloc (.loop (rc .ready none)) := ⟨_, rfl⟩
  rw [← ha0, ← hW1, ← hD] at R0
  rw [← hD] at d3 d4 d5
  have hfe0 : a0.eval f = .func (.func g) #[] cv.toArray := by rw [ha0]; exact hfe
  have hlow : E.w0.heap.size ≤ D + 1 := Nat.le_succ_of_le d5
  have d4' := d4
  have d4 : ∀ p ∈ restP E ms D, p.1 ≠ D + 1 := fun p hp => d4' p (by
    simp only [restP, withP, List.mem_cons, List.mem_append, List.cons_append] at hp ⊢
    rcases hp with h | h | h <;> simp [h])
  have kd0 : Dis E ms D (D + 1) ps0 := fun p hp => by
    obtain ⟨η, g, H⟩ := R0
    have hin : ∀ q, q ∈ restP (withP E ps0) ms D → W1.heap[q.1]? = some q.2 := fun q hq => (g.defers.2 q (List.mem_cons_of_mem _ hq)).2.1
    have hpm : p ∈ restP (withP E ps0) ms D := by
      simp only [restP, withP, List.mem_cons, List.mem_append, List.cons_append]; simp [hp]
    refine ⟨d4' p hpm, fun q hq he => ?_⟩
    have h1 := hin p hpm
    rw [hpn_rest hpn] at hq
    have hqm : q ∈ restP (withP E ps0) ms D := by
      simp only [restP, withP, List.mem_cons, List.mem_append, List.cons_append, List.append_nil] at hq ⊢
      rcases hq with h | h <;> simp [h]
    have h2 := hin q hqm
    have hq2 : q.2 = .deferred (some []) := by
      simp only [List.mem_cons, List.mem_map] at hq
      rcases hq with rfl | ⟨D', _, rfl⟩ <;> rfl
    rw [he, h2] at h1
    exact hcl p hp ((Option.some.inj h1).symm.trans hq2)
  have hloop : ∀ r : Loop, Obj.loop r ≠ .deferred (some []) := fun r h => by cases h
  refine ⟨D + 1, [mkD D], W1, { target := .fn (.func g) cv.toArray, args := #[] ++ #[.func (.yield (D + 1)) #[] #[]] }, W1, g, #[] ++ #[.func (.yield (D + 1)) #[] #[]] ++ cv.toArray, W1, ?_, ?_, ?_, ?_, fun h => (by cases h), ?_⟩
  · rw [hW1, hrc, hD]; exact run_enterLoop_outer _ _ _ _ _
  · simp only [resolve, hfe]
    simp [go_sem, Deferred.ofValue]
  · intro f' _; trivial
  · obtain ⟨fn', e1, e2, e3⟩ := hE
    have e2' : ¬ fn'.name = "runtime.NumGoroutine" := by simpa using e2
    have e3' : ¬ fn'.body = none := by intro hn; rw [hn] at e3; cases e3
    simp [invoke, callFunc, e1, e2', e3']
  · refine (hI (D + 1) N
      (fun i ps W => ∃ s, inv s ∧ meas s = i ∧ (∀ L, isp.len x = some L → i ≤ L) ∧ Dis E ms D (D + 1) ps ∧ RelS (inRange (withP E ps) ms D (D + 1) (.loop (rc .ready none))) nt (head s) a0 W)
      (fun i ps W => ∃ e st' c, ((e = XE.ret ∧ c = Code.ret) ∨ ∃ id, e = XE.exit id ∧ c = Code.exit id) ∧ K e st' ∧ Dis E ms D (D + 1) ps ∧ RelS (inRange (withP E ps) ms D (D + 1) (.loop (rc .done (some c)))) nt st' a0 W)
      W1 ?_ ?_ ?_ ?_ ?_ ?_).mono ?_
    · rintro i ps W ⟨s, k1, k2, k3, kd, η, gd, H⟩
      exact fun q hq => (gd.defers.2 q (List.mem_cons_of_mem _ (List.mem_append.2 (.inr (List.mem_append.2 (.inl hq)))))).2.1
    · rintro i ps ps' W W' ⟨s, k1, k2, k3, kd, k4⟩ hg
      exact ⟨s, k1, k2, k3, range_step k4 (by rw [ha0]) kd hg⟩
    · rintro i ps ps' W W' ⟨e, st', c, k1, k2, kd, k3⟩ hg
      exact ⟨e, st', c, k1, k2, range_step k3 (by rw [ha0]) kd hg⟩
    · rintro i ps W ⟨s, k1, k2, k3, k4⟩
      split
      · rename_i L hL; exact k3 L hL
      · rename_i hL; rw [← k2]; exact hN hL s k1
    · rintro i ps W ⟨s, k1, k2, k3, kd, k4⟩ hlt
      subst k2
      have d4 : ∀ q ∈ restP (withP E ps) ms D, q.1 ≠ D + 1 := fun q hq => (rest_with hq).elim (fun h => (kd q h).1) (d4 q)
      have hlow : (withP E ps).w0.heap.size ≤ D + 1 := hlow
      have hl := pin_at k4
      have hdf0 : a0.defers = [] := by rw [ha0]
      obtain ⟨tm, htm, R1, hag1⟩ := params_rel (x := x) (i := meas s) hps k4 hdf0 hp hpd hq hqd hflat (hslot s k1)
      have hsz1 : (rc .ready none).params.size = (isp.args x (meas s) (encV isp.e (isp.seq x (meas s)))).size := by
        rw [hrc]; exact params_size hps
      have hy := run_yield (P := E.P) (args := isp.args x (meas s) (encV isp.e (isp.seq x (meas s)))) hl hsz1.symm
      have htm : ((rc .ready none).params.zip (isp.args x (meas s) (encV isp.e (isp.seq x (meas s))))).foldl (fun tmps (t, a) => tmps.setIfInBounds t a) (rc .ready none).tmps = tm := by
        rw [← htm, hrc, ha0]
      rw [htm] at hy
      have e1 : (rc .ready none).fn = fn := by rw [hrc]
      have e2 : (rc .ready none).assign = assign := by rw [hrc]
      have e3 : (rc .ready none).body = body := by rw [hrc]
      rw [e1, e2, e3] at hy
      have hsz0 : a0.tmps.size = nt := by rw [ha0]; exact hsz
      refine ⟨fn, _, assign, body, hy, roundIn_of_wpIn hfn (wpIn_mono (hassign s k1 hlt (inRange (withP E ps) ms D (D + 1) (.loop (rc .ready none))) (D + 1) _ W rfl rfl R1) ?_)⟩
      rintro e a2 W2 ⟨⟨xe, st1, g1, ⟨g2, hB⟩, R2⟩, hag⟩
      subst g1 g2
      have hag := hag (by intro h; cases h)
      have hl2 := pin_at R2
      refine ⟨_, run_beginRound hl2 (by rw [hrc]), ?_⟩
      have R3 := turn (o' := .loop { rc .ready none with state := .busy }) (a' := a2) (ds := []) R2 (hloop _) d4 hlow (by obtain ⟨η, gd, _⟩ := R2; exact gd.size) (Agree.refl _ _) (fun _ _ _ h => by cases h) (.inr rfl)
      refine wpIn_mono (hbody s st1 hB (inRange (withP E ps) ms D (D + 1) (.loop { rc .ready none with state := .busy })) (D + 1) a2 _ rfl rfl R3) ?_
      rintro e a3 W3 ⟨⟨xe, st', g1, g2, R4⟩, hag3⟩
      subst g1
      have hl4 := pin_at R4
      have hagA := (hag1.trans (hag.more hda))
      cases xe with
      | normal =>
        obtain ⟨s', q1, q2, q3⟩ := g2
        have hag4 := hagA.trans ((hag3 (by intro h; cases h)).more hdb)
        have R6 := turn (o' := .loop (rc .ready none)) (a' := a0) (ds := ds) (ent_sound q1 R4) (hloop _) d4 hlow hsz0 hag4 (hslot s' q2) (.inl hdf0)
        refine ⟨_, _, run_endRound none hl4, .inl ⟨rfl, s', q2, q3, fun L hL => hlt L hL, kd, ?_⟩⟩
        subst hrc
        exact R6
      | exit id =>
        have hag4 := hagA.trans ((hag3 (by intro h; cases h)).more hdb)
        have R6 := turn (o' := .loop (rc .done (some (.exit id)))) (a' := a0) (ds := ds) (rel_sub R4 (fun f hf => dropS_mem hf)) (hloop _) d4 hlow hsz0 hag4 (fun t s h => dropS_slot (ds := ds) h) (.inl hdf0)
        refine ⟨_, _, run_endRound (some (.exit id)) hl4, .inr ⟨rfl, .exit id, dropS ds st', .exit id, .inr ⟨id, rfl, rfl⟩, g2, kd, ?_⟩⟩
        subst hrc
        exact R6
      | ret =>
        have hag4 := hagA.trans ((hag3 (by intro h; cases h)).more hdb)
        have R6 := turn (o' := .loop (rc .done (some .ret))) (a' := a0) (ds := ds) (rel_sub R4 (fun f hf => dropS_mem hf)) (hloop _) d4 hlow hsz0 hag4 (fun t s h => dropS_slot (ds := ds) h) (.inl hdf0)
        refine ⟨_, _, run_endRound (some .ret) hl4, .inr ⟨rfl, .ret, dropS ds st', .ret, .inl ⟨rfl, rfl⟩, g2, kd, ?_⟩⟩
        subst hrc
        exact R6
    · refine ⟨s0, h0, hm0, fun _ _ => Nat.zero_le _, kd0, R0⟩
    · rintro e W2 ⟨⟨v, rfl⟩, (⟨L, ps, hL, s, k1, k2, k3, kd, k4⟩ | ⟨i, ps, e, st', c, k1, k2, kd, k3⟩)⟩
      · have d4 : ∀ q ∈ restP (withP E ps) ms D, q.1 ≠ D + 1 := fun q hq => (rest_with hq).elim (fun h => (kd q h).1) (d4 q)
        have hl := pin_at k4
        refine ⟨_, _, run_endLoop hl (by rw [hrc]; simp), ?_⟩
        have hpd : (rc .ready none).pending = none := by rw [hrc]
        rw [hpd]
        exact ⟨⟨.normal, head s, rfl, hfin s k1 (by rw [k2]; exact hL), drop_pins (range_out (E := withP E ps) k4 (hloop _) d4 hlow (by rw [ha0]) d1 d2 d3 hx0)⟩, fun _ => fun _ _ => rfl⟩
      · have d4 : ∀ q ∈ restP (withP E ps) ms D, q.1 ≠ D + 1 := fun q hq => (rest_with hq).elim (fun h => (kd q h).1) (d4 q)
        have hl := pin_at k3
        refine ⟨_, _, run_endLoop hl (by rw [hrc]; simp), ?_⟩
        have hpd : (rc .done (some c)).pending = some c := by rw [hrc]
        rw [hpd]
        rcases k1 with ⟨rfl, rfl⟩ | ⟨id, rfl, rfl⟩
        · exact wpIn_ret ⟨⟨.ret, st', rfl, k2, drop_pins (range_out (E := withP E ps) k3 (hloop _) d4 hlow (by rw [ha0]) d1 d2 d3 hx0)⟩, fun _ => fun _ _ => rfl⟩
        · exact wpIn_exit ⟨⟨.exit id, st', rfl, k2, drop_pins (range_out (E := withP E ps) k3 (hloop _) d4 hlow (by rw [ha0]) d1 d2 d3 hx0)⟩, fun _ => fun _ _ => rfl⟩
end

end Go.Eng
