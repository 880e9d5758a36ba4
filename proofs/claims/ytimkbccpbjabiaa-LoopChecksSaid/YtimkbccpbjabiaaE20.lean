/- The verification condition of a region whose order is open, joined to the executor. Conditions: the program follows every order; the table of types is the program's; each contract in use holds. -/
import Derived.Test.YtimkbccpbjabiaaE19
set_option linter.all false
namespace Go.Eng

section
variable {E : Env} {c : Cfg} {ops : Array Oper} {befs : List Nat} {ks : List Kill}

theorem subN_mem {l l' : List Nat} (h : subN l l' = true) : ∀ n ∈ l, n ∈ l' := by
  induction l with
  | nil => intro n hn; cases hn
  | cons m r ih =>
    simp only [subN, Bool.and_eq_true] at h
    intro n hn
    rcases List.mem_cons.1 hn with rfl | hn
    · exact memN_iff.1 h.1
    · exact ih h.2 n hn

theorem subC_mem {l l' : List (Nat × Nat)} (h : subC l l' = true) : ∀ n ∈ l, n ∈ l' := by
  induction l with
  | nil => intro n hn; cases hn
  | cons m r ih =>
    simp only [subC, Bool.and_eq_true] at h
    intro n hn
    rcases List.mem_cons.1 hn with rfl | hn
    · exact memC_iff.1 h.1
    · exact ih h.2 n hn

theorem memN_sub {l l' : List Nat} (h : ∀ n ∈ l, n ∈ l') {n : Nat} (hn : memN n l' = false) : memN n l = false := by
  cases hb : memN n l with
  | false => rfl
  | true => rw [memN_iff.2 (h n (memN_iff.1 hb))] at hn; cases hn

theorem memC_sub {l l' : List (Nat × Nat)} (h : ∀ n ∈ l, n ∈ l') {k o : Nat} (hn : memC k o l' = false) : memC k o l = false := by
  cases hb : memC k o l with
  | false => rfl
  | true => rw [memC_iff.2 (h _ (memC_iff.1 hb))] at hn; cases hn

theorem ment1_sub {l l' : List Nat} (h : ∀ n ∈ l, n ∈ l') {s : S1} (hs : s.ment l' = false) : s.ment l = false := by
  cases s <;> first | rfl | exact memN_sub h hs

theorem anyS_sub {l l' : List Nat} (h : ∀ n ∈ l, n ∈ l') : ∀ {cs : List S1}, anyS (S1.ment l') cs = false → anyS (S1.ment l) cs = false
  | [], _ => rfl
  | s :: r, hs => by
    simp only [anyS, Bool.or_eq_false_iff] at hs ⊢
    exact ⟨ment1_sub h hs.1, anyS_sub h hs.2⟩

theorem mentV_sub {l l' : List Nat} (h : ∀ n ∈ l, n ∈ l') {s : SV} (hs : s.ment l' = false) : s.ment l = false := by
  cases s with
  | one s => exact ment1_sub h hs
  | agg cs => exact anyS_sub h hs
  | tup cs => exact anyS_sub h hs

theorem subKill_surv {K K' : Kill} (h : subKill K K' = true) {f : Fact} (hf : K'.surv f = true) : K.surv f = true := by
  simp only [subKill, Bool.and_eq_true] at h
  obtain ⟨⟨⟨⟨⟨h1, h2⟩, h3⟩, h4⟩, h5⟩, h6⟩ := h
  have h1 := subN_mem h1
  have h2 := subN_mem h2
  have h3 := subC_mem h3
  have h4 := subN_mem h4
  have h5 := subN_mem h5
  have h6 := subN_mem h6
  cases f with
  | slot t s =>
    simp only [Kill.surv, Bool.and_eq_true, Bool.not_eq_true'] at hf ⊢
    exact ⟨memN_sub h1 hf.1, mentV_sub h2 hf.2⟩
  | cell k off s =>
    simp only [Kill.surv, Bool.and_eq_true, Bool.not_eq_true'] at hf ⊢
    exact ⟨⟨⟨⟨memN_sub h2 hf.1.1.1.1, memC_sub h3 hf.1.1.1.2⟩, memN_sub h5 hf.1.1.2⟩, memN_sub h6 hf.1.2⟩, ment1_sub h2 hf.2⟩
  | row k el e xs =>
    simp only [Kill.surv, Bool.and_eq_true, Bool.not_eq_true'] at hf ⊢
    exact ⟨⟨⟨memN_sub h2 hf.1.1.1, memN_sub h4 hf.1.1.2⟩, memN_sub h5 hf.1.2⟩, memN_sub h6 hf.2⟩
  | ob k i =>
    simp only [Kill.surv, Bool.and_eq_true, Bool.not_eq_true'] at hf ⊢
    exact ⟨⟨memN_sub h2 hf.1.1, memN_sub h4 hf.1.2⟩, memN_sub h5 hf.2⟩

theorem frz_in {nt k : Nat} {F : Fact → Prop} {K : Kill} {add add' : St} {p : Prop} {a : Act} {w : World} (hk : k ∈ K.keys) (h : freeze k add = some (p, add')) (hp : p)
    (hR : Rel E nt (upd F add K) a w) : Rel E nt (upd F add' K) a w := by
  unfold freeze at h
  split at h
  case h_2 => cases h
  case h_1 r hr =>
    simp only [Option.some.injEq, Prod.mk.injEq] at h
    obtain ⟨h1, h2⟩ := h
    rw [← h1] at hp
    subst h2
    obtain ⟨η, g, H⟩ := hR
    have hrow := H _ (.inl (findRow_mem hr))
    refine ⟨etaDrop η k, (etaDrop_good g k).1, fun f hf => ?_⟩
    rcases hf with hf | ⟨hf, hs⟩
    · obtain ⟨q, q1, rfl, q3⟩ := mem_frzSt hf
      exact frzF_holds g hrow (H q (.inl q1)) (fun hm => frzStP_mem hp q q1 hm) q3
    · have hm := surv_ment hs
      refine Fact.keep (ks := K.keys) (etaDrop_good g k).2 (fun j hj => etaDrop_other ?_) hm (H f (.inr ⟨hf, hs⟩))
      intro hjk
      simp only [List.mem_singleton] at hjk
      subst hjk
      exact hj hk

theorem frzRes_sound {nt : Nat} {F : Fact → Prop} {a : Act} {w : World} : ∀ {need : List Nat} {r r' : Res}, frzRes need r = some r' → r'.ob.hold → r'.kill = r.kill ∧ r.ob.hold ∧
    (Rel E nt (upd F r.add r.kill) a w → Rel E nt (upd F r'.add r'.kill) a w)
  | [], r, r', h, hob => by simp only [frzRes, Option.some.injEq] at h; subst h; exact ⟨rfl, hob, id⟩
  | k :: l, r, r', h, hob => by
    simp only [frzRes] at h
    cases hm : memN k r.kill.keys with
    | false => rw [hm] at h; exact frzRes_sound h hob
    | true =>
      rw [hm] at h
      simp only [cond_true] at h
      split at h
      · rename_i p add hf
        obtain ⟨h1, h2, h3⟩ := frzRes_sound (F := F) (a := a) (w := w) (nt := nt) h hob
        exact ⟨h1, h2.1, fun hR => h3 (frz_in (memN_iff.1 hm) hf h2.2 hR)⟩
      · exact frzRes_sound h hob

theorem parOne_sound (hC : CfgOk E.P E.OB c) {need : List Nat} {Ki : Kill} {o : Oper} {M : St} {K : St → Prop} (h : parOne c need Ki o M K) : ∃ add, K add ∧
    ∀ (F : Fact → Prop), (∀ f ∈ M, F f) → ∀ (a : Act) (w : World) (Q : Exit → Act → World → Prop) (K' : Act → World → Prop), Rel E c.nt F a w →
      (∀ a' w', Rel E c.nt (fun f => f ∈ add ∨ (F f ∧ Ki.surv f = true)) a' w' → K' a' w') → o.wp E.P a w K' Q := by
  unfold parOne at h
  split at h
  case h_2 => exact h.elim
  case h_1 r hr =>
    split at h
    case h_2 => exact h.elim
    case h_1 r' hr' =>
      cases hsub : subKill r'.kill Ki with
      | false => rw [hsub] at h; exact h.elim
      | true =>
        rw [hsub] at h
        obtain ⟨hob, h⟩ := OP.andK_out h
        rw [force_eq] at h
        refine ⟨r'.add, h, fun F hF a w Q K' hR hK' => ?_⟩
        obtain ⟨h1, h2, _⟩ := frzRes_sound (F := F) (a := a) (w := w) (E := E) (nt := c.nt) hr' hob
        have up : ∀ a' w', Rel E c.nt (upd F r.add r.kill) a' w' → K' a' w' := fun a' w' hr'' => by
          have := (frzRes_sound (F := F) (a := a') (w := w') (E := E) (nt := c.nt) hr' hob).2.2 hr''
          exact hK' a' w' (this.weaken fun f hf => by
            rcases hf with hf | ⟨hf, hs⟩
            · exact .inl hf
            · exact .inr ⟨hf, subKill_surv hsub hs⟩)
        obtain ⟨η, g, H⟩ := hR
        unfold stepRes at hr
        split at hr
        case h_2 => cases hr
        case h_1 e he =>
          have hsem := effOf_sound hC g (fun f hf => H f (hF f hf)) he
          split at hr
          · rename_i hd
            exact toRes_sound g H hsem (by rw [hd]; exact hr) (fun d hd' => by rw [hd] at hd'; cases hd') h2 up
          · rename_i d hd
            cases hb : Nat.blt d c.nt with
            | false => rw [hb] at hr; simp at hr
            | true =>
              rw [hb] at hr
              exact toRes_sound g H hsem (by rw [hd]; exact hr) (fun d' hd' => by
                rw [hd] at hd'
                simp only [Option.some.injEq] at hd'
                subst hd'
                simpa using hb) h2 up

theorem undefP_sound {Ki : Kill} {d : Option Nat} {K : St → Prop} (h : undefP c Ki d K) : ∃ add, K add ∧
    ∀ (F : Fact → Prop) (a : Act) (w : World), Rel E c.nt F a w → Rel E c.nt (fun f => f ∈ add ∨ (F f ∧ Ki.surv f = true)) (a.put d undef) w := by
  cases d with
  | none => exact ⟨[], h, fun F a w hR => hR.weaken fun f hf => by
      rcases hf with hf | hf
      · cases hf
      · exact hf.1⟩
  | some d =>
    simp only [undefP] at h
    cases hb : (Nat.blt d c.nt && memN d Ki.slots) with
    | false => rw [hb] at h; exact h.elim
    | true =>
      rw [hb] at h
      rw [Bool.and_eq_true] at hb
      refine ⟨_, h, fun F a w ⟨η, g, H⟩ => ?_⟩
      refine (put_rel g H (d := d) (by simpa using hb.1) (s := .one (.v undef)) (v := undef) rfl).weaken fun f hf => ?_
      rcases hf with hf | ⟨hf, hs⟩
      · exact .inl hf
      · refine .inr ⟨hf, subKill_surv (K := { slots := [d] }) (K' := Ki) ?_ hs⟩
        simp [subKill, subN, subC, hb.2]

theorem tagK_spec {src ex : Nat} : ∀ {add : St} {acc : List PF} {K : List PF → Prop}, tagK ks src ex add acc K → ∃ acc', K acc' ∧ (∀ p ∈ acc, p ∈ acc') ∧ (∀ f ∈ add, ∃ p ∈ acc', p.f = f ∧ p.src = src) ∧
    ∀ p ∈ acc', p ∈ acc ∨ (p.src = src ∧ p.f ∈ add ∧ p.kill = Nat.land (killers p.f 0 1 ks) ex)
  | [], acc, K, h => ⟨acc, h, fun _ h => h, fun f hf => (by cases hf), fun p hp => .inl hp⟩
  | f :: r, acc, K, h => by
    simp only [tagK, forceN_eq] at h
    obtain ⟨acc', h1, h2, h3, h4⟩ := tagK_spec h
    refine ⟨acc', h1, fun p hp => h2 p (List.mem_cons_of_mem _ hp), fun f' hf' => ?_, fun p hp => ?_⟩
    · rcases List.mem_cons.1 hf' with rfl | hf'
      · exact ⟨_, h2 _ List.mem_cons_self, rfl, rfl⟩
      · exact h3 f' hf'
    · rcases h4 p hp with h | ⟨h5, h6, h7⟩
      · rcases List.mem_cons.1 h with rfl | h
        · exact .inr ⟨rfl, List.mem_cons_self, rfl⟩
        · exact .inl h
      · exact .inr ⟨h5, List.mem_cons_of_mem _ h6, h7⟩

theorem tag0_spec : ∀ {st : St} {K : List PF → Prop}, tag0 ks st K → ∃ acc, K acc ∧ ∀ p ∈ acc, p.f ∈ st ∧ p.src = 0 ∧ p.kill = killers p.f 0 1 ks
  | [], K, h => ⟨[], h, fun p hp => by cases hp⟩
  | f :: r, K, h => by
    simp only [tag0, forceN_eq] at h
    obtain ⟨acc, h1, h2⟩ := tag0_spec h
    refine ⟨_, h1, fun p hp => ?_⟩
    rcases List.mem_cons.1 hp with rfl | hp
    · exact ⟨List.mem_cons_self, rfl, rfl⟩
    · obtain ⟨h3, h4⟩ := h2 p hp
      exact ⟨List.mem_cons_of_mem _ h3, h4⟩

theorem findPF_mem {t src kill : Nat} {x : Bool} : ∀ {acc : List PF}, findPF t acc = some (src, kill, x) → (⟨src, kill, .slot t (.one (.d .bool x))⟩ : PF) ∈ acc
  | [], h => by simp [findPF] at h
  | p :: r, h => by
    unfold findPF at h
    split at h
    · rename_i src' kill' t' y
      cases hb : Nat.beq t' t with
      | true =>
        rw [hb] at h
        simp only [cond_true, Option.some.injEq, Prod.mk.injEq] at h
        obtain ⟨rfl, rfl, rfl⟩ := h
        have := Nat.eq_of_beq_eq_true hb
        subst this
        exact List.mem_cons_self
      | false =>
        rw [hb] at h
        exact List.mem_cons_of_mem _ (findPF_mem (acc := r) h)
    · exact List.mem_cons_of_mem _ (findPF_mem (acc := r) h)

def Init (E : Env) (nt : Nat) (st0 : St) (acc : List PF) : Prop := ∀ a w, RelS E nt st0 a w → Rel E nt (fun f => ∃ p ∈ acc, p.f = f ∧ p.src = 0) a w

theorem StepOk.ext {nt : Nat} {acc acc' : List PF} {j : Nat} (h : StepOk E nt ops befs ks acc j) (hsub : ∀ p ∈ acc, p ∈ acc') (hnew : ∀ p ∈ acc', p ∈ acc ∨ p.src ≠ 2 ^ j) : StepOk E nt ops befs ks acc' j := by
  obtain ⟨m, Ki, M, h1, h2, h3, h4⟩ := h
  refine ⟨m, Ki, M, h1, h2, fun f hf => maskPF_mono hsub (h3 f hf), fun F hF a w Q K hR hK => h4 F hF a w Q K hR fun a' w' hR' => hK a' w' (hR'.weaken fun f hf => ?_)⟩
  rcases hf with ⟨p, p1, p2, p3⟩ | hf
  · rcases hnew p p1 with h | h
    · exact .inl ⟨p, h, p2, p3⟩
    · exact absurd p3 h
  · exact .inr hf

theorem lb_of {η : Eta} {a : Act} {w : World} {t : Nat} {x b : Bool} (hx : x = b) (h : Fact.holds E η a w (.slot t (.one (.d .bool x)))) : Fact.holds E η a w (.slot t (.one (.lb b))) := by
  have := holds_bool (h : holdsV (vw E η w) η (.one (.d .bool x)) _)
  rw [hx] at this
  exact this

theorem rel_lb {nt : Nat} {F F' : Fact → Prop} {t : Nat} {x b : Bool} (hx : x = b) {a : Act} {w : World} (hR : Rel E nt F a w) (h : ∀ f, F' f → F f ∨ (f = .slot t (.one (.lb b)) ∧ F (.slot t (.one (.d .bool x))))) : Rel E nt F' a w := by
  obtain ⟨η, g, H⟩ := hR
  refine ⟨η, g, fun f hf => ?_⟩
  rcases h f hf with h | ⟨rfl, h⟩
  · exact H f h
  · exact lb_of hx (H _ h)

theorem lb_step {nt : Nat} {acc : List PF} {q : PF} {t : Nat} {x b : Bool} (hx : x = b) (hq : q ∈ acc) (hf : q.f = .slot t (.one (.d .bool x))) {j : Nat} (h : StepOk E nt ops befs ks acc j) :
    StepOk E nt ops befs ks (⟨q.src, q.kill, .slot t (.one (.lb b))⟩ :: acc) j := by
  obtain ⟨m, Ki, M, h1, h2, h3, h4⟩ := h
  refine ⟨m, Ki, M, h1, h2, fun f hf => maskPF_mono (fun p hp => List.mem_cons_of_mem _ hp) (h3 f hf), fun F hF a w Q K hR hK => h4 F hF a w Q K hR fun a' w' hR' => hK a' w' (rel_lb hx hR' (t := t) fun f hf' => ?_)⟩
  rcases hf' with ⟨p, p1, p2, p3⟩ | hf'
  · rcases List.mem_cons.1 p1 with rfl | p1
    · exact .inr ⟨p2.symm, .inl ⟨q, hq, hf, p3⟩⟩
    · exact .inl (.inl ⟨p, p1, p2, p3⟩)
  · exact .inl (.inr hf')

theorem lb_init {nt : Nat} {st0 : St} {acc : List PF} {q : PF} {t : Nat} {x b : Bool} (hx : x = b) (hq : q ∈ acc) (hf : q.f = .slot t (.one (.d .bool x))) (h : Init E nt st0 acc) :
    Init E nt st0 (⟨q.src, q.kill, .slot t (.one (.lb b))⟩ :: acc) := by
  intro a w hR
  refine rel_lb hx (h a w hR) (t := t) fun f ⟨p, p1, p2, p3⟩ => ?_
  rcases List.mem_cons.1 p1 with rfl | p1
  · exact .inr ⟨p2.symm, q, hq, hf, p3⟩
  · exact .inl ⟨p, p1, p2, p3⟩

theorem lb_kill {n : Nat} {acc : List PF} {q : PF} {t : Nat} {x b : Bool} (hq : q ∈ acc) (hf : q.f = .slot t (.one (.d .bool x))) (h : KillOk n befs ks acc) : KillOk n befs ks (⟨q.src, q.kill, .slot t (.one (.lb b))⟩ :: acc) := by
  intro p hp
  rcases List.mem_cons.1 hp with rfl | hp
  · have := h q hq
    rw [hf] at this
    exact this
  · exact h p hp

theorem isYes_eq {g : GV} (h : isYes g = true) : g = .yes := by cases g <;> simp [isYes] at h; rfl
theorem isNo_eq {g : GV} (h : isNo g = true) : g = .no := by cases g <;> simp [isNo] at h; rfl

theorem parOps_sound (hC : CfgOk E.P E.OB c) {need : List Nat} {st0 : St} {K : List PF → Prop} : ∀ (l : List Oper) (ms : List Nat) (kr : List Kill) (i : Nat) (acc : List PF),
    (∀ t, l[t]? = ops[i + t]?) → (∀ t, ms[t]? = befs[i + t]?) → (∀ t, kr[t]? = ks[i + t]?) → parOps c ops need befs ks l ms kr (2 ^ i) acc K →
    KillOk i befs ks acc → (∀ j, j < i → StepOk E c.nt ops befs ks acc j) → Init E c.nt st0 acc →
    ∃ acc', KillOk (i + l.length) befs ks acc' ∧ (∀ j, j < i + l.length → StepOk E c.nt ops befs ks acc' j) ∧ Init E c.nt st0 acc' ∧ K acc'
  | [], ms, kr, i, acc, _, _, _, h, h1, h2, h3 => ⟨acc, h1, h2, h3, by simpa [parOps] using h⟩
  | _ :: _, [], _, i, acc, _, _, _, h, _, _, _ => by simp [parOps] at h
  | _ :: _, _ :: _, [], i, acc, _, _, _, h, _, _, _ => by simp [parOps] at h
  | o :: r, m :: ms, Ki :: kr, i, acc, hl, hms, hkr, h, h1, h2, h3 => by
    have ho : ops[i]? = some o := by have := hl 0; simpa using this.symm
    have hm : befs[i]? = some m := by have := hms 0; simpa using this.symm
    have hK : ks[i]? = some Ki := by have := hkr 0; simpa using this.symm
    have go : ∀ (acc1 : List PF) (add : St), (tagK ks (2 ^ i) (exclOf (2 ^ i) m 1 befs) add acc1 fun acc' => parOps c ops need befs ks r ms kr (2 * 2 ^ i) acc' K) → KillOk i befs ks acc1 →
        (∀ j, j < i → StepOk E c.nt ops befs ks acc1 j) → Init E c.nt st0 acc1 → (∀ acc', (∀ p ∈ acc1, p ∈ acc') → (∀ f, Adds acc' i f → f ∈ add) → StepOk E c.nt ops befs ks acc' i) →
        ∃ acc', KillOk (i + (o :: r).length) befs ks acc' ∧ (∀ j, j < i + (o :: r).length → StepOk E c.nt ops befs ks acc' j) ∧ Init E c.nt st0 acc' ∧ K acc' := by
      intro acc1 add ht k1 k2 k3 k4
      obtain ⟨acc', t1, t2, t3, t4⟩ := tagK_spec ht
      have hsrc : ∀ p ∈ acc1, p.src ≠ 2 ^ i := by
        intro p hp hs
        rcases k1 p hp with ⟨q1, _⟩ | ⟨l, ml, q0, q1, _⟩
        · have := Nat.two_pow_pos i; omega
        · have := pow_inj (q1.symm.trans hs); omega
      rw [two_mul_pow] at t1
      have hlen : i + (o :: r).length = i + 1 + r.length := by simp; omega
      rw [hlen]
      refine parOps_sound hC r ms kr (i + 1) acc' (fun t => ?_) (fun t => ?_) (fun t => ?_) t1 ?_ ?_ ?_
      · have := hl (t + 1); simp only [List.getElem?_cons_succ] at this; rw [this]; congr 1; omega
      · have := hms (t + 1); simp only [List.getElem?_cons_succ] at this; rw [this]; congr 1; omega
      · have := hkr (t + 1); simp only [List.getElem?_cons_succ] at this; rw [this]; congr 1; omega
      · intro p hp
        rcases t4 p hp with h | ⟨h5, h6, h7⟩
        · rcases k1 p h with q | ⟨l, ml, q0, q1, q2, q3⟩
          · exact .inl q
          · exact .inr ⟨l, ml, by omega, q1, q2, q3⟩
        · refine .inr ⟨i, m, by omega, h5, hm, fun k K' hk hki hmk hkb hs => ?_⟩
          have e1 := killers_bit ks 0 0 k K' hk hs
          have e2 := exclOf_bit (l := i) (ml := m) befs 0 k hkb (by omega) (by simpa using hmk)
          simp only [Nat.zero_add, Nat.pow_zero] at e1 e2
          rw [h7, land_bit, e1, e2]
          rfl
      · intro j hj
        rcases Nat.lt_or_ge j i with hji | hji
        · refine (k2 j hji).ext t2 fun p hp => ?_
          rcases t4 p hp with h | ⟨h5, _, _⟩
          · exact .inl h
          · exact .inr (by rw [h5]; intro h; have := pow_inj h; omega)
        · have : j = i := by omega
          subst this
          refine k4 acc' t2 fun f ⟨p, p1, p2, p3⟩ => ?_
          rcases t4 p p1 with h | ⟨_, h6, _⟩
          · exact absurd p3 (hsrc p h)
          · rw [← p2]; exact h6
      · intro a w hR
        refine (k3 a w hR).weaken fun f ⟨p, p1, p2, p3⟩ => ?_
        rcases t4 p p1 with h | ⟨h5, _, _⟩
        · exact ⟨p, h, p2, p3⟩
        · exfalso; have := Nat.two_pow_pos i; omega
    have run : ∀ (acc1 : List PF), guardOf c ops (maskPF m (naftOf (2 ^ i) 1 befs) acc1) o = .yes →
        (force (maskPF m (naftOf (2 ^ i) 1 befs) acc1) fun M => parOne c need Ki o M fun add => tagK ks (2 ^ i) (exclOf (2 ^ i) m 1 befs) add acc1 fun acc' => parOps c ops need befs ks r ms kr (2 * 2 ^ i) acc' K) →
        KillOk i befs ks acc1 → (∀ j, j < i → StepOk E c.nt ops befs ks acc1 j) → Init E c.nt st0 acc1 →
        ∃ acc', KillOk (i + (o :: r).length) befs ks acc' ∧ (∀ j, j < i + (o :: r).length → StepOk E c.nt ops befs ks acc' j) ∧ Init E c.nt st0 acc' ∧ K acc' := by
      intro acc1 hg h k1 k2 k3
      rw [force_eq] at h
      obtain ⟨add, g1, g2⟩ := parOne_sound hC h
      refine go acc1 add g1 k1 k2 k3 fun acc' hsub hadd => ⟨m, Ki, fun f => f ∈ maskPF m (naftOf (2 ^ i) 1 befs) acc1, hm, hK, fun f hf => maskPF_mono hsub hf, fun F hF a w Q K' hR hK' => ?_⟩
      unfold wpOp
      rw [ho]
      have hgs := guardOf_sound (c := c) (ops := ops) (hR.weaken hF) (o := o)
      rw [hg] at hgs
      simp only at hgs ⊢
      rw [if_pos hgs]
      exact .inl (g2 F hF a w Q K' hR fun a' w' hr => hK' a' w' (hr.weaken fun f hf => hf.imp (hadd f) id))
    have skip : ∀ (acc1 : List PF), guardOf c ops (maskPF m (naftOf (2 ^ i) 1 befs) acc1) o = .no →
        (undefP c Ki o.dst fun add => tagK ks (2 ^ i) (exclOf (2 ^ i) m 1 befs) add acc1 fun acc' => parOps c ops need befs ks r ms kr (2 * 2 ^ i) acc' K) →
        KillOk i befs ks acc1 → (∀ j, j < i → StepOk E c.nt ops befs ks acc1 j) → Init E c.nt st0 acc1 →
        ∃ acc', KillOk (i + (o :: r).length) befs ks acc' ∧ (∀ j, j < i + (o :: r).length → StepOk E c.nt ops befs ks acc' j) ∧ Init E c.nt st0 acc' ∧ K acc' := by
      intro acc1 hg h k1 k2 k3
      obtain ⟨add, g1, g2⟩ := undefP_sound (E := E) h
      refine go acc1 add g1 k1 k2 k3 fun acc' hsub hadd => ⟨m, Ki, fun f => f ∈ maskPF m (naftOf (2 ^ i) 1 befs) acc1, hm, hK, fun f hf => maskPF_mono hsub hf, fun F hF a w Q K' hR hK' => ?_⟩
      unfold wpOp
      rw [ho]
      have hgs := guardOf_sound (c := c) (ops := ops) (hR.weaken hF) (o := o)
      rw [hg] at hgs
      simp only at hgs ⊢
      rw [if_neg (by rw [hgs]; simp)]
      exact hK' _ _ ((g2 F a w hR).weaken fun f hf => hf.imp (hadd f) id)
    simp only [parOps, forceN_eq] at h
    split at h
    · rename_i hg
      exact run acc hg h h1 h2 h3
    · rename_i hg
      exact skip acc hg h h1 h2 h3
    · rename_i t g hg
      split at h
      case h_2 => exact h.elim
      case h_1 src kill x hp =>
        have q1 := findPF_mem hp
        have q2 : (⟨src, kill, .slot t (.one (.d .bool x))⟩ : PF).f = .slot t (.one (.d .bool x)) := rfl
        cases hb : (isYes (guardOf c ops (maskPF m (naftOf (2 ^ i) 1 befs) (⟨src, kill, .slot t (.one (.lb (wantOf o)))⟩ :: acc)) o) && isNo (guardOf c ops (maskPF m (naftOf (2 ^ i) 1 befs) (⟨src, kill, .slot t (.one (.lb (!wantOf o)))⟩ :: acc)) o)) with
        | false => rw [hb] at h; exact h.elim
        | true =>
          rw [hb] at h
          simp only [cond_true] at h
          rw [Bool.and_eq_true] at hb
          by_cases hx : x = wantOf o
          · exact run _ (isYes_eq hb.1) (h.out.1 hx) (lb_kill q1 q2 h1) (fun j hj => lb_step hx q1 q2 (h2 j hj)) (lb_init hx q1 q2 h3)
          · have hx : x = !wantOf o := by cases x <;> cases hh : wantOf o <;> simp_all
            exact skip _ (isNo_eq hb.2) (h.out.2 hx) (lb_kill q1 q2 h1) (fun j hj => lb_step hx q1 q2 (h2 j hj)) (lb_init hx q1 q2 h3)
    · exact h.elim

theorem mkBef_spec : ∀ {os : List Oper} {tbl : List Nat} {K : List Nat → Prop}, mkBef os tbl K → ∃ t, K t
  | [], tbl, K, h => ⟨tbl, h⟩
  | o :: r, tbl, K, h => by
    simp only [mkBef, forceN_eq, forceNs_eq] at h
    exact mkBef_spec h

theorem hintKs_spec : ∀ {os : List Oper} {st : St} {ks : List Kill} {need : List Nat} {K : List Kill → List Nat → Prop}, hintKs c ops os st ks need K → ∃ ks need, K ks need
  | [], st, ks, need, K, h => ⟨ks.reverse, need, by simpa only [hintKs, forceKs_eq] using h⟩
  | o :: r, st, ks, need, K, h => by
    have run : ∀ st, (match freezes (needKeys st o) st with
      | some (_, st1) => match stepRes c st1 o with
        | some q => force (after st1 q) fun st' => forceKill q.kill fun k => forceNs (needKeys st o ++ need) fun need' => hintKs c ops r st' (k :: ks) need' K
        | none => False
      | none => False) → ∃ ks need, K ks need := by
      intro st h
      split at h
      · split at h
        · simp only [force_eq, forceKill, forceNs_eq, forceCs_eq] at h
          exact hintKs_spec h
        · exact h.elim
      · exact h.elim
    simp only [hintKs] at h
    split at h
    · exact run st h
    · exact hintKs_spec h
    · exact run st h
    · exact h.elim

theorem mem_finals {f : Fact} : ∀ {acc : List PF}, f ∈ finals acc → ∃ p ∈ acc, p.f = f ∧ p.kill = 0
  | ⟨src, kill, f0⟩ :: r, h => by
    simp only [finals] at h
    cases hb : Nat.beq kill 0 with
    | true =>
      rw [hb] at h
      rcases List.mem_cons.1 h with rfl | h
      · exact ⟨_, List.mem_cons_self, rfl, Nat.eq_of_beq_eq_true hb⟩
      · obtain ⟨q, h1, h2⟩ := mem_finals h
        exact ⟨q, List.mem_cons_of_mem _ h1, h2⟩
    | false =>
      rw [hb] at h
      obtain ⟨q, h1, h2⟩ := mem_finals h
      exact ⟨q, List.mem_cons_of_mem _ h1, h2⟩

theorem par_sound {P : Program} {OB : Nat → Obj → Prop} (hm : P.follows .mixedOrders = true) (hC : CfgOk P OB c) : ParOkP P OB c (par c) := by
  intro E hP hOB id ops st K a w Q h hR hQ
  subst hP hOB
  obtain ⟨befs, h⟩ := mkBef_spec h
  cases hchk : chkBef befs ops.toList befs 0 with
  | false => rw [hchk] at h; exact h.elim
  | true =>
    rw [hchk] at h
    obtain ⟨ks, need, h⟩ := hintKs_spec h
    split at h
    case h_2 => exact h.elim
    case h_1 p st1 hf =>
      obtain ⟨hp, h⟩ := OP.andK_out h
      rw [force_eq] at h
      obtain ⟨acc, h, hacc⟩ := tag0_spec h
      have hR1 := freezes_sound hf hp hR
      have hk0 : KillOk 0 befs ks acc := by
        intro p hp
        obtain ⟨h1, h2, h3⟩ := hacc p hp
        refine .inl ⟨h2, fun k K hk hs => ?_⟩
        have := killers_bit ks 0 0 k K hk hs
        rw [h3]
        simpa using this
      have hi0 : Init E c.nt st1 acc := fun a w hR => hR.weaken fun f ⟨p, p1, p2, _⟩ => by rw [← p2]; exact (hacc p p1).1
      obtain ⟨acc', k1, k2, k3, k4⟩ := parOps_sound (E := E) (ops := ops) (st0 := st1) hC ops.toList befs ks 0 acc (by simp) (by simp) (by simp) h hk0 (fun j hj => by omega) hi0
      simp only [Nat.zero_add, Array.length_toList] at k1 k2
      rw [force_eq] at k4
      refine wp_region_any hm ?_
      have hR2 : Rel E c.nt (fun f => ∃ p ∈ acc', p.f = f ∧ p.src = 0) a w := k3 a w hR1
      refine any_run hchk k1 (fun i hi => k2 i hi) (Q := Q) (fun a' w' hR' => ?_) ops.size (Array.replicate ops.size false) a _ (by simp) ?_ ?_ ?_
      · refine hQ _ a' w' k4 (hR'.weaken fun f hf => ?_)
        obtain ⟨p, p1, p2, p3⟩ := mem_finals hf
        refine ⟨p, p1, p2, ?_, fun k _ => by rw [p3]; exact Nat.zero_testBit k⟩
        rcases k1 p p1 with ⟨q1, _⟩ | ⟨l, ml, q0, q1, _⟩
        · exact .inl q1
        · exact .inr ⟨l, q1, q0⟩
      · have : ∀ n (L : Array Bool), un L n ≤ n := by
          intro n L
          induction n with
          | zero => exact Nat.le_refl 0
          | succ n ih => simp only [un]; split <;> omega
        exact this _ _
      · intro i m hi
        simp at hi
        have hz : ((Array.replicate ops.size false)[i]?.getD false) = false := by
          by_cases h : i < ops.size <;> simp [h]
        simp_all
      · obtain ⟨η, g, H⟩ := hR2
        refine ⟨η, ⟨g.size, g.defers, g.os, g.tape, g.output, g.grow, g.keep, g.own, g.inj, g.old, g.obkeep⟩, fun f ⟨p, p1, p2, p3, p4⟩ => ?_⟩
        have hs : p.src = 0 := by
          rcases p3 with p3 | ⟨l, _, p5⟩
          · exact p3
          · exfalso
            have hz : (Array.replicate ops.size false).getD l false = false := by
              by_cases h : l < ops.size <;> simp [Array.getD, h]
            rw [hz] at p5
            cases p5
        exact H f ⟨p, p1, p2, hs⟩

end
end Go.Eng
