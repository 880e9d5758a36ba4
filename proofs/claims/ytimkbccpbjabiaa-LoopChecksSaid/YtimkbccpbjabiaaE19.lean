/- The verification condition of a region whose order is open is right, in each order. Conditions: the program follows every order; the table of types is the program's; each contract in use holds. -/
import Derived.Test.YtimkbccpbjabiaaE17
import Derived.Test.YtimkbccpbjabiaaE18
set_option linter.all false
namespace Go.Eng

/-! ### Bits -/

theorem land_zero {m i : Nat} (h : m.testBit i = false) : Nat.land m (2 ^ i) = 0 := by
  apply Nat.eq_of_testBit_eq
  intro j
  have := Nat.testBit_and m (2 ^ i) j
  change (Nat.land m (2 ^ i)).testBit j = _ at this
  rw [this, Nat.testBit_two_pow]
  by_cases hj : i = j
  · subst hj; simp [h]
  · simp [hj]

theorem land_beq_self {s m l : Nat} (hs : s = 2 ^ l) (h : Nat.beq (Nat.land s m) s = true) : m.testBit l = true := by
  have h := Nat.eq_of_beq_eq_true h
  have h1 := Nat.testBit_and s m l
  change (Nat.land s m).testBit l = _ at h1
  rw [h, hs, Nat.testBit_two_pow_self] at h1
  simpa using h1.symm

theorem land_beq_zero {s m k : Nat} (h : Nat.beq (Nat.land s m) 0 = true) (hm : m.testBit k = true) : s.testBit k = false := by
  have h := Nat.eq_of_beq_eq_true h
  have h1 := Nat.testBit_and s m k
  change (Nat.land s m).testBit k = _ at h1
  rw [h, hm, Nat.zero_testBit] at h1
  simpa using h1.symm

theorem lor_bit (a b k : Nat) : (Nat.lor a b).testBit k = (a.testBit k || b.testBit k) := Nat.testBit_or a b k
theorem land_bit (a b k : Nat) : (Nat.land a b).testBit k = (a.testBit k && b.testBit k) := Nat.testBit_and a b k

theorem two_mul_pow (j : Nat) : 2 * 2 ^ j = 2 ^ (j + 1) := by rw [Nat.pow_succ, Nat.mul_comm]

theorem pow_inj {a b : Nat} (h : 2 ^ a = 2 ^ b) : a = b := by
  have h1 : (2 ^ b).testBit a = true := by rw [← h]; exact Nat.testBit_two_pow_self
  rw [Nat.testBit_two_pow] at h1
  exact (of_decide_eq_true h1).symm

theorem beq_pow {a b : Nat} (h : a ≠ b) : Nat.beq (2 ^ a) (2 ^ b) = false := by
  cases hb : Nat.beq (2 ^ a) (2 ^ b) with
  | false => rfl
  | true => exact absurd (pow_inj (Nat.eq_of_beq_eq_true hb)) h

theorem naftOf_bit {i : Nat} : ∀ (l : List Nat) (j t m : Nat), l[t]? = some m → j + t ≠ i → m.testBit i = false → (naftOf (2 ^ i) (2 ^ j) l).testBit (j + t) = true
  | [], j, t, m, h, _, _ => by simp at h
  | q :: r, j, 0, m, h, h1, h2 => by
    simp only [List.getElem?_cons_zero, Option.some.injEq] at h
    subst h
    simp only [naftOf, beq_pow (show j ≠ i by omega), land_zero h2, Nat.beq, Bool.not_true, Bool.or_false, cond_false, lor_bit, Nat.add_zero, Nat.testBit_two_pow_self, Bool.true_or]
  | q :: r, j, t + 1, m, h, h1, h2 => by
    have ih := naftOf_bit (i := i) r (j + 1) t m (by simpa using h) (by omega) h2
    rw [show j + 1 + t = j + (t + 1) from by omega] at ih
    simp only [naftOf, two_mul_pow]
    cases (Nat.beq (2 ^ j) (2 ^ i) || !Nat.beq (Nat.land q (2 ^ i)) 0) with
    | true => exact ih
    | false => simp only [cond_false, lor_bit, ih, Bool.or_true]

theorem exclOf_bit {l ml : Nat} : ∀ (bs : List Nat) (j t : Nat), t < bs.length → j + t ≠ l → ml.testBit (j + t) = false → (exclOf (2 ^ l) ml (2 ^ j) bs).testBit (j + t) = true
  | [], j, t, h, _, _ => by simp at h
  | q :: r, j, 0, h, h1, h2 => by
    simp only [Nat.add_zero] at h2
    simp only [exclOf, beq_pow (show j ≠ l by omega), land_zero h2, Nat.beq, Bool.not_true, Bool.or_false, cond_false, lor_bit, Nat.add_zero, Nat.testBit_two_pow_self, Bool.true_or]
  | q :: r, j, t + 1, h, h1, h2 => by
    have ih := exclOf_bit (l := l) (ml := ml) r (j + 1) t (by simpa using h) (by omega) (by rw [show j + 1 + t = j + (t + 1) from by omega]; exact h2)
    rw [show j + 1 + t = j + (t + 1) from by omega] at ih
    simp only [exclOf, two_mul_pow]
    cases (Nat.beq (2 ^ j) (2 ^ l) || !Nat.beq (Nat.land ml (2 ^ j)) 0) with
    | true => exact ih
    | false => simp only [cond_false, lor_bit, ih, Bool.or_true]

theorem killers_acc {f : Fact} : ∀ (ks : List Kill) (acc b k : Nat), acc.testBit k = true → (killers f acc b ks).testBit k = true
  | [], acc, b, k, h => h
  | q :: r, acc, b, k, h => by
    simp only [killers]
    cases q.surv f with
    | true => exact killers_acc r acc _ k h
    | false => exact killers_acc r _ _ k (by rw [lor_bit, h]; rfl)

theorem killers_bit {f : Fact} : ∀ (ks : List Kill) (acc j t : Nat) (K : Kill), ks[t]? = some K → K.surv f = false → (killers f acc (2 ^ j) ks).testBit (j + t) = true
  | [], acc, j, t, K, h, _ => by simp at h
  | q :: r, acc, j, 0, K, h, h1 => by
    simp only [List.getElem?_cons_zero, Option.some.injEq] at h
    subst h
    simp only [killers, h1, cond_false, Nat.add_zero]
    exact killers_acc r _ _ j (by rw [lor_bit, Nat.testBit_two_pow_self, Bool.or_true])
  | q :: r, acc, j, t + 1, K, h, h1 => by
    simp only [killers, two_mul_pow]
    cases q.surv f with
    | true =>
      have ih := killers_bit r acc (j + 1) t K (by simpa using h) h1
      rw [show j + 1 + t = j + (t + 1) from by omega] at ih
      exact ih
    | false =>
      have ih := killers_bit r (Nat.lor acc (2 ^ j)) (j + 1) t K (by simpa using h) h1
      rw [show j + 1 + t = j + (t + 1) from by omega] at ih
      exact ih

/-! ### The state behind a set of operations -/

section
variable {E : Env} {c : Cfg} {ops : Array Oper} {befs : List Nat} {ks : List Kill}

/-- What holds behind the operations of D, in whatever order they came. -/
def FD (acc : List PF) (D : Nat → Prop) (f : Fact) : Prop :=
  ∃ p ∈ acc, p.f = f ∧ (p.src = 0 ∨ ∃ l, p.src = 2 ^ l ∧ D l) ∧ ∀ k, D k → p.kill.testBit k = false

def Adds (acc : List PF) (l : Nat) (f : Fact) : Prop := ∃ p ∈ acc, p.f = f ∧ p.src = 2 ^ l

def KillOk (n : Nat) (befs : List Nat) (ks : List Kill) (acc : List PF) : Prop :=
  ∀ p ∈ acc, (p.src = 0 ∧ ∀ k K, ks[k]? = some K → K.surv p.f = false → p.kill.testBit k = true) ∨
    (∃ l ml, l < n ∧ p.src = 2 ^ l ∧ befs[l]? = some ml ∧ ∀ k K, ks[k]? = some K → k ≠ l → ml.testBit k = false → k < befs.length → K.surv p.f = false → p.kill.testBit k = true)

def opSem (E : Env) (nt : Nat) (ops : Array Oper) (i : Nat) (F F' : Fact → Prop) : Prop :=
  ∀ (a : Act) (w : World) (Q : Exit → Act → World → Prop) (K : Act → World → Prop), Rel E nt F a w → (∀ a' w', Rel E nt F' a' w' → K a' w') → wpOp E.P ops Q i K a w

def StepOk (E : Env) (nt : Nat) (ops : Array Oper) (befs : List Nat) (ks : List Kill) (acc : List PF) (i : Nat) : Prop :=
  ∃ (m : Nat) (Ki : Kill) (M : Fact → Prop), befs[i]? = some m ∧ ks[i]? = some Ki ∧ (∀ f, M f → f ∈ maskPF m (naftOf (2 ^ i) 1 befs) acc) ∧
    ∀ F : Fact → Prop, (∀ f, M f → F f) → opSem E nt ops i F (fun f => Adds acc i f ∨ (F f ∧ Ki.surv f = true))

theorem mem_maskPF {bef naft : Nat} {f : Fact} : ∀ {acc : List PF}, f ∈ maskPF bef naft acc ↔ ∃ p ∈ acc, p.f = f ∧ Nat.beq (Nat.land p.src bef) p.src = true ∧ Nat.beq (Nat.land p.kill naft) 0 = true
  | [] => by simp [maskPF]
  | ⟨src, kill, f0⟩ :: r => by
    have hp : ∃ p : PF, p = ⟨src, kill, f0⟩ := ⟨_, rfl⟩
    obtain ⟨p, hp⟩ := hp
    have e1 : src = p.src := by rw [hp]
    have e2 : kill = p.kill := by rw [hp]
    have e3 : f0 = p.f := by rw [hp]
    simp only [maskPF]
    rw [← hp, e1, e2, e3]
    cases hb : (Nat.beq (Nat.land p.src bef) p.src && Nat.beq (Nat.land p.kill naft) 0) with
    | true =>
      rw [Bool.and_eq_true] at hb
      simp only [cond_true, List.mem_cons, mem_maskPF (acc := r)]
      constructor
      · rintro (rfl | ⟨q, h1, h2⟩)
        · exact ⟨p, .inl rfl, rfl, hb.1, hb.2⟩
        · exact ⟨q, .inr h1, h2⟩
      · rintro ⟨q, rfl | h1, h2, h3⟩
        · exact .inl h2.symm
        · exact .inr ⟨q, h1, h2, h3⟩
    | false =>
      simp only [cond_false, List.mem_cons, mem_maskPF (acc := r)]
      constructor
      · rintro ⟨q, h1, h2⟩
        exact ⟨q, .inr h1, h2⟩
      · rintro ⟨q, rfl | h1, h2, h3, h4⟩
        · rw [h3, h4] at hb; cases hb
        · exact ⟨q, h1, h2, h3, h4⟩

theorem maskPF_mono {bef naft : Nat} {acc acc' : List PF} (h : ∀ p ∈ acc, p ∈ acc') {f : Fact} (hf : f ∈ maskPF bef naft acc) : f ∈ maskPF bef naft acc' := by
  obtain ⟨p, h1, h2⟩ := mem_maskPF.1 hf
  exact mem_maskPF.2 ⟨p, h p h1, h2⟩

/-! ### Every order -/

def Closed (befs : List Nat) (D : Nat → Prop) : Prop := ∀ i m, D i → befs[i]? = some m → ∀ l, m.testBit l = true → D l

theorem befEdges_bit {tbl : List Nat} {l : Nat} : ∀ {es : List Edge}, (befEdges tbl es).testBit l = true → ∃ e ∈ es, Region.binds .any e = true ∧ (l = e.on ∨ ∃ m, tbl[e.on]? = some m ∧ m.testBit l = true)
  | [], h => by simp [befEdges] at h
  | e :: r, h => by
    simp only [befEdges] at h
    cases hb : Region.binds .any e with
    | false =>
      rw [hb] at h
      obtain ⟨e', h1, h2⟩ := befEdges_bit (es := r) h
      exact ⟨e', List.mem_cons_of_mem _ h1, h2⟩
    | true =>
      rw [hb] at h
      simp only [cond_true, lor_bit, Bool.or_eq_true] at h
      rcases h with (h | h) | h
      · refine ⟨e, List.mem_cons_self, hb, .inl ?_⟩
        change (2 ^ e.on).testBit l = true at h
        rw [Nat.testBit_two_pow] at h
        simpa using (of_decide_eq_true h).symm
      · rw [nth_eq] at h
        cases ht : tbl[e.on]? with
        | none => rw [ht] at h; simp at h
        | some m => rw [ht] at h; exact ⟨e, List.mem_cons_self, hb, .inr ⟨m, ht, h⟩⟩
      · obtain ⟨e', h1, h2⟩ := befEdges_bit (es := r) h
        exact ⟨e', List.mem_cons_of_mem _ h1, h2⟩

theorem edgesLt_mem {i : Nat} : ∀ {es : List Edge}, edgesLt i es = true → ∀ e ∈ es, Region.binds .any e = true → e.on < i
  | e :: r, h, e', he => by
    simp only [edgesLt, Bool.and_eq_true] at h
    rcases List.mem_cons.1 he with rfl | he
    · intro hb
      have := h.1
      rw [hb] at this
      simpa using this
    · exact edgesLt_mem h.2 e' he

theorem chkBef_spec {all : List Nat} : ∀ {os : List Oper} {ms : List Nat} {i : Nat}, chkBef all os ms i = true → ms.length = os.length ∧
    ∀ (t : Nat) (o : Oper), os[t]? = some o → ms[t]? = some (befEdges all o.after.toList) ∧ ∀ e ∈ o.after.toList, Region.binds .any e = true → e.on < i + t
  | [], [], i, _ => ⟨rfl, by simp⟩
  | [], _ :: _, i, h => by simp [chkBef] at h
  | _ :: _, [], i, h => by simp [chkBef] at h
  | o :: r, m :: ms, i, h => by
    simp only [chkBef, Bool.and_eq_true] at h
    obtain ⟨⟨h1, h2⟩, h3⟩ := h
    obtain ⟨h4, h5⟩ := chkBef_spec h3
    refine ⟨by simp [h4], fun t o' ho => ?_⟩
    cases t with
    | zero =>
      simp only [List.getElem?_cons_zero, Option.some.injEq] at ho
      subst ho
      exact ⟨by simpa using Nat.eq_of_beq_eq_true h1, edgesLt_mem h2⟩
    | succ t =>
      obtain ⟨h6, h7⟩ := h5 t o' (by simpa using ho)
      exact ⟨by simpa using h6, fun e he hb => by have := h7 e he hb; omega⟩

def un (L : Array Bool) : Nat → Nat
  | 0 => 0
  | n + 1 => un L n + (if L.getD n true = true then 0 else 1)

theorem un_set {L : Array Bool} {i : Nat} (hi : i < L.size) (hu : L.getD i true = false) : ∀ n, un (L.setIfInBounds i true) n + (if i < n then 1 else 0) = un L n
  | 0 => by simp [un]
  | n + 1 => by
    have ih := un_set hi hu n
    simp only [un]
    by_cases hn : i = n
    · subst hn
      have : (L.setIfInBounds i true).getD i true = true := by simp [hi]
      rw [if_neg (Nat.lt_irrefl i)] at ih
      rw [this, hu]
      simp
      omega
    · have : (L.setIfInBounds i true).getD n true = L.getD n true := getD_set_ne true hn
      rw [this]
      by_cases hlt : i < n
      · rw [if_pos hlt] at ih
        have h2 : i < n + 1 := by omega
        rw [if_pos h2]
        omega
      · rw [if_neg hlt] at ih
        have h2 : ¬ i < n + 1 := by omega
        rw [if_neg h2]
        omega

theorem un_zero {L : Array Bool} : ∀ {n : Nat}, un L n = 0 → ∀ i, i < n → L.getD i true = true
  | n + 1, h, i, hi => by
    simp only [un] at h
    by_cases hn : i = n
    · subst hn
      cases hL : L.getD i true with
      | true => rfl
      | false => rw [hL] at h; simp at h
    · exact un_zero (n := n) (by omega) i (by omega)

theorem any_run {nt : Nat} (hchk : chkBef befs ops.toList befs 0 = true) {acc : List PF} (hkill : KillOk ops.size befs ks acc) (hstep : ∀ i, i < ops.size → StepOk E nt ops befs ks acc i)
    {Q : Exit → Act → World → Prop} (hQ : ∀ a w, Rel E nt (FD acc (fun i => i < ops.size)) a w → Q .normal a w) : ∀ (fuel : Nat) (L : Array Bool) (a : Act) (w : World), L.size = ops.size → un L ops.size ≤ fuel →
      Closed befs (fun i => L.getD i false = true) → Rel E nt (FD acc (fun i => L.getD i false = true)) a w → wpAny E.P .any ops Q fuel L a w := by
  obtain ⟨hlen, hbef⟩ := chkBef_spec hchk
  have hlen' : befs.length = ops.size := by simpa using hlen
  have getDf : ∀ {L : Array Bool} {i : Nat}, L.size = ops.size → i < ops.size → L.getD i false = L.getD i true := by
    intro L i hL hi
    have : i < L.size := by omega
    simp [this]
  have notReady : ∀ (L : Array Bool), L.size = ops.size → Region.ready .any ops L = [] → ∀ i, i < ops.size → L.getD i true = true := by
    intro L hL hr i
    induction i using Nat.strongRecOn with
    | _ i ih =>
      intro hi
      cases hu : L.getD i true with
      | true => rfl
      | false =>
        exfalso
        have : i ∈ Region.ready .any ops L := by
          rw [mem_ready]
          refine ⟨hu, ops[i], by simp [hi], fun e he hb => ?_⟩
          have hlt := (hbef i ops[i] (by simp [hi])).2 e (by simpa using he) hb
          have := ih e.on (by omega) (by omega)
          rw [getDf hL (by omega)]
          exact this
        rw [hr] at this
        cases this
  have fin : ∀ (L : Array Bool) (a : Act) (w : World), L.size = ops.size → (∀ i, i < ops.size → L.getD i true = true) → Rel E nt (FD acc (fun i => L.getD i false = true)) a w → Q .normal a w := by
    intro L a w hL hall hR
    refine hQ a w (hR.weaken fun f ⟨p, h1, h2, h3, h4⟩ => ⟨p, h1, h2, ?_, fun k hk => ?_⟩)
    · rcases h3 with h3 | ⟨l, h3, h5⟩
      · exact .inl h3
      · exact .inr ⟨l, h3, by simp only []; rw [getDf hL h5]; exact hall l h5⟩
    · refine h4 k ?_
      have : k < L.size := by
        rcases Nat.lt_or_ge k L.size with h | h
        · exact h
        · simp [Array.getD, Nat.not_lt.2 h] at hk
      omega
  intro fuel
  induction fuel with
  | zero =>
    intro L a w hL hu hc hR
    have hall := un_zero (Nat.le_zero.1 hu)
    refine ⟨?_, fin L a w hL hall hR⟩
    cases hr : Region.ready .any ops L with
    | nil => rfl
    | cons i r =>
      have hi : i ∈ Region.ready .any ops L := by rw [hr]; exact List.mem_cons_self
      obtain ⟨h1, o, h2, _⟩ := mem_ready.1 hi
      have := hall i (Array.getElem?_eq_some_iff.1 h2).1
      rw [h1] at this
      cases this
  | succ fuel ih =>
    intro L a w hL hu hc hR
    refine ⟨fun hr => fin L a w hL (notReady L hL hr) hR, fun i hi => ?_⟩
    obtain ⟨h1, o, h2, h3⟩ := mem_ready.1 hi
    have hin : i < ops.size := (Array.getElem?_eq_some_iff.1 h2).1
    obtain ⟨m, Ki, M, e1, e2, e3, e4⟩ := hstep i hin
    have hbi := (hbef i o (by simpa using h2)).1
    have hm : m = befEdges befs o.after.toList := by rw [e1] at hbi; exact Option.some.inj hbi
    have hpre : ∀ l, m.testBit l = true → L.getD l false = true := by
      intro l hl
      rw [hm] at hl
      obtain ⟨e, f1, f2, f3⟩ := befEdges_bit hl
      have he := h3 e (by simpa using f1) f2
      rcases f3 with rfl | ⟨m', f4, f5⟩
      · exact he
      · exact hc e.on m' he f4 l f5
    have hnot : ¬ (L.getD i false = true) := by rw [getDf hL hin, h1]; simp
    have hafter : ∀ k mk, L.getD k false = true → befs[k]? = some mk → mk.testBit i = false := by
      intro k mk hk hmk
      cases hb : mk.testBit i with
      | false => rfl
      | true => exact absurd (hc k mk hk hmk i hb) hnot
    have hlt : ∀ k, L.getD k false = true → k < ops.size := by
      intro k hk
      rcases Nat.lt_or_ge k L.size with h | h
      · omega
      · simp [Array.getD, Nat.not_lt.2 h] at hk
    have hsub : ∀ f, M f → FD acc (fun i => L.getD i false = true) f := by
      intro f hf
      obtain ⟨p, p1, p2, p3, p4⟩ := mem_maskPF.1 (e3 f hf)
      refine ⟨p, p1, p2, ?_, fun k hk => ?_⟩
      · rcases hkill p p1 with ⟨q1, _⟩ | ⟨l, ml, q0, q1, _⟩
        · exact .inl q1
        · exact .inr ⟨l, q1, hpre l (land_beq_self q1 p3)⟩
      · have hkn := hlt k hk
        have hkb : befs[k]? = some (befs[k]'(by omega)) := by simp [hlen', hkn]
        have := naftOf_bit (i := i) befs 0 k _ hkb (by rintro h; rw [Nat.zero_add] at h; subst h; exact hnot hk) (hafter k _ hk hkb)
        rw [Nat.zero_add, Nat.pow_zero] at this
        exact land_beq_zero p4 this
    have hset : ∀ k, (L.setIfInBounds i true).getD k false = true ↔ k = i ∨ L.getD k false = true := by
      intro k
      by_cases hki : i = k
      · subst hki
        have : i < L.size := by omega
        simp [this]
      · rw [getD_set_ne false hki]
        constructor
        · exact .inr
        · rintro (h | h)
          · exact absurd h.symm hki
          · exact h
    refine e4 _ hsub a w Q _ hR fun a' w' hR' => ih _ a' w' (by simpa using hL) ?_ ?_ (hR'.weaken fun f ⟨p, p1, p2, p3, p4⟩ => ?_)
    · have := un_set (by omega) h1 ops.size
      rw [if_pos hin] at this
      omega
    · intro k mk hk hmk l hl
      rcases (hset k).1 hk with rfl | hk
      · rw [e1] at hmk
        cases hmk
        exact (hset l).2 (.inr (hpre l hl))
      · exact (hset l).2 (.inr (hc k mk hk hmk l hl))
    · by_cases hsrc : p.src = 2 ^ i
      · exact .inl ⟨p, p1, p2, hsrc⟩
      · refine .inr ⟨⟨p, p1, p2, ?_, fun k hk => p4 k ((hset k).2 (.inr hk))⟩, ?_⟩
        · rcases p3 with p3 | ⟨l, p3, p5⟩
          · exact .inl p3
          · rcases (hset l).1 p5 with rfl | p5
            · exact absurd p3 hsrc
            · exact .inr ⟨l, p3, p5⟩
        · have hki := p4 i ((hset i).2 (.inl rfl))
          cases hs : Ki.surv f with
          | true => rfl
          | false =>
            exfalso
            rw [← p2] at hs
            rcases hkill p p1 with ⟨_, q2⟩ | ⟨l, ml, q0, q1, q2, q3⟩
            · rw [q2 i Ki e2 hs] at hki; cases hki
            · have hl : L.getD l false = true := by
                rcases p3 with p3 | ⟨l', p3, p5⟩
                · rw [q1] at p3
                  have := Nat.two_pow_pos l
                  omega
                · have : l = l' := pow_inj (by rw [← q1, ← p3])
                  subst this
                  rcases (hset l).1 p5 with rfl | p5
                  · exact absurd q1 hsrc
                  · exact p5
              have hil : i ≠ l := by rintro rfl; exact hnot hl
              rw [q3 i Ki e2 hil (hafter l ml hl q2) (by omega) hs] at hki
              cases hki

end
end Go.Eng
