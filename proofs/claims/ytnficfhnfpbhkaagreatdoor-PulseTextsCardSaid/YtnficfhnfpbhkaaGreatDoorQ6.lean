/- The iterator of a register's states: it yields the states from a start on, without an end. Conditions: the register is right, the start a state. -/
import Derived.Test.YtnficfhnfpbhkaaGreatDoorQ5
namespace Go.Eng.Pu
open Go.Eng Go.Proofs
set_option linter.all false
set_option maxRecDepth 100000
set_option maxHeartbeats 8000000

/-- The states from a start on. -/
def stI (L : Int) (xs : List Int) (s : Int) : Nat → Int
  | 0 => s
  | i + 1 => nxt L xs (stI L xs s i)

theorem stI_pSt {L : Int} {xs : List Int} {s : Int} (h : pSt L xs s) : ∀ i, pSt L xs (stI L xs s i)
  | 0 => h
  | i + 1 => by
    obtain ⟨h1, h2, h3, h4⟩ := stI_pSt h i
    exact ⟨h1, h2, nxt_in (chk_zero h1).1 h3 h4⟩

@[reducible] def isp159 : ISpec := { rd := [(0, 0, I64), (1, 0, Reg)], e := I64, seq := fun x i => stI x.2.1.1.1 x.2.1.1.2.1 x.1 i, len := fun _ => none, pre := fun x => pSt x.2.1.1.1 x.2.1.1.2.1 x.1 }

/-- What stays in the iterator's slots. -/
structure Slots (a : Act) (y p q : Value) (s : Int) : Prop where
  size : 12 ≤ a.tmps.size
  defers : a.defers = []
  y : a.tmps.getD 0 undef = y
  p : a.tmps.getD 1 undef = p
  q : a.tmps.getD 2 undef = q
  s : a.tmps.getD 4 undef = .int .i64 s

theorem getD_put {a : Act} {t u : Nat} {v : Value} (h : t < a.tmps.size) : (a.put (some t) v).tmps.getD u undef = if u = t then v else a.tmps.getD u undef := by
  simp only [Act.put, Array.getD_eq_getD_getElem?]
  by_cases hu : u = t
  · subst hu; simp [h]
  · rw [if_neg hu, Array.getElem?_setIfInBounds_ne (Ne.symm hu)]

theorem size_put (a : Act) (t : Nat) (v : Value) : (a.put (some t) v).tmps.size = a.tmps.size := by simp [Act.put]
theorem defers_put (a : Act) (t : Nat) (v : Value) : (a.put (some t) v).defers = a.defers := rfl

theorem enters146 : Enters Tryz.prog 86 := h146.2

/-- A call of the next state. -/
theorem next_call {w : World} {V : View} (hV : ∀ b c, V b c → ∃ el f, w.heap[b]? = some (.cells c el f)) {r : Reg.Den} {s : Int} {ys : List Value} (hr : Rep V Reg r ys) (hp : pSt r.1.1 r.1.2.1 s) :
    Calls Tryz.prog 86 #[.agg ys.toArray, .int .i64 s] w fun e w' => e = .returned (.int .i64 (nxt r.1.1 r.1.2.1 s)) ∧ OwnStep w w' [] [] := by
  have h := h146.1 w (fun _ => False) (r, (s, ())) [.agg ys.toArray, .int .i64 s] [] (fun _ h => h.elim)
    ⟨.agg ys.toArray, [.int .i64 s], rfl, ⟨ys, Rep.mono (fun b c h => ⟨fun h => h, hV b c h⟩) _ _ _ hr, .inl ⟨rfl, rfl⟩⟩, ⟨.int .i64 s, [], rfl, RepV.mk1 rfl rfl, rfl, rfl⟩⟩ hp
  refine h.mono fun e w' ⟨rs, g, h1, h2, h3⟩ => ?_
  obtain ⟨v, vs', h4, h5, h6, h7⟩ := h3
  subst h6
  subst h4
  obtain ⟨l, hl, ⟨hf, _⟩ | ⟨_, hv⟩⟩ := h5
  · cases hf
  have hl : l = [.int .i64 (nxt r.1.1 r.1.2.1 s)] := hl
  rw [hl] at hv
  have hv : v = _ := (List.cons.inj hv).1.symm
  subst hv
  exact ⟨h1, h2.os, h2.tape, h2.output, h2.size, fun b hb _ => h2.keep b hb (by simp), fun p hp => by cases hp⟩

/-- The two variables can be read. -/
theorem reads159 {w : World} {vs : List Value} {x : (rdTy isp159.rd).Den} (h : Readable isp159.rd w vs x) : ∃ V : View, (∀ b c, V b c → ∃ el f, w.heap[b]? = some (.cells c el f)) ∧
    (∃ ad : Addr, vs[0]? = some (.pointer (some ad)) ∧ (loadVar 3 ad).run Tryz.prog w = .ok (.int .i64 x.1) w) ∧
    ∃ (ad : Addr) (ys : List Value), vs[1]? = some (.pointer (some ad)) ∧ Rep V Reg x.2.1 ys ∧ (loadVar 72 ad).run Tryz.prog w = .ok (.agg ys.toArray) w := by
  obtain ⟨V, hV, ⟨b, off, h1, ys, h2, h3, h4⟩, ⟨b', off', h1', ys', h2', h3', h4'⟩, _⟩ := h
  refine ⟨V, hV, ⟨⟨b, off, none⟩, h1, ?_⟩, ⟨b', off', none⟩, ys', h1', h2', ?_⟩
  · have h2 : ys = [.int .i64 x.1] := h2
    exact run_loadVar_one row3 rfl (by have := h4 0 (.int .i64 x.1) (by rw [h2]; rfl); simpa using this)
  · exact run_loadVar_agg row72 rfl (by rw [h3']; rfl) (fun j v hj => by rw [add_none]; have := h4' j v hj; simpa using this)

section
variable {P : Program} {Q : Exit → Act → World → Prop} {a : Act} {w : World} {K : Act → World → Prop}

theorem op_val {o : Oper} {v : Value} (hnd : ∀ d, o.op ≠ .defer d) (hr : (execOp a.eval o).run P w = .ok (.value v) w) (h : K (a.put o.dst v) w) : o.wpIn (Fw none) 0 P a w K Q :=
  wpIn_of_run hnd hr h

theorem op_enter {o : Oper} {f : Nat} {args : Array Value} (hnd : ∀ d, o.op ≠ .defer d) (hr : (execOp a.eval o).run P w = .ok (.enter f args) w)
    (h : Calls P f args w fun e w' => ∃ v, e = .returned v ∧ K (a.put o.dst v) w') : o.wpIn (Fw none) 0 P a w K Q :=
  wpIn_of_run hnd hr ⟨fun h => (by cases h), callsFw (h.mono fun e w' ⟨v, h1, h2⟩ => by subst h1; exact h2)⟩

theorem op_round {o : Oper} {l f : Nat} {tmps : Array Value} {assign body : Code} (hnd : ∀ d, o.op ≠ .defer d) (hr : (execOp a.eval o).run P w = .ok (.round l f tmps assign body) w)
    (h : RoundIn (Fw none) 0 P l f tmps assign body w fun e w' => ∃ v, e = .returned v ∧ K (a.put o.dst v) w') : o.wpIn (Fw none) 0 P a w K Q :=
  wpIn_of_run hnd hr ⟨fun h => (by cases h), RoundIn.mono h (fun e w' ⟨v, h1, h2⟩ => by subst h1; exact h2)⟩

theorem list_nil {ops : Array Oper} (h : Q .normal a w) : wpListIn (Fw none) 0 P ops Q [] a w := h

theorem list_step {ops : Array Oper} {o : Oper} {rest : List Oper} (hg : o.guard = none) (h : o.wpIn (Fw none) 0 P a w (wpListIn (Fw none) 0 P ops Q rest) Q) : wpListIn (Fw none) 0 P ops Q (o :: rest) a w := by
  have hw : Region.wanted o (yielded ops a.tmps) = true := by simp [Region.wanted, hg]
  simp only [wpListIn, hw, if_true]
  exact h
end

theorem ih159 : IHolds Tryz.prog 85 isp159 := by
  intro fv cv x l N J Jx W hnb _ hpre hJ hJa hJxa hJN hY hJ0
  have hfv : fv = [] := List.eq_nil_of_length_eq_zero hnb
  subst hfv
  obtain ⟨s0, r, u⟩ := x
  have hpre : pSt r.1.1 r.1.2.1 s0 := hpre
  obtain ⟨V0, hV0, ⟨adp, hp0, hpl⟩, adq, yq, hq0, hqr, hql⟩ := reads159 (hJ 0 [] W hJ0).1
  have rd : ∀ i W, J i [] W → (loadVar 3 adp).run Tryz.prog W = .ok (.int .i64 s0) W ∧ ∃ (V : View) (ys : List Value), (∀ b c, V b c → ∃ el f, W.heap[b]? = some (.cells c el f)) ∧ Rep V Reg r ys ∧ (loadVar 72 adq).run Tryz.prog W = .ok (.agg ys.toArray) W := by
    intro i W h
    obtain ⟨V, hV, ⟨ad, h1, h2⟩, ad', ys, h3, h4, h5⟩ := reads159 (hJ i [] W h).1
    rw [hp0] at h1
    rw [hq0] at h3
    have e1 : adp = ad := by simpa using h1
    have e2 : adq = ad' := by simpa using h3
    subst e1 e2
    exact ⟨h2, V, ys, hV, h4, h5⟩
  obtain ⟨y, hy⟩ : ∃ y, y = Value.func (.yield l) #[] #[] := ⟨_, rfl⟩
  refine callsIn_of_wp (F := Fw none) (n := 0) (fn := Tryz.f85) Tryz.func85 rfl trivial ?_
  rw [← hy]
  obtain ⟨a0, ha0⟩ : ∃ a0 : Act, a0 = { tmps := ([] : List Value).toArray ++ #[y] ++ cv.toArray ++ Array.replicate (Tryz.f85.ntmps - (([] : List Value).toArray ++ #[y] ++ cv.toArray).size) undef, defers := [] } := ⟨_, rfl⟩
  rw [← ha0]
  have hsz : 12 ≤ a0.tmps.size := by
    have : Tryz.f85.ntmps = 12 := rfl
    rw [ha0]; simp [this]; omega
  have hc0 : cv[0]? = some (.pointer (some adp)) := hp0
  have hc1 : cv[1]? = some (.pointer (some adq)) := hq0
  have g0 : a0.tmps.getD 0 undef = y := by
    rw [ha0]
    simp only [Array.getD_eq_getD_getElem?]
    rw [Array.getElem?_append_left (by simp), Array.getElem?_append_left (by simp)]
    rfl
  have g1 : a0.tmps.getD 1 undef = .pointer (some adp) := by
    have hl : 0 < cv.length := (List.getElem?_eq_some_iff.1 hc0).1
    rw [ha0]
    simp only [Array.getD_eq_getD_getElem?]
    rw [Array.getElem?_append_left (by simp; omega), Array.getElem?_append_right (by simp)]
    simp [hc0]
  have g2 : a0.tmps.getD 2 undef = .pointer (some adq) := by
    have hl : 1 < cv.length := (List.getElem?_eq_some_iff.1 hc1).1
    rw [ha0]
    simp only [Array.getD_eq_getD_getElem?]
    rw [Array.getElem?_append_left (by simp; omega), Array.getElem?_append_right (by simp)]
    simp [hc1]
  have hd0 : a0.defers = [] := by rw [ha0]
  have ev : ∀ (a : Act) (t : Nat), a.eval (.tmp t) = a.tmps.getD t undef := fun a t => rfl
  have evf : ∀ (a : Act) (t : Nat), a.eval (.func t) = .func (.func t) #[] #[] := fun a t => rfl
  refine wpIn_seq (wpIn_region_list ?_)
  refine list_step rfl (op_val (v := .int .i64 s0) (by intro d h; cases h) ?_ ?_)
  · simp [execOp, ev, g1, Instr.loadAt, Instr.sureAddr, (rd 0 W hJ0).1]
  refine list_step rfl (op_val (v := .int .i64 s0) (by intro d h; cases h) ?_ ?_)
  · simp [execOp, ev, getD_put (show 5 < a0.tmps.size by omega)]
  obtain ⟨a1, ha1⟩ : ∃ a1 : Act, a1 = (a0.put (some 5) (.int .i64 s0)).put (some 4) (.int .i64 s0) := ⟨_, rfl⟩
  have S1 : Slots a1 y (.pointer (some adp)) (.pointer (some adq)) s0 := by
    rw [ha1]
    constructor
    · simpa only [size_put] using hsz
    · exact hd0
    all_goals (rw [getD_put (by simp only [size_put]; omega)]; first | rfl | rw [if_neg (by decide), getD_put (by omega), if_neg (by decide)]; assumption)
  refine list_nil ?_
  show Code.wpIn (Fw none) 0 Tryz.prog _ _ ((a0.put (some 5) (.int .i64 s0)).put (some 4) (.int .i64 s0)) W
  rw [← ha1]
  refine wpIn_block (wp_loop_rel (fun n a w => ∃ i, J i [] w ∧ n = N - i ∧ Slots a y (.pointer (some adp)) (.pointer (some adq)) (stI r.1.1 r.1.2.1 s0 i)) ⟨0, hJ0, rfl, S1⟩ ?_)
  rintro n a w ⟨i, hJi, rfl, S⟩
  have hsz := S.size
  obtain ⟨fl, tl, al, bl, hrun, hround⟩ := hY i [] w hJi (fun L hL => by cases hL)
  refine wpIn_seq (wpIn_seq (wpIn_region_list ?_))
  refine list_step rfl (op_val (v := y) (by intro d h; cases h) ?_ ?_)
  · simp [execOp, ev, S.y]
  refine list_step rfl (op_val (v := .int .i64 (stI r.1.1 r.1.2.1 s0 i)) (by intro d h; cases h) ?_ ?_)
  · simp [execOp, ev, getD_put (show 6 < a.tmps.size by omega), S.s]
  obtain ⟨a2, ha2⟩ : ∃ a2 : Act, a2 = (a.put (some 6) y).put (some 7) (.int .i64 (stI r.1.1 r.1.2.1 s0 i)) := ⟨_, rfl⟩
  have h6 : a2.tmps.getD 6 undef = y := by rw [ha2, getD_put (by simp only [size_put]; omega), if_neg (by decide), getD_put (by omega)]; rfl
  have h7 : a2.tmps.getD 7 undef = .int .i64 (stI r.1.1 r.1.2.1 s0 i) := by rw [ha2, getD_put (by simp only [size_put]; omega)]; rfl
  have S2 : Slots a2 y (.pointer (some adp)) (.pointer (some adq)) (stI r.1.1 r.1.2.1 s0 i) := by
    rw [ha2]
    constructor
    · simpa only [size_put] using hsz
    · exact S.defers
    all_goals (rw [getD_put (by simp only [size_put]; omega), if_neg (by decide), getD_put (by omega), if_neg (by decide)])
    · exact S.y
    · exact S.p
    · exact S.q
    · exact S.s
  show wpListIn (Fw none) 0 Tryz.prog _ _ [_] ((a.put (some 6) y).put (some 7) (.int .i64 (stI r.1.1 r.1.2.1 s0 i))) w
  rw [← ha2]
  refine list_step rfl (op_round (l := l) (f := fl) (tmps := tl) (assign := al) (body := bl) (by intro d h; cases h) ?_ (RoundIn.mono hround ?_))
  · simp [execOp, resolve, Deferred.ofValue, ev, h6, h7, hy, invoke, callFunc]
    exact hrun
  rintro e w2 (⟨rfl, hJ2⟩ | ⟨rfl, hJx2⟩)
  · refine ⟨.bool true, rfl, list_nil ?_⟩
    obtain ⟨a3, ha3⟩ : ∃ a3 : Act, a3 = a2.put (some 8) (.bool true) := ⟨_, rfl⟩
    have hsz2 := S2.size
    have S3 : Slots a3 y (.pointer (some adp)) (.pointer (some adq)) (stI r.1.1 r.1.2.1 s0 i) := by
      rw [ha3]
      constructor
      · simpa only [size_put] using hsz2
      · exact S2.defers
      all_goals (rw [getD_put (by omega), if_neg (by decide)])
      · exact S2.y
      · exact S2.p
      · exact S2.q
      · exact S2.s
    have h8 : a3.eval (.tmp 8) = .bool true := by rw [ev, ha3, getD_put (by omega)]; rfl
    show Code.wpIn (Fw none) 0 Tryz.prog _ _ (a2.put (some 8) (.bool true)) w2
    rw [← ha3]
    refine wpIn_cond_true h8 (wpIn_skip ?_)
    show Code.wpIn (Fw none) 0 Tryz.prog _ _ a3 w2
    obtain ⟨_, V, ys, hV, hr, hl⟩ := rd (i + 1) w2 hJ2
    have hsz3 := S3.size
    refine wpIn_block (wpIn_region_list ?_)
    refine list_step rfl (op_val (v := .agg ys.toArray) (by intro d h; cases h) ?_ ?_)
    · simp [execOp, ev, S3.q, Instr.loadAt, Instr.sureAddr, hl]
    refine list_step rfl (op_val (v := .int .i64 (stI r.1.1 r.1.2.1 s0 i)) (by intro d h; cases h) ?_ ?_)
    · simp [execOp, ev, getD_put (show 9 < a3.tmps.size by omega), S3.s]
    refine list_step rfl (op_enter (f := 86) (args := #[.agg ys.toArray, .int .i64 (stI r.1.1 r.1.2.1 s0 i)]) (by intro d h; cases h) ?_ ?_)
    · obtain ⟨fn, e1, e2, e3⟩ := enters146
      have e2' : ¬ fn.name = "runtime.NumGoroutine" := by simpa using e2
      have e3' : ¬ fn.body = none := by intro hn; rw [hn] at e3; cases e3
      have q9 : ((a3.put (some 9) (.agg ys.toArray)).put (some 10) (.int .i64 (stI r.1.1 r.1.2.1 s0 i))).tmps.getD 9 undef = .agg ys.toArray := by rw [getD_put (by simp only [size_put]; omega), if_neg (by decide), getD_put (by omega)]; rfl
      have q10 : ((a3.put (some 9) (.agg ys.toArray)).put (some 10) (.int .i64 (stI r.1.1 r.1.2.1 s0 i))).tmps.getD 10 undef = .int .i64 (stI r.1.1 r.1.2.1 s0 i) := by rw [getD_put (by simp only [size_put]; omega)]; rfl
      simp [execOp, resolve, Deferred.ofValue, ev, q9, q10, evf, invoke, callFunc, e1, e2', e3']
    refine (next_call hV hr (stI_pSt hpre i)).mono ?_
    rintro e w3 ⟨rfl, hown⟩
    refine ⟨_, rfl, ?_⟩
    refine list_step rfl (op_val (v := .int .i64 (stI r.1.1 r.1.2.1 s0 (i + 1))) (by intro d h; cases h) ?_ (list_nil ?_))
    · have q11 : (((a3.put (some 9) (.agg ys.toArray)).put (some 10) (.int .i64 (stI r.1.1 r.1.2.1 s0 i))).put (some 11) (.int .i64 (nxt r.1.1 r.1.2.1 (stI r.1.1 r.1.2.1 s0 i)))).tmps.getD 11 undef = .int .i64 (stI r.1.1 r.1.2.1 s0 (i + 1)) := by
        rw [getD_put (by simp only [size_put]; omega)]; rfl
      simp only [execOp, ev, q11]
      rfl
    have hlt : i + 1 < N := hJN (i + 1) [] w2 hJ2
    refine ⟨N - (i + 1), by omega, i + 1, hJa (i + 1) [] [] w2 w3 hJ2 hown, rfl, ?_⟩
    constructor
    · simpa only [size_put] using hsz3
    · exact S3.defers
    all_goals (rw [getD_put (by simp only [size_put]; omega)])
    all_goals try (rw [if_neg (by decide), getD_put (by simp only [size_put]; omega), if_neg (by decide), getD_put (by simp only [size_put]; omega), if_neg (by decide), getD_put (by omega), if_neg (by decide)])
    · exact S3.y
    · exact S3.p
    · exact S3.q
    · rfl
  · refine ⟨.bool false, rfl, list_nil ?_⟩
    have hsz2 := S2.size
    have h8 : (a2.put (some 8) (.bool false)).eval (.tmp 8) = .bool false := by rw [ev, getD_put (by omega)]; rfl
    refine wpIn_cond_false h8 (wpIn_exit ?_)
    exact ⟨S2.defers, .tuple #[], results_run (fn := Tryz.f85) (vs := []) rfl, ⟨_, rfl⟩, .inr ⟨i, [], hJx2⟩⟩

theorem enters159 : Enters Tryz.prog 85 := ⟨Tryz.f85, Tryz.func85, by kernel_rfl, by kernel_rfl⟩

/-- With the states' iterator. -/
@[reducible] def xS : Xt := { its := [(85, isp159)], clos := [(85, [I64, Reg])] }
theorem xS_ok : Its xS.its := ⟨⟨ih159, enters159⟩, trivial⟩

end Go.Eng.Pu
