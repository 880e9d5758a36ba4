/- The frame for walks with floats that may be NaNs, and equality of fields. Conditions: each contract's own. -/
import Derived.Test.YtcoimlnplaidiaaDoorQ1
import Derived.ChangeKeysEq
namespace Go.Eng.Pu
open Go.Eng Go.Proofs
set_option linter.all false

theorem eqF_int (w : World) (d : Nat) (xs ys : Array Value) (nm tag pk : String) (off bo : Nat) (e : Bool) (r : List Field) {x y : Int} (hn : nm ≠ "_") (hx : xs[off]? = some (.int .i64 x)) (hy : ys[off]? = some (.int .i64 y)) :
    (Op.eqFields (d + 1) xs ys (⟨nm, 3, off, e, tag, pk, bo⟩ :: r)).run Tryd.prog w = if x = y then (Op.eqFields (d + 1) xs ys r).run Tryd.prog w else .ok false w := by
  have p1 : (part 3 xs off).run Tryd.prog w = .ok (.int .i64 x) w := by rw [run_part row3, hx]; rfl
  have p2 : (part 3 ys off).run Tryd.prog w = .ok (.int .i64 y) w := by rw [run_part row3, hy]; rfl
  have p3 := run_equalIn_int (P := Tryd.prog) w d 3 .i64 .i64 x y Tryd.underlying3
  simp only [Op.eqFields]
  rw [if_pos hn]
  simp only [Sem.run_bind, p1, p2, p3, Result.andThen_ok]
  by_cases h : x = y
  · simp [h]
  · simp [h]

theorem eqOf {t : Nat} {ty : Ty} (hg : Tryd.prog.eqGuardType Tryd.prog.depth t = false)
    (hE : ∀ (w : World) (V : View) (x y : ty.Den) (l m : List Value), Rep V ty x l → Rep V ty y m → (Op.equalIn 10000 t (.agg l.toArray) (.agg m.toArray)).run Tryd.prog w = .ok (ty.beq x y) w) : EqOk Tryd.prog t ty := by
  intro w V x y l m o p hx hy
  refine ⟨fun op => run_eqGuard_agg w op t o p _ _ hg, ?_, ?_⟩
  · rw [run_eql_struct, hE w V x y l m hx hy]; rfl
  · rw [run_neq_struct, hE w V x y l m hx hy]; rfl

theorem eq63 : EqOk Tryd.prog 63 Fld0 := by
  refine eqOf Tryd.eqGuardType63 fun w V x y l m hx hy => ?_
  obtain ⟨l1, l2, rfl, h1, l3, l4, rfl, h2, l5, l6, rfl, h3, h4⟩ := hx
  obtain ⟨m1, m2, rfl, g1, m3, m4, rfl, g2, m5, m6, rfl, g3, g4⟩ := hy
  obtain ⟨x1, x2, x3, u⟩ := x
  obtain ⟨y1, y2, y3, u'⟩ := y
  subst h1 h2 h3 h4 g1 g2 g3 g4
  have hS : Tryd.prog.fieldsOf 63 = #[⟨"Prime", 3, 0, false, "", "", 0⟩, ⟨"Root", 3, 1, false, "", "", 8⟩, ⟨"Period", 3, 2, false, "", "", 16⟩] := by kernel_rfl
  rw [run_equalIn_struct w 9999 63 _ _ (by rw [Tryd.underlying63, hS]) Tryd.stoodInHeld63, hS]
  rw [eqF_int w 9998 _ _ "Prime" "" "" 0 0 false _ (by decide) (x := x1) (y := y1) rfl rfl, eqF_int w 9998 _ _ "Root" "" "" 1 8 false _ (by decide) (x := x2) (y := y2) rfl rfl,
    eqF_int w 9998 _ _ "Period" "" "" 2 16 false _ (by decide) (x := x3) (y := y3) rfl rfl]
  simp only [Ty.beq, Op.eqFields, Sem.run_pure, Bool.and_true]
  by_cases e1 : x1 = y1 <;> by_cases e2 : x2 = y2 <;> by_cases e3 : x3 = y3 <;> simp [e1, e2, e3]

theorem eq37 : EqOk Tryd.prog 37 PairT := by
  refine eqOf (by kernel_rfl) fun w V x y l m hx hy => ?_
  obtain ⟨l1, l2, rfl, h1, l3, l4, rfl, h2, h3⟩ := hx
  obtain ⟨m1, m2, rfl, g1, m3, m4, rfl, g2, g3⟩ := hy
  obtain ⟨x1, x2, u⟩ := x
  obtain ⟨y1, y2, u'⟩ := y
  subst h1 h2 h3 g1 g2 g3
  obtain ⟨ti, hi, _⟩ := row3.info
  have hc : Tryd.prog.cellsOf 3 = 1 := by kernel_rfl
  have p1 : (part 3 #[.int .i64 x1, .int .i64 x2] 0).run Tryd.prog w = .ok (.int .i64 x1) w := by rw [run_part row3]; rfl
  have p2 : (part 3 #[.int .i64 y1, .int .i64 y2] 0).run Tryd.prog w = .ok (.int .i64 y1) w := by rw [run_part row3]; rfl
  have p3 : (part 3 #[.int .i64 x1, .int .i64 x2] 1).run Tryd.prog w = .ok (.int .i64 x2) w := by rw [run_part row3]; rfl
  have p4 : (part 3 #[.int .i64 y1, .int .i64 y2] 1).run Tryd.prog w = .ok (.int .i64 y2) w := by rw [run_part row3]; rfl
  rw [run_equalIn_array w 9999 _ _ (show Tryd.prog.underlying 37 = some (.array 2 3) from row37.desc) hi, hc, show List.range 2 = [0, 1] from rfl]
  show (Op.eqItems 9999 3 1 #[.int .i64 x1, .int .i64 x2] #[.int .i64 y1, .int .i64 y2] [0, 1]).run Tryd.prog w = _
  simp only [Op.eqItems, Sem.run_bind, Nat.zero_mul, Nat.one_mul, p1, p2, p3, p4, Result.andThen_ok, run_equalIn_int w 9998 3 .i64 .i64 _ _ Tryd.underlying3]
  simp only [Ty.beq, Bool.and_true]
  by_cases e1 : x1 = y1
  · subst e1
    by_cases e2 : x2 = y2
    · subst e2
      simp [Sem.run_bind, p3, p4, run_equalIn_int w 9998 3 .i64 .i64 _ _ Tryd.underlying3]
    · simp [e2, Sem.run_bind, p3, p4, run_equalIn_int w 9998 3 .i64 .i64 _ _ Tryd.underlying3]
  · simp [e1]

theorem eqsOk : ∀ t ∈ ([63, 37] : List Nat), ∀ ty, tyOf tt 20 t = some ty → EqOk Tryd.prog t ty := by
  intro t ht ty h
  have h63 : tyOf tt 20 63 = some Fld0 := by kernel_rfl
  have h37 : tyOf tt 20 37 = some PairT := by kernel_rfl
  simp only [List.mem_cons, List.not_mem_nil, or_false] at ht
  rcases ht with rfl | rfl
  · rw [h63] at h; cases h; exact eq63
  · rw [h37] at h; cases h; exact eq37

@[reducible] def cfgN (X : Xt) (ctr : List (Nat × Spec)) (nt : Nat) (unr : List Nat := []) : Cfg := { tt := tt, eqs := [63, 37], ctr := ctr, nt := nt, extb := [(60, .f64)], its := X.its, clos := X.clos, fuel := X.fuel, nan := true, unr := unr }

theorem cfgNOk {X : Xt} (hX : Its X.its) {ctr : List (Nat × Spec)} {nt : Nat} {unr : List Nat} (h : All ctr) : CfgOk Tryd.prog OB (cfgN X ctr nt unr) where
  tbl := tbl
  eqs := eqsOk
  ctr := fun f sp hf => all_get h hf
  ext := fun f hf => by simp [memN] at hf
  extb := extOk
  obs := fun t i hi => by simp [obOf] at hi
  its := fun g isp h => its_get hX h

theorem mkU {X : Xt} {unr : List Nat} (hX : Its X.its) {ctr : List (Nat × Spec)} (hctr : All ctr) {f nt : Nat} {fn : Func} {sp : Spec} (hf : Tryd.prog.funcs[f]? = some fn) (hb : fn.body = some (bodyOf fn)) (hnt : fn.ntmps = nt) (hps : (Nat.ble sp.pats.length nt && Nat.ble nt 1000000) = true)
    (hob : Nat.ble (obCount sp.pats) 1 = true) (hd : dstOk nt (bodyOf fn) = true) (hn : (fn.name == "runtime.NumGoroutine") = false) (anns : (argTy sp.pats).Den → List (St → LoopAnn))
    (h : ∀ x, sp.pre x → bodyVC (cfgN X ctr nt unr) (par (cfgN X ctr nt unr)) (anns x) fn.results.toList (bodyOf fn) sp x) : Ok f sp :=
  ⟨fn_sound (cfgNOk hX hctr) (par_sound mixed (cfgNOk hX hctr)) hf hb hnt (Nat.le_of_ble_eq_true (Bool.and_eq_true _ _ ▸ hps : _ ∧ _).1) (Nat.le_of_ble_eq_true (Bool.and_eq_true _ _ ▸ hps : _ ∧ _).2) (Nat.le_of_ble_eq_true hob) rfl hd anns h, fn, hf, hn, by rw [hb]; rfl⟩

theorem mkN {X : Xt} (hX : Its X.its) {ctr : List (Nat × Spec)} (hctr : All ctr) {f nt : Nat} {fn : Func} {sp : Spec} (hf : Tryd.prog.funcs[f]? = some fn) (hb : fn.body = some (bodyOf fn)) (hnt : fn.ntmps = nt) (hps : (Nat.ble sp.pats.length nt && Nat.ble nt 1000000) = true)
    (hob : Nat.ble (obCount sp.pats) 1 = true) (hd : dstOk nt (bodyOf fn) = true) (hn : (fn.name == "runtime.NumGoroutine") = false) (anns : (argTy sp.pats).Den → List (St → LoopAnn))
    (h : ∀ x, sp.pre x → bodyVC (cfgN X ctr nt) (par (cfgN X ctr nt)) (anns x) fn.results.toList (bodyOf fn) sp x) : Ok f sp := mkU (unr := []) hX hctr hf hb hnt hps hob hd hn anns h

@[reducible] def x0 : Xt := {}
theorem x0_ok : Its x0.its := True.intro
@[reducible] def x4 : Xt := { fuel := 4 }
theorem x4_ok : Its x4.its := True.intro

end Go.Eng.Pu
