/- Texts A1 X1 B2 A2 A3 A4 A5 A6 C1 C2 D1 SQ A7 A8 A9 C3 C4, as far as they are used. Conditions: each lemma's own. -/
import Derived.Test.YtjgfbifggolibaaGreatDoorKD3
import GoSem.Extern.MathFloatBits
import GoSem.Extern.MathSqrt
import Derived.ChangeKeysEq
import Derived.Test.YtjgfbifggolibaaGreatDoorRows
import Derived.LaidMore
import Derived.LaidLaws
import Derived.Lay
import Derived.Stop.LaidErr
import Derived.Shelf.Vars
import Derived.OpenShut
import Derived.Stop.Joined
import Derived.Handed
import Derived.WalkKit
import Derived.ChangeCalls
import Derived.ProofKit
import Derived.Laws.FloatArith
import Derived.Laws.Cover2
import Derived.Deep.QuietTactic
import Derived.BigQuiet
import Derived.StillTail
namespace Go.Eng.Ar
open Go.Eng Go.Proofs
set_option linter.all false
theorem zB : (∀ {α β : Type} {a c : α} {b d : β}, ((a, b) = (c, d)) = (a = c ∧ b = d)) ∧ ((!true) = false) ∧ ((!false) = true) ∧ (∀ {b : Bool}, (true = b) = (b = true)) ∧ (∀ {p : Prop} [Decidable p], (decide p = true) = p) ∧ (∀ {p : Prop} [Decidable p], decide p = false ↔ ¬p) ∧ (∀ (b : Bool), ((!b) = true) = (b = false)) ∧ (∀ (b : Bool), ((!b) = false) = (b = true)) ∧ (∀ (a b : Bool), ((a && b) = true) = (a = true ∧ b = true)) ∧ (∀ (p : Prop), (p ∧ True) = p) ∧ (∀ (p : Prop), (True ∧ p) = p) ∧ (∀ {a b : Int}, ¬a < b ↔ b ≤ a) ∧ (∀ {a b : Int}, ¬a ≤ b ↔ b < a) ∧ (∀ {α : Type} [LT α] {a b : α}, a > b ↔ b < a) ∧ (∀ {α : Type} [LE α] {a b : α}, a ≥ b ↔ b ≤ a) :=
  ⟨Prod.mk.injEq _ _ _ _, Bool.not_true, Bool.not_false, Bool.true_eq _, decide_eq_true_eq, decide_eq_false_iff_not, Bool.not_eq_true', Bool.not_eq_false', Bool.and_eq_true, and_true, true_and, Int.not_lt, Int.not_le, gt_iff_lt, ge_iff_le⟩
abbrev I64 : Ty := .int .i64
abbrev C128 : Ty := .cpx .f64
abbrev PairT : Ty := .cons I64 (.cons I64 .nil)
abbrev RangeT : Ty := PairT
abbrev PlaceT : Ty := .cons I64 (.cons I64 (.cons I64 .nil))
abbrev SpkT : Ty := .cons PlaceT (.cons I64 (.cons I64 .nil))
abbrev ArrT : Ty := .cons I64 (.cons I64 (.cons (.sl SpkT) .nil))
abbrev WayT : Ty := .cons PlaceT (.cons PlaceT .nil)
abbrev RayT : Ty := .cons SpkT (.cons RangeT (.cons RangeT .nil))
abbrev TaskT : Ty := .cons (.sl (.sl I64)) (.cons I64 .nil)
abbrev OpenT : Ty := .cons I64 (.cons (.sl I64) .nil)
abbrev WeightsT : Ty := .cons I64 (.cons (.sl I64) (.cons (.sl I64) (.cons (.sl I64) .nil)))
abbrev BoundT : Ty := .cons (.sl I64) (.cons I64 .nil)
abbrev ProgT : Ty := .cons I64 (.cons I64 (.cons (.sl BoundT) .nil))
abbrev CornerT : Ty := .cons (.sl I64) (.cons I64 (.cons (.sl I64) (.cons I64 .nil)))
abbrev sI (t : Nat) (n : Int) : Fact := .slot t (.one (.d I64 n))
abbrev cI (k off : Nat) (n : Int) : Fact := .cell k off (.d I64 n)
theorem eqF_int (w : World) (d : Nat) (xs ys : Array Value) (nm tag pk : String) (off bo : Nat) (e : Bool) (r : List Field) {x y : Int} (hn : nm ≠ "_") (hx : xs[off]? = some (.int .i64 x)) (hy : ys[off]? = some (.int .i64 y)) :
    (Op.eqFields (d + 1) xs ys (⟨nm, 3, off, e, tag, pk, bo⟩ :: r)).run Tryz.prog w = if x = y then (Op.eqFields (d + 1) xs ys r).run Tryz.prog w else .ok false w := by
  have p1 : (part 3 xs off).run Tryz.prog w = .ok (.int .i64 x) w := by rw [run_part row3, hx]; rfl
  have p2 : (part 3 ys off).run Tryz.prog w = .ok (.int .i64 y) w := by rw [run_part row3, hy]; rfl
  have p3 := run_equalIn_int (P := Tryz.prog) w d 3 .i64 .i64 x y Tryz.underlying3
  simp only [Op.eqFields]
  rw [if_pos hn]
  simp only [Sem.run_bind, p1, p2, p3, Result.andThen_ok]
  by_cases h : x = y
  · simp [h]
  · simp [h]
theorem eqOf {t : Nat} {ty : Ty} (hg : Tryz.prog.eqGuardType Tryz.prog.depth t = false)
    (hE : ∀ (w : World) (V : View) (x y : ty.Den) (l m : List Value), Rep V ty x l → Rep V ty y m → (Op.equalIn 10000 t (.agg l.toArray) (.agg m.toArray)).run Tryz.prog w = .ok (ty.beq x y) w) : EqOk Tryz.prog t ty := by
  intro w V x y l m o p hx hy
  refine ⟨fun op => run_eqGuard_agg w op t o p _ _ hg, ?_, ?_⟩
  · rw [run_eql_struct, hE w V x y l m hx hy]; rfl
  · rw [run_neq_struct, hE w V x y l m hx hy]; rfl
theorem eq82 : EqOk Tryz.prog 82 PairT := by
  refine eqOf (by kernel_rfl) fun w V x y l m hx hy => ?_
  obtain ⟨l1, l2, rfl, h1, l3, l4, rfl, h2, h3⟩ := hx
  obtain ⟨m1, m2, rfl, g1, m3, m4, rfl, g2, g3⟩ := hy
  obtain ⟨x1, x2, u⟩ := x
  obtain ⟨y1, y2, u'⟩ := y
  subst h1 h2 h3 g1 g2 g3
  obtain ⟨ti, hi, _⟩ := row3.info
  have hc : Tryz.prog.cellsOf 3 = 1 := by kernel_rfl
  have p1 : (part 3 #[.int .i64 x1, .int .i64 x2] 0).run Tryz.prog w = .ok (.int .i64 x1) w := by rw [run_part row3]; rfl
  have p2 : (part 3 #[.int .i64 y1, .int .i64 y2] 0).run Tryz.prog w = .ok (.int .i64 y1) w := by rw [run_part row3]; rfl
  have p3 : (part 3 #[.int .i64 x1, .int .i64 x2] 1).run Tryz.prog w = .ok (.int .i64 x2) w := by rw [run_part row3]; rfl
  have p4 : (part 3 #[.int .i64 y1, .int .i64 y2] 1).run Tryz.prog w = .ok (.int .i64 y2) w := by rw [run_part row3]; rfl
  rw [run_equalIn_array w 9999 _ _ (show Tryz.prog.underlying 82 = some (.array 2 3) from row82.desc) hi, hc, show List.range 2 = [0, 1] from rfl]
  show (Op.eqItems 9999 3 1 #[.int .i64 x1, .int .i64 x2] #[.int .i64 y1, .int .i64 y2] [0, 1]).run Tryz.prog w = _
  simp only [Op.eqItems, Sem.run_bind, Nat.zero_mul, Nat.one_mul, p1, p2, p3, p4, Result.andThen_ok, run_equalIn_int w 9998 3 .i64 .i64 _ _ Tryz.underlying3]
  simp only [Ty.beq, Bool.and_true]
  by_cases e1 : x1 = y1
  · subst e1
    by_cases e2 : x2 = y2
    · subst e2
      simp [Sem.run_bind, p3, p4, run_equalIn_int w 9998 3 .i64 .i64 _ _ Tryz.underlying3]
    · simp [e2, Sem.run_bind, p3, p4, run_equalIn_int w 9998 3 .i64 .i64 _ _ Tryz.underlying3]
  · simp [e1]
theorem eq28 : EqOk Tryz.prog 28 RangeT := by
  refine eqOf Tryz.eqGuardType28 fun w V x y l m hx hy => ?_
  obtain ⟨l1, l2, rfl, h1, l3, l4, rfl, h2, h4⟩ := hx
  obtain ⟨m1, m2, rfl, g1, m3, m4, rfl, g2, g4⟩ := hy
  obtain ⟨x1, x2, u⟩ := x
  obtain ⟨y1, y2, u'⟩ := y
  subst h1 h2 h4 g1 g2 g4
  have hS : Tryz.prog.fieldsOf 28 = #[⟨"Lo", 3, 0, false, "", "", 0⟩, ⟨"Hi", 3, 1, false, "", "", 8⟩] := by kernel_rfl
  rw [run_equalIn_struct w 9999 28 _ _ (by rw [Tryz.underlying28, hS]) Tryz.stoodInHeld28, hS]
  rw [eqF_int w 9998 _ _ "Lo" "" "" 0 0 false _ (by decide) (x := x1) (y := y1) rfl rfl, eqF_int w 9998 _ _ "Hi" "" "" 1 8 false _ (by decide) (x := x2) (y := y2) rfl rfl]
  simp only [Ty.beq, Op.eqFields, Sem.run_pure, Bool.and_true]
  by_cases e1 : x1 = y1 <;> by_cases e2 : x2 = y2 <;> simp [e1, e2]
theorem eqsOk : ∀ t ∈ ([28, 82] : List Nat), ∀ ty, tyOf tt 20 t = some ty → EqOk Tryz.prog t ty := by
  intro t ht ty h
  have h28 : tyOf tt 20 28 = some RangeT := by kernel_rfl
  have h82 : tyOf tt 20 82 = some PairT := by kernel_rfl
  simp only [List.mem_cons, List.not_mem_nil, or_false] at ht
  rcases ht with rfl | rfl
  · rw [h28] at h; cases h; exact eq28
  · rw [h82] at h; cases h; exact eq82
theorem ext166 : ∃ fn, Tryz.prog.funcs[166]? = some fn ∧ (fn.name == "runtime.NumGoroutine") = false ∧ fn.body.isNone = true ∧ Extern.findNext fn = none ∧ Extern.find fn = some Extern.MathSqrt.sqrt :=
  ⟨Tryz.f166, Tryz.func166, by kernel_rfl, by kernel_rfl, by kernel_rfl, by kernel_rfl⟩
def OB (_ : Nat) (_ : Obj) : Prop := False
def Ok (f : Nat) (sp : Spec) : Prop := Holds Tryz.prog OB f sp ∧ Enters Tryz.prog f
def All : List (Nat × Spec) → Prop
  | [] => True
  | p :: r => Ok p.1 p.2 ∧ All r
theorem all_get : ∀ {ctr : List (Nat × Spec)} {f : Nat} {sp : Spec}, All ctr → getSpec f ctr = some sp → Ok f sp
  | [], _, _, _, h => by simp [getSpec] at h
  | (g, s) :: r, f, sp, ha, h => by
    simp only [getSpec] at h
    cases hb : Nat.beq g f with
    | true =>
      rw [hb] at h
      have := Nat.eq_of_beq_eq_true hb
      subst this
      simp only [cond_true, Option.some.injEq] at h
      subst h
      exact ha.1
    | false => rw [hb] at h; exact all_get ha.2 h
structure Xt where
  its : List (Nat × ISpec) := []
  clos : List (Nat × List Ty) := []
  fuel : Nat := 0
@[reducible] def cfg (X : Xt) (ctr : List (Nat × Spec)) (nt : Nat) : Cfg := { tt := tt, eqs := [28, 82], ctr := ctr, nt := nt, ext := [166], extb := [(110, .f64)], its := X.its, clos := X.clos, fuel := X.fuel }
def bodyOf (f : Func) : Code := match f.body with | some b => b | none => .skip
def Its : List (Nat × ISpec) → Prop
  | [] => True
  | p :: r => (IHolds Tryz.prog p.1 p.2 ∧ Enters Tryz.prog p.1) ∧ Its r
theorem its_get : ∀ {l : List (Nat × ISpec)} {g : Nat} {sp : ISpec}, Its l → getIt g l = some sp → IHolds Tryz.prog g sp ∧ Enters Tryz.prog g
  | [], _, _, _, h => by simp [getIt] at h
  | (g, s) :: r, f, sp, ha, h => by
    simp only [getIt] at h
    cases hb : Nat.beq g f with
    | true =>
      rw [hb] at h
      have := Nat.eq_of_beq_eq_true hb
      subst this
      simp only [cond_true, Option.some.injEq] at h
      subst h
      exact ha.1
    | false => rw [hb] at h; exact its_get ha.2 h
theorem mixed : Tryz.prog.follows .mixedOrders = true := by kernel_rfl
theorem extOk (f : Nat) (k : FloatKind) (h : getEx f [(110, .f64)] = some k) : ∃ fn F, Tryz.prog.funcs[f]? = some fn ∧ (fn.name == "runtime.NumGoroutine") = false ∧ fn.body.isNone = true ∧ Extern.findNext fn = none ∧ Extern.find fn = some F ∧
    ∀ (n : Nat) w, (F #[.float k n]).run Tryz.prog w = .ok (.int (bitK k) n) w := by
  simp only [getEx] at h
  cases h1 : Nat.beq 110 f with
  | true =>
    rw [h1] at h
    have := Nat.eq_of_beq_eq_true h1
    subst this
    simp only [cond_true, Option.some.injEq] at h
    subst h
    exact ⟨Tryz.f110, Extern.MathFloatBits.float64bits, Tryz.func110, by kernel_rfl, by kernel_rfl, by kernel_rfl, by kernel_rfl, fun n w => rfl⟩
  | false => rw [h1] at h; simp at h
theorem cfgOk {X : Xt} (hX : Its X.its) {ctr : List (Nat × Spec)} {nt : Nat} (h : All ctr) : CfgOk Tryz.prog OB (cfg X ctr nt) where
  tbl := tbl
  eqs := eqsOk
  ctr := fun f sp hf => all_get h hf
  ext := fun f hf => by
    have : f = 166 := by simpa [memN_iff] using hf
    subst this
    exact ext166
  extb := extOk
  obs := fun t i hi => by simp [obOf] at hi
  its := fun g isp h => its_get hX h
theorem mkX {X : Xt} (hX : Its X.its) {ctr : List (Nat × Spec)} (hctr : All ctr) {f nt : Nat} {fn : Func} {sp : Spec} (hf : Tryz.prog.funcs[f]? = some fn) (hb : fn.body = some (bodyOf fn)) (hnt : fn.ntmps = nt) (hps : (Nat.ble sp.pats.length nt && Nat.ble nt 1000000) = true)
    (hob : Nat.ble (obCount sp.pats) 1 = true) (hd : dstOk nt (bodyOf fn) = true) (hn : (fn.name == "runtime.NumGoroutine") = false) (anns : (argTy sp.pats).Den → List (St → LoopAnn))
    (h : ∀ x, sp.pre x → bodyVC (cfg X ctr nt) (par (cfg X ctr nt)) (anns x) fn.results.toList (bodyOf fn) sp x) : Ok f sp :=
  ⟨fn_sound (cfgOk hX hctr) (par_sound mixed (cfgOk hX hctr)) hf hb hnt (Nat.le_of_ble_eq_true (Bool.and_eq_true _ _ ▸ hps : _ ∧ _).1) (Nat.le_of_ble_eq_true (Bool.and_eq_true _ _ ▸ hps : _ ∧ _).2) (Nat.le_of_ble_eq_true hob) rfl hd anns h, fn, hf, hn, by rw [hb]; rfl⟩
theorem mk {ctr : List (Nat × Spec)} (hctr : All ctr) {f nt : Nat} {fn : Func} {sp : Spec} (hf : Tryz.prog.funcs[f]? = some fn) (hb : fn.body = some (bodyOf fn)) (hnt : fn.ntmps = nt) (hps : (Nat.ble sp.pats.length nt && Nat.ble nt 1000000) = true)
    (hob : Nat.ble (obCount sp.pats) 1 = true) (hd : dstOk nt (bodyOf fn) = true) (hn : (fn.name == "runtime.NumGoroutine") = false) (anns : (argTy sp.pats).Den → List (St → LoopAnn))
    (h : ∀ x, sp.pre x → bodyVC (cfg {} ctr nt) (par (cfg {} ctr nt)) (anns x) fn.results.toList (bodyOf fn) sp x) : Ok f sp := mkX (X := {}) True.intro hctr hf hb hnt hps hob hd hn anns h
end Go.Eng.Ar

namespace Go.Eng.Ar
open Go.Eng Go.Proofs Go.Lib
set_option linter.all false
set_option maxRecDepth 100000
set_option maxHeartbeats 8000000
abbrev PowT : Ty := chain (List.replicate 20 (.int .u64))
def powD : PowT.Den := ((1 : Int), (10 : Int), (100 : Int), (1000 : Int), (10000 : Int), (100000 : Int), (1000000 : Int), (10000000 : Int), (100000000 : Int), (1000000000 : Int), (10000000000 : Int), (100000000000 : Int), (1000000000000 : Int), (10000000000000 : Int), (100000000000000 : Int), (1000000000000000 : Int), (10000000000000000 : Int), (100000000000000000 : Int), (1000000000000000000 : Int), (10000000000000000000 : Int), ())
theorem rep_ints {V : View} {k : IntKind} : ∀ (n : Nat) (x : (chain (List.replicate n (.int k))).Den) (l : List Value), Rep V (chain (List.replicate n (.int k))) x l → l = (chL (.int k) n x).map (Value.int k)
  | 0, _, l, h => h
  | n + 1, x, l, h => by
    obtain ⟨l1, l2, rfl, h1, h2⟩ := h
    have h1 : l1 = [.int k x.1] := h1
    rw [h1, rep_ints n x.2 l2 h2]
    rfl
theorem rep_pow {V : View} {l : List Value} (h : Rep V PowT powD l) : l = pow10Tab.map (Value.int .u64) := by
  rw [rep_ints 20 powD l h]
  have : chL (.int .u64) 20 powD = pow10Tab := by decide +kernel
  rw [this]
theorem xv_int {V : View} {k : IntKind} {n : Int} {v : Value} (h : RepV V (.int k) n v) : v = .int k n := by
  obtain ⟨l, h1, ⟨h2, _⟩ | ⟨_, h2⟩⟩ := h
  · cases h2
  · have h1 : l = [.int k n] := h1
    rw [h1] at h2; simpa using h2.symm
theorem xv_str {V : View} {s : ByteArray} {v : Value} (h : RepV V .str s v) : v = .string s := by
  obtain ⟨l, h1, ⟨h2, _⟩ | ⟨_, h2⟩⟩ := h
  · cases h2
  · have h1 : l = [.string s] := h1
    rw [h1] at h2; simpa using h2.symm
theorem xpost_same {OB : Nat → Obj → Prop} {w : World} : CPost OB w w [] := ⟨rfl, rfl, rfl, Nat.le_refl _, fun _ _ _ => rfl, fun _ h => by cases h⟩
theorem post_bytes {OB : Nat → Obj → Prop} {w : World} {e : TypeId} {t : ByteArray} : CPost OB w (bytesWorld w e t) [] := by
  refine ⟨rfl, rfl, rfl, ?_, fun b hb _ => bytesWorld_at_old w e t b hb, fun _ h => by cases h⟩
  simp [bytesWorld, World.freeze, World.alloc, World.drew, -World.alloc_eq, -World.drew_eq]
theorem post_below {OB : Nat → Obj → Prop} {w w' : World} (h : RowKit.Below w.heap.size w w') : CPost OB w w' [] :=
  ⟨h.os, h.tape, h.output, h.size, fun b hb _ => h.block b hb, fun _ h => by cases h⟩
@[reducible] def sItoa : Spec := { pats := [.dat I64, .gw 2 PowT], res := [{ t := .str }], pre := fun x => (-9223372036854775808 ≤ x.1 ∧ x.1 ≤ 9223372036854775807) ∧ x.2.1 = powD, f := fun x => (bA (itoa x.1), ()) }
theorem hItoa : Ok 125 sItoa := by
  refine ⟨?_, Tryz.f125, Tryz.func125, by kernel_rfl, by kernel_rfl⟩
  rintro w M ⟨(n : Int), (x : PowT.Den), _⟩ vs bs hM ⟨v, vs', rfl, hv, ⟨c, el, f, h1, h2, h3, h4⟩, rfl, rfl⟩ ⟨⟨(hn0 : -9223372036854775808 ≤ n), (hn1 : n ≤ 9223372036854775807)⟩, (hx : x = powD)⟩
  obtain rfl := xv_int hv
  subst hx
  have hc := rep_pow h4
  refine (Any.strconv_Itoa Tryz.laysM171 n hn0 hn1 w ?_).mono ?_
  · unfold Lib.TabIs World.var?
    rw [show Tryz.prog.globalNamed _ = some 2 from by kernel_rfl]
    simp only [Option.bind_some, h1]
    congr 1
    exact Array.toList_inj.1 (by rw [hc])
  rintro e w' ⟨rfl, k, os, rfl⟩
  refine ⟨[.string _], none, rfl, ⟨rfl, rfl, rfl, (by show w.heap.size ≤ (w.heap ++ os).size; simp), fun b hb _ => ?_, fun _ h => by cases h⟩, _, _, rfl, RepV.mk1 rfl rfl, rfl, rfl⟩
  show (w.heap ++ os)[b]? = w.heap[b]?
  exact Array.getElem?_append_left hb
def atoiR (l : List UInt8) : Int × Bool × Unit := match atoiAll l with
  | .ok v => (v, false, ())
  | .range => (atoiSat l, true, ())
  | _ => (0, true, ())
theorem err_cell {V : View} {w : World} {M : Nat → Prop} {g : Nat} {b : Bool} (h : ∃ c el f, w.heap[g]? = some (.cells c el f) ∧ ¬ M g ∧ c.size = Ty.size .err ∧ Rep V .err b c.toList) :
    ∃ ev, w.cell? ⟨g, 0, none⟩ = some ev ∧ (ev = .nilIface ∨ ∃ te pe, ev = .iface te pe) := by
  obtain ⟨c, el, f, h1, _, _, h4⟩ := h
  have key : ∀ ev, c.toList = [ev] → w.cell? ⟨g, 0, none⟩ = some ev := fun ev he => by
    rw [cell_of h1, ← Array.getElem?_toList, he]; rfl
  rcases h4 with ⟨_, h5⟩ | ⟨_, t, u, h5⟩
  · exact ⟨_, key _ h5, .inl rfl⟩
  · exact ⟨_, key _ h5, .inr ⟨t, u, rfl⟩⟩
@[reducible] def sAtoi : Spec := { pats := [.dat .str, .gw 3 .err, .gw 4 .err], res := [{ t := I64 }, { t := .err }], pre := fun x => x.1.size ≤ 1000000, f := fun x => atoiR (bL x.1) }
theorem hAtoi : Ok 159 sAtoi := by
  refine ⟨?_, Tryz.f159, Tryz.func159, by kernel_rfl, by kernel_rfl⟩
  rintro w M ⟨(s : ByteArray), (b0 : Bool), (b1 : Bool), _⟩ vs bs hM ⟨v, vs', rfl, hv, g0, g1, rfl, rfl⟩ (hs : s.size ≤ 1000000)
  obtain rfl := xv_str hv
  obtain ⟨e0, hv0, he0⟩ := err_cell g0
  obtain ⟨e1, hv1, he1⟩ := err_cell g1
  cases hr : atoiAll s.data.toList with
  | ok n =>
    refine (Tryz.strconv_Atoi_ok s (by omega) n hr w).mono ?_
    rintro e w' ⟨rfl, hw⟩
    have hf : sAtoi.f (s, b0, b1, ()) = (n, false, ()) := by show atoiR s.data.toList = _; simp only [atoiR, hr]
    rw [hf]
    refine ⟨[.int .i64 n, .nilIface], none, rfl, ?_, _, _, rfl, RepV.mk1 rfl rfl, _, _, rfl, RepV.mk1 rfl (.inl ⟨rfl, rfl⟩), rfl, rfl⟩
    rcases hw with rfl | ⟨t, rfl⟩
    · exact xpost_same
    · exact post_bytes
  | range =>
    refine (Tryz.strconv_Atoi_range s (by omega) hr e1 w hv1 he1).mono ?_
    rintro e w' ⟨N, rfl, hN, hN2, hB⟩
    have hf : sAtoi.f (s, b0, b1, ()) = (atoiSat s.data.toList, true, ()) := by show atoiR s.data.toList = _; simp only [atoiR, hr]
    rw [hf]
    refine ⟨[.int .i64 _, .iface 252 (.pointer (some ⟨N, 0, none⟩))], none, rfl, post_below hB, _, _, rfl, RepV.mk1 rfl rfl, _, _, rfl, RepV.mk1 rfl (.inr ⟨rfl, _, _, rfl⟩), rfl, rfl⟩
  | _ =>
    refine (Tryz.strconv_Atoi_syntax s (by omega) (fun v h => by rw [hr] at h; cases h) (fun h => by rw [hr] at h; cases h) e0 w hv0 he0).mono ?_
    rintro e w' ⟨N, rfl, hN, hN2, hB⟩
    have hf : sAtoi.f (s, b0, b1, ()) = (0, true, ()) := by show atoiR s.data.toList = _; simp only [atoiR, hr]
    rw [hf]
    refine ⟨[.int .i64 0, .iface 252 (.pointer (some ⟨N, 0, none⟩))], none, rfl, post_below hB, _, _, rfl, RepV.mk1 rfl rfl, _, _, rfl, RepV.mk1 rfl (.inr ⟨rfl, _, _, rfl⟩), rfl, rfl⟩
@[reducible] def sTrim : Spec := { pats := [.dat .str, .dat .str], res := [{ t := .str }], pre := fun _ => True, f := fun x => (bA (trimPrefix (bL x.1) (bL x.2.1)), ()) }
theorem hTrim : Ok 160 sTrim := by
  refine ⟨?_, Tryz.f160, Tryz.func160, by kernel_rfl, by kernel_rfl⟩
  rintro w M ⟨(s : ByteArray), (p : ByteArray), _⟩ vs bs hM ⟨v, vs', rfl, hv, u, us, rfl, hu, rfl, rfl⟩ _
  obtain rfl := xv_str hv
  obtain rfl := xv_str hu
  refine (Tryz.strings_TrimPrefix s p w).mono ?_
  rintro e w' ⟨rfl, rfl⟩
  exact ⟨[.string _], none, rfl, xpost_same, _, _, rfl, RepV.mk1 rfl rfl, rfl, rfl⟩
theorem cutB_len (c : UInt8) (s : ByteArray) : (cutB c s).length ≤ s.size + 1 := by
  have := pieces_len c (bL s)
  rw [bL_len] at this
  simpa [cutB] using this
@[reducible] def sSplit : Spec := { pats := [.dat .str, .dat .str, .gw 1 I64], res := [{ t := .sl .str }], pre := fun x => x.1.size ≤ 1000000 ∧ x.2.1 = bA [59], f := fun x => (cutB 59 x.1, ()) }
theorem hSplit : Ok 127 sSplit := by
  refine ⟨?_, Tryz.f127, Tryz.func127, by kernel_rfl, by kernel_rfl⟩
  rintro w M ⟨(s : ByteArray), (p : ByteArray), (m : Int), _⟩ vs bs hM ⟨v, vs', rfl, hv, u, us, rfl, hu, ⟨c, el, f, h1, _, _, h4⟩, rfl, rfl⟩ ⟨(hs : s.size ≤ 1000000), (hp : p = bA [59])⟩
  obtain rfl := xv_str hv
  obtain rfl := xv_str hu
  subst hp
  have hm : w.cell? ⟨1, 0, none⟩ = some (.int .i64 m) := by
    have h4 : c.toList = [.int .i64 m] := h4
    rw [cell_of h1, ← Array.getElem?_toList, h4]; rfl
  refine (Tryz.strings_Split s (bA [59]) m w (by omega) hm (by rw [bA_size]; decide)).mono ?_
  rintro e w' ⟨rfl, rfl⟩
  rw [splitB_cut]
  have hlen := cutB_count 59 s
  have hle := cutB_len 59 s
  refine ⟨[.slice (some ⟨w.heap.size, 0, none⟩) (countB s (bA [59]) + 1) (countB s (bA [59]) + 1)], none, rfl, ⟨rfl, rfl, rfl, by simp, fun b hb _ => heap_alloc_old w _ hb, fun _ h => by cases h⟩, _, _, rfl,
    RepV.mk1 rfl ⟨some ⟨w.heap.size, 0, none⟩, countB s (bA [59]) + 1, ?_, ?_, ?_, (fun h => by cases h), fun ad had _ => ?_⟩, rfl, rfl⟩
  · show [_] = [Value.slice _ (cutB 59 s).length _]
    rw [hlen]
  · show (cutB 59 s).length ≤ _
    omega
  · unfold maxLen; omega
  · obtain rfl := Option.some.inj had
    refine ⟨rfl, ((cutB 59 s).map Value.string).toArray, ⟨fun hh => absurd (hM _ hh) (Nat.lt_irrefl _), by simp, _, _, heap_alloc_new w _⟩, ?_, fun i y hy => ?_⟩
    · show 0 + (cutB 59 s).length * 1 ≤ ((cutB 59 s).map Value.string).toArray.size
      simp
    · have hi := (List.getElem?_eq_some_iff.1 hy).1
      have hc : ((cutB 59 s).map Value.string)[i]? = some (.string y) := by rw [List.getElem?_map]; show Option.map _ (lget (α := ByteArray) (cutB 59 s) i) = _; rw [hy]; rfl
      have hlt := (List.getElem?_eq_some_iff.1 hc).1
      show Rep _ .str y ((((cutB 59 s).map Value.string).toArray.toList.drop (0 + i * 1)).take 1)
      rw [Nat.zero_add, Nat.mul_one, List.toList_toArray, List.drop_eq_getElem_cons hlt]
      simp only [List.take_succ_cons, List.take_zero]
      rw [List.getElem?_eq_getElem hlt] at hc
      rw [Option.some.inj hc]
      rfl
def cutP (s : ByteArray) : ByteArray × ByteArray × Bool × Unit := (bA (Lib.cut (bL s) [32]).1, bA (Lib.cut (bL s) [32]).2.1, (Lib.cut (bL s) [32]).2.2, ())
theorem post_drew {OB : Nat → Obj → Prop} {w : World} {n : Nat} : CPost OB w (w.drewN n) [] := post_below (Go.RowKit.Below.trans (⟨rfl, rfl, rfl, Nat.le_refl _, fun _ _ => rfl⟩ : RowKit.Below w.heap.size w w) ⟨rfl, rfl, rfl, Nat.le_refl _, fun _ _ => rfl⟩)
@[reducible] def sCut : Spec := { pats := [.dat .str, .dat .str, .gw 1 I64], res := [{ t := .str }, { t := .str }, { t := .bool }], pre := fun x => x.1.size ≤ 1000000 ∧ x.2.1 = bA [32], f := fun x => cutP x.1 }
theorem hCut : Ok 128 sCut := by
  refine ⟨?_, Tryz.f128, Tryz.func128, by kernel_rfl, by kernel_rfl⟩
  rintro w M ⟨(s : ByteArray), (p : ByteArray), (m : Int), _⟩ vs bs hM ⟨v, vs', rfl, hv, u, us, rfl, hu, ⟨c, el, f, h1, _, _, h4⟩, rfl, rfl⟩ ⟨(hs : s.size ≤ 1000000), (hp : p = bA [32])⟩
  obtain rfl := xv_str hv
  obtain rfl := xv_str hu
  subst hp
  have hm : w.cell? ⟨1, 0, none⟩ = some (.int .i64 m) := by
    have h4 : c.toList = [.int .i64 m] := h4
    rw [cell_of h1, ← Array.getElem?_toList, h4]; rfl
  refine (Tryz.strings_Cut s (bA [32]) m w (by omega) hm).mono ?_
  rintro e w' ⟨rfl, n, rfl⟩
  refine ⟨[.string _, .string _, .bool _], none, rfl, post_drew, _, _, rfl, RepV.mk1 rfl rfl, _, _, rfl, RepV.mk1 rfl rfl, _, _, rfl, RepV.mk1 rfl rfl, rfl, rfl⟩
end Go.Eng.Ar

namespace Go.Eng.Ar
open Go.Eng Go.Proofs Go.ChangeShapes Go.WideShapes Go.ChangeAt Go.RowKit
set_option linter.all false
set_option maxRecDepth 100000
abbrev laidG : List (String × DataW Unit) := Go.Proofs.YtjgfbifggolibaaGreatDoor.Rows.arrayWaysRow.laid
theorem own : ownKnob Tryz.prog.godebug = none := by kernel_rfl
theorem laidOut : laidOutB Tryz.prog = true := by kernel_rfl
theorem gSyn : Tryz.prog.globalNamed "strconv.ErrSyntax" = some 3 := by kernel_rfl
theorem tSyn : (Tryz.prog.globals[3]?).map (·.type) = some 215 := by kernel_rfl
theorem gRng : Tryz.prog.globalNamed "strconv.ErrRange" = some 4 := by kernel_rfl
theorem tRng : (Tryz.prog.globals[4]?).map (·.type) = some 215 := by kernel_rfl
theorem gPow : Tryz.prog.globalNamed "internal/strconv.uint64pow10" = some 2 := by kernel_rfl
theorem tPow : (Tryz.prog.globals[2]?).map (·.type) = some 257 := by kernel_rfl
theorem uPow : ∃ e, Tryz.prog.underlying 257 = some (.array 20 e) ∧ Tryz.prog.underlying e = some (.int .u64) ∧ Tryz.prog.cellsOf e = 1 ∧ Tryz.prog.cellsOf 257 = 20 := ⟨_, Tryz.underlying257, by kernel_rfl, by kernel_rfl, by kernel_rfl⟩
section
variable {P : Program} {W : World}
theorem var_heap {n : String} {g : Nat} {cs : Array Value} (hg : P.globalNamed n = some g) (hv : W.var? P n = some cs) : ∃ el f, W.heap[g]? = some (.cells cs el f) := by
  simp only [World.var?, hg, Option.bind_some] at hv
  split at hv
  · rename_i c el f hh
    simp only [Option.some.injEq] at hv
    exact ⟨el, f, by rw [hh, hv]⟩
  · cases hv
theorem err_of {n nm : String} {d : DataW Unit} {r : List (String × DataW Unit)} {g : Nat} {ti : TypeId} {ms : Array (String × TypeId)}
    (h : laidMet P ((n, .iface nm d) :: r) W) (hg : P.globalNamed n = some g) (ht : (P.globals[g]?).map (·.type) = some ti) (hi : P.underlying ti = some (.interface ms)) :
    ∃ c el f, W.heap[g]? = some (.cells c el f) ∧ c.size = 1 ∧ ∃ u v, c.toList = [.iface u v] := by
  obtain ⟨ps, ⟨g0, t0, cs0, f0, p0, q0, hg0, ht0, hv0, hd0, _, _⟩, _, _⟩ := h
  obtain rfl := Option.some.inj (hg.symm.trans hg0)
  obtain rfl := Option.some.inj (ht.symm.trans ht0)
  obtain ⟨el, f, hh⟩ := var_heap hg hv0
  obtain ⟨f1, u, v, e, _, _⟩ := iface_of_trod hi hd0
  exact ⟨cs0, el, f, hh, by rw [← Array.length_toList, e]; rfl, u, v, e⟩
theorem ints_of {n : String} {k : IntKind} {l : List Int} {r : List (String × DataW Unit)} {g : Nat} {t e : TypeId} {m : Nat}
    (h : laidMet P ((n, .agg (l.map fun a => .lit (.int k a))) :: r) W) (hg : P.globalNamed n = some g) (ht : (P.globals[g]?).map (·.type) = some t)
    (hu : P.underlying t = some (.array m e)) (he : P.underlying e = some (.int k)) (hc : P.cellsOf e = 1) (hct : P.cellsOf t = m) (hl : l.length = m) :
    ∃ c el f, W.heap[g]? = some (.cells c el f) ∧ c.toList = l.map (Value.int k) := by
  obtain ⟨ps, ⟨g0, t0, cs0, f0, p0, q0, hg0, ht0, hv0, hd0, _, _⟩, _, _⟩ := h
  obtain rfl := Option.some.inj (hg.symm.trans hg0)
  obtain rfl := Option.some.inj (ht.symm.trans ht0)
  obtain ⟨el, f, hh⟩ := var_heap hg hv0
  refine ⟨cs0, el, f, hh, ?_⟩
  obtain ⟨xs, n', _, hx, hlen, hn, hel⟩ := DataW.trod_array hu hd0
  rw [hct] at hlen
  simp only [Prod.mk.injEq, DataW.agg.injEq] at hx
  obtain ⟨hx, _⟩ := hx
  refine List.ext_getElem? fun i => ?_
  rcases Nat.lt_or_ge i m with hi | hi
  · have hE := hel i hi
    rw [hc] at hE
    have hxi : xs[i]? = some xs[i] := List.getElem?_eq_getElem (by omega)
    rw [hxi] at hE
    obtain ⟨a, e1, e2, _⟩ := DataW.trod_int he hE
    have hd : xs[i].1 = .lit (.int k a) := by rw [e2]
    have h1 : (xs.map (·.1))[i]? = some (.lit (.int k a)) := by rw [List.getElem?_map, hxi, Option.map_some, hd]
    rw [← hx, List.getElem?_map] at h1
    have h2 : l[i]? = some a := by
      cases hq : l[i]? with
      | none => rw [hq] at h1; cases h1
      | some b =>
        rw [hq] at h1
        simp only [Option.map_some, Option.some.injEq, DataW.lit.injEq, Lit.int.injEq, true_and] at h1
        rw [h1]
    rw [List.getElem?_map, h2]
    have h3 : ((cs0.toList.drop (i * 1)).take 1)[0]? = some (.int k a) := by rw [e1]; rfl
    rw [List.getElem?_take, if_pos (by decide), List.getElem?_drop] at h3
    simpa using h3
  · rw [List.getElem?_eq_none (by rw [hlen]; exact hi), List.getElem?_eq_none (by rw [List.length_map, hl]; exact hi)]
end
theorem rep_chain {V : View} {k : IntKind} : ∀ (n : Nat) (x : (chain (List.replicate n (.int k))).Den), Rep V (chain (List.replicate n (.int k))) x ((chL (.int k) n x).map (Value.int k))
  | 0, _ => rfl
  | n + 1, x => ⟨[.int k x.1], _, rfl, rfl, rep_chain n x.2⟩
def Globs (W : World) : Prop := ∃ b0 b1 mx, ArgsOK OB W (fun _ => False) [.gw 3 .err, .gw 4 .err, .gw 2 PowT, .gw 1 I64] (b0, b1, powD, mx, ()) [] []
theorem globs_of {W : World} (h : laidMetH Tryz.prog laidG W) (hs : W.ShapedOpen Tryz.prog) : Globs W := by
  rw [MakeChecks.laidMetH_plain _ _ _ (by kernel_rfl)] at h
  have hp := h.tail.tail
  obtain ⟨e, u1, u2, u3, u4⟩ := uPow
  obtain ⟨c2, el2, f2, hh2, hl2⟩ := ints_of (l := [1, 10, 100, 1000, 10000, 100000, 1000000, 10000000, 100000000, 1000000000, 10000000000, 100000000000, 1000000000000, 10000000000000, 100000000000000, 1000000000000000, 10000000000000000, 100000000000000000, 1000000000000000000, 10000000000000000000]) (k := .u64) hp gPow tPow u1 u2 u3 u4 rfl
  obtain ⟨ms, u215⟩ : ∃ ms, Tryz.prog.underlying 215 = some (.interface ms) := ⟨_, Tryz.underlying215⟩
  obtain ⟨c1, el1, f1, hh1, hn1, t1, v1, hl1⟩ := err_of hp.tail.tail gRng tRng u215
  obtain ⟨c0, el0, f0, hh0, hn0, t0, v0, hl0⟩ := err_of hp.tail.tail.tail gSyn tSyn u215
  have h0 : ((begin Tryz.prog (fun _ _ => 0) default).world.heap[1]?).bind Obj.row? = some (#[.int .i64 0], 3) := by kernel_rfl
  obtain ⟨mx, hmx⟩ := cell_of_shapedOpen_int hs (g := 1) (of_decide_eq_true (by kernel_rfl)) h0 rfl (by kernel_rfl) (by kernel_rfl) Tryz.underlying3
  obtain ⟨c3, hh3, hn3, _⟩ := hs.1 1 _ _ (of_decide_eq_true (by kernel_rfl)) h0
  have hl3 : c3.toList = [.int .i64 mx] := by
    simp only [World.cell?, hh3] at hmx
    have hn3 : c3.size = 1 := hn3
    match hc : c3.toList, (show c3.toList.length = 1 by rw [Array.length_toList]; exact hn3) with
    | [v], _ =>
      have : c3 = #[v] := by rw [← Array.toArray_toList (xs := c3), hc]
      rw [this] at hmx
      simp at hmx
      rw [hmx]
  refine ⟨true, true, mx, ⟨c0, el0, f0, hh0, id, hn0, ?_⟩, ⟨c1, el1, f1, hh1, id, hn1, ?_⟩, ⟨c2, el2, f2, hh2, id, ?_, ?_⟩, ⟨c3, _, _, hh3, id, hn3, ?_⟩, rfl, rfl⟩
  · exact .inr ⟨rfl, t0, v0, hl0⟩
  · exact .inr ⟨rfl, t1, v1, hl1⟩
  · rw [← Array.length_toList, hl2]; rfl
  · have : Rep (fun b c => ¬ False ∧ ∃ el f, W.heap[b]? = some (.cells c el f)) PowT powD _ := rep_chain 20 powD
    rw [hl2]
    have e : chL (.int .u64) 20 powD = [1, 10, 100, 1000, 10000, 100000, 1000000, 10000000, 100000000, 1000000000, 10000000000, 100000000000, 1000000000000, 10000000000000, 100000000000000, 1000000000000000, 10000000000000000, 100000000000000000, 1000000000000000000, 10000000000000000000] := by decide +kernel
    rw [e] at this
    exact this
  · rw [hl3]; rfl
theorem kept_of {W W' : World} (h : Below W.heap.size W W') (may : MemPlace → Prop) : W.keptBut W' may := by
  refine ⟨h.os, h.output, fun i hi => ?_⟩
  rw [h.block i hi]
  split
  · rename_i h1 h2
    rw [h1] at h2
    simp only [Option.some.injEq, Obj.cells.injEq] at h2
    obtain ⟨rfl, rfl, rfl⟩ := h2
    exact ⟨rfl, rfl, rfl, fun _ _ => rfl⟩
  · rename_i h1 h2
    rw [h1] at h2
    simp only [Option.some.injEq, Obj.map.injEq] at h2
    obtain ⟨rfl, rfl⟩ := h2
    exact .inr ⟨rfl, rfl⟩
  · rfl
def readAll (P : Program) : List TypeId → Bool
  | [] => true
  | t :: r => P.readableRec t && decide (t < P.types.size) && readAll P r
theorem trodAll_stays {P : Program} (hl : laidOutB P = true) {H : Type} {enc : TypeId × Value → H} {W W' : World} (hb : Below W.heap.size W W') : ∀ {ts : List TypeId} {vs : List Value} {ds : List (DataW H)} {ps : List MemPlace}, readAll P ts = true →
    DataW.TrodAll enc P W 0 (fun _ => true) true ts vs ds ps → DataW.TrodAll enc P W' 0 (fun b => decide (b < W.heap.size)) true ts vs ds ps
  | [], [], [], _, _, h => h
  | t :: ts, v :: vs, d :: ds, ps, hr, ⟨p, q, h1, h2, h3⟩ => by
    simp only [readAll, Bool.and_eq_true, decide_eq_true_eq] at hr
    have hlt := DataW.TrodAll.lt (show DataW.TrodAll enc P W 0 (fun _ => true) true (t :: ts) (v :: vs) (d :: ds) ps from ⟨p, q, h1, h2, h3⟩)
    subst h3
    exact ⟨p, q, Below.trod hl hr.1.1 hr.1.2 h1 hb (fun x hx => hlt x (List.mem_append.2 (.inl hx))), trodAll_stays hl hb hr.2 h2, rfl⟩
theorem law_post {H : Type} {enc : TypeId × Value → H} {f : Func} {s : ChangeSpec} {W W' : World} {args : Array Value} {ds gs : List (DataW H)} {before : List MemPlace}
    (hW : DataW.Whole enc Tryz.prog f.params.toList s.vars false W args.toList ds gs before) (hv : s.vars = []) (hr : f.resultTypes.toList = [4]) (hs : f.resultTypes.size = 1) (hfn : s.fn H (ds ++ gs) = { results := [.lit (.bool true)], args := ds }) (hread : readAll Tryz.prog f.params.toList = true)
    (hb : Below W.heap.size W W') : s.post enc Tryz.prog f false true false false W args (.bool true) W' := by
  have hW0 := hW
  obtain ⟨p, q, hA, hV, rfl, _, _⟩ := hW
  rw [hv] at hV
  obtain ⟨rfl, rfl⟩ := trodVars_none hV
  refine ⟨ds, [], p ++ [], [], p, [], hW0, ?_, ?_, ?_, kept_of hb _, fun h => by cases h⟩
  · rw [hfn, hr, hs]
    exact trodAll_cons_mk (shut_bool Tryz.underlying4 true) trodAll_mk0
  · rw [hfn]
    exact trodAll_stays laidOut hb hread hA
  · rw [hfn, hv]
    rfl
theorem door_met (os : Os) (args : Array Value) : laidMetH Tryz.prog laidG ((World.laidAll Tryz.prog os laidG).forCall (fun _ _ => 0) ⟨#[], args, []⟩).memory := by
  rw [MakeChecks.laidMetH_plain _ _ _ (by kernel_rfl)]; exact laidMet_laidAll _ (by kernel_rfl) (by kernel_rfl)
theorem law_lifted {F : Nat} {fn : Func} {s : ChangeSpec} (h : ∀ (H : Type) (enc : TypeId × Value → H) (W : World) (args : Array Value) (ds : List (DataW H)) (ps : List MemPlace) (base : Nat), Globs W → DataW.TrodAll enc Tryz.prog W 0 (fun _ => true) true fn.params.toList args.toList ds ps → (∀ (j : Nat) t v, fn.params.toList[j]? = some t → args.toList[j]? = some v → Value.okWide Tryz.prog W .any base t v) →
      Calls Tryz.prog F args W fun e W' => e = .returned (.bool true) ∧ Below W.heap.size W W')
    (hf : Tryz.prog.funcs[F]? = some fn) (hinit : Tryz.prog.inits.idxOf? F = none) (hv : s.vars = []) (hr : fn.resultTypes.toList = [4]) (hs : fn.resultTypes.size = 1)
    (hread : readAll Tryz.prog fn.params.toList = true) (hfn : ∀ (H : Type) (ds : List (DataW H)), ds.length = fn.params.size → s.fn H (ds ++ []) = { results := [.lit (.bool true)], args := ds })
    (os : Os) (started : os.Started) (H : Type) (enc : TypeId × Value → H)
    (wit : ∃ (w : World) (tape : Tape) (i : Input), w.os = os ∧ (w.forCall tape i).Shaped Tryz.checked.prog ∧ i.vars = [] ∧ Input.okWide Tryz.checked.prog (w.forCall tape i) .any w.heap.size F i ∧
      ((s.pre enc Tryz.checked.prog fn [] false (w.forCall tape i).memory i.args ∧ laidMetH Tryz.prog laidG (w.forCall tape i).memory) ∧ sizedMet enc Tryz.checked.prog fn (OpenSpec.ofChange s) false (w.forCall tape i).memory i.args) ∧ ({} : Assume).holds Tryz.checked.prog (lone (Frame.enter Tryz.checked.prog F i.args .normal) [] (w.forCall tape i))) :
    ReturnsInHanded {} Tryz.checked os F .any (fun w args => (s.pre enc Tryz.prog fn [] false w args ∧ laidMetH Tryz.prog laidG w) ∧ sizedMet enc Tryz.prog fn (OpenSpec.ofChange s) false w args) (s.post enc Tryz.prog fn false true false false) := by
  refine returnsInHanded_of_calls (C := Tryz.checked) own started hinit wit ?_
  intro w tape i _ hsh _ hok hpre hholds
  obtain ⟨_, _, _, fn', hfn', _, _, _, _, hval⟩ := hok
  have e : fn' = fn := Option.some.inj (hfn'.symm.trans hf)
  subst e
  obtain ⟨⟨⟨ds, gs, before, hw, hc⟩, hx⟩, hz⟩ := hpre
  have hW0 := DataW.Whole.of_heap (w' := w.forCall tape i) (by rfl) hw
  have hL : laidMetH Tryz.prog laidG (w.forCall tape i) := hx.of_heap (by rfl)
  have hW := hW0
  obtain ⟨p, q, hA, hV, rfl, _, _⟩ := hW
  have hV' : DataW.TrodVars enc Tryz.prog (w.forCall tape i) (fun _ => true) [] gs q := by rw [← hv]; exact hV
  obtain ⟨rfl, rfl⟩ := trodVars_none hV'
  have hlen : ds.length = fn'.params.size := by
    have := (Go.trodAll_length hA).2
    simpa using this
  refine (h _ _ _ _ _ _ _ (globs_of hL hsh) hA (fun j t v h1 h2 => hval j t v (by simpa using h1) (by simpa using h2))).mono fun e W' ⟨he, hb⟩ => ?_
  subst he
  exact ChangeSpec.post_blind (law_post hW0 hv hr hs (hfn H ds hlen) hread hb)
end Go.Eng.Ar

namespace Go.Eng.Ar
open Go.Eng Go.Proofs
set_option linter.all false
set_option maxRecDepth 100000
set_option maxHeartbeats 8000000
abbrev fWithin (n lo hi : Int) : Bool := decide (lo ≤ n ∧ n ≤ hi)
@[reducible] def sWithin : Spec := { pats := [.dat I64, .dat I64, .dat I64], res := [{ t := .bool }], pre := fun _ => True, f := fun x => (fWithin x.1 x.2.1 x.2.2.1, ()) }
theorem h88 : Ok 88 sWithin := by
  refine mk (ctr := []) trivial (nt := 15) Tryz.func88 rfl rfl rfl rfl (by kernel_rfl) (by kernel_rfl) (fun _ => []) ?_
  rintro ⟨(n : Int), (lo : Int), (hi : Int), _⟩ _
  repeat' (intro hzz; (try (rename Two => hq; cases hq)); (try dsimp only at hzz); (try simp only [resTy, argTy, eqD, inR, big, wantOf, zB] at hzz); (try simp only [resTy, argTy, eqD, inR, big, wantOf, zB, fWithin] at hzz); (try (revert hzz; intro _)))
  all_goals try (rename Unit => hq; clear hq)
  all_goals try ((with_reducible refine Held.mk ?_); (with_reducible (first | refine Frz.mk ?_ | refine And.intro (Frz.mk ?_) ?_ | refine And.intro ?_ (Frz.mk ?_))); repeat' first | exact True.intro | (change _ = _; with_reducible rfl) | refine And.intro ?_ ?_ | (with_reducible refine Frz.mk ?_))
  all_goals try (refine Held.mk ?_; (try dsimp only at *); (try simp only [resTy, argTy, eqD, inR, big, wantOf, zB] at *); (try simp only [resTy, argTy, eqD, inR, big, wantOf, zB, fWithin] at *))
  all_goals (first | (simp only [decide_eq_decide]; omega) | (symm; simp only [decide_eq_false_iff_not]; omega) | trace_state)
theorem h29 : Ok 29 sWithin := by
  refine mk (ctr := []) trivial (nt := 15) Tryz.func29 rfl rfl rfl rfl (by kernel_rfl) (by kernel_rfl) (fun _ => []) ?_
  rintro ⟨(n : Int), (lo : Int), (hi : Int), _⟩ _
  repeat' (intro hzz; (try (rename Two => hq; cases hq)); (try dsimp only at hzz); (try simp only [resTy, argTy, eqD, inR, big, wantOf, zB] at hzz); (try simp only [resTy, argTy, eqD, inR, big, wantOf, zB, fWithin] at hzz); (try (revert hzz; intro _)))
  all_goals try (rename Unit => hq; clear hq)
  all_goals try ((with_reducible refine Held.mk ?_); (with_reducible (first | refine Frz.mk ?_ | refine And.intro (Frz.mk ?_) ?_ | refine And.intro ?_ (Frz.mk ?_))); repeat' first | exact True.intro | (change _ = _; with_reducible rfl) | refine And.intro ?_ ?_ | (with_reducible refine Frz.mk ?_))
  all_goals try (refine Held.mk ?_; (try dsimp only at *); (try simp only [resTy, argTy, eqD, inR, big, wantOf, zB] at *); (try simp only [resTy, argTy, eqD, inR, big, wantOf, zB, fWithin] at *))
  all_goals (first | (simp only [decide_eq_decide]; omega) | (symm; simp only [decide_eq_false_iff_not]; omega) | trace_state)
abbrev pSmall (m : Int) : Prop := 0 ≤ m ∧ m ≤ 9000000000000000000
@[reducible] def sSmall : Spec := { pats := [.dat I64, .dat I64], res := [{ t := .bool }], pre := fun x => pSmall x.2.1, f := fun x => (fWithin x.1 (-x.2.1) x.2.1, ()) }
theorem h134 : Ok 134 sSmall := by
  refine mk (ctr := [(88, sWithin)]) ⟨h88, trivial⟩ (nt := 10) Tryz.func134 rfl rfl rfl rfl (by kernel_rfl) (by kernel_rfl) (fun _ => []) ?_
  rintro ⟨(n : Int), (m : Int), _⟩ ⟨h1, h2⟩
  repeat' (intro hzz; (try (rename Two => hq; cases hq)); (try dsimp only at hzz); (try simp only [resTy, argTy, eqD, inR, big, wantOf, zB] at hzz); (try simp only [resTy, argTy, eqD, inR, big, wantOf, zB, pSmall, fWithin] at hzz); (try (revert hzz; intro _)))
  all_goals try (rename Unit => hq; clear hq)
  all_goals try ((with_reducible refine Held.mk ?_); (with_reducible (first | refine Frz.mk ?_ | refine And.intro (Frz.mk ?_) ?_ | refine And.intro ?_ (Frz.mk ?_))); repeat' first | exact True.intro | (change _ = _; with_reducible rfl) | refine And.intro ?_ ?_ | (with_reducible refine Frz.mk ?_))
  all_goals try (refine Held.mk ?_; (try dsimp only at *); (try simp only [resTy, argTy, eqD, inR, big, wantOf, zB] at *); (try simp only [resTy, argTy, eqD, inR, big, wantOf, zB, pSmall, fWithin] at *))
  all_goals (first | omega | trace_state)
@[reducible] def sUnless : Spec := { pats := [.dat .bool, .dat I64], res := [{ t := I64 }], pre := fun _ => True, f := fun x => (cond x.1 0 x.2.1, ()) }
theorem h85 : Ok 85 sUnless := by
  refine mk (ctr := []) trivial (nt := 7) Tryz.func85 rfl rfl rfl rfl (by kernel_rfl) (by kernel_rfl) (fun _ => []) ?_
  rintro ⟨(b : Bool), (e : Int), _⟩ _
  repeat' (intro hzz; (try (rename Two => hq; cases hq)); (try dsimp only at hzz); (try simp only [resTy, argTy, eqD, inR, big, wantOf, zB] at hzz); (try (revert hzz; intro _)))
  all_goals try (rename Unit => hq; clear hq)
  all_goals try ((with_reducible refine Held.mk ?_); (with_reducible (first | refine Frz.mk ?_ | refine And.intro (Frz.mk ?_) ?_ | refine And.intro ?_ (Frz.mk ?_))); repeat' first | exact True.intro | (change _ = _; with_reducible rfl) | refine And.intro ?_ ?_ | (with_reducible refine Frz.mk ?_))
  all_goals try (refine Held.mk ?_; (try dsimp only at *); (try simp only [resTy, argTy, eqD, inR, big, wantOf, zB] at *))
  all_goals (first | (rename_i h; rw [h]; rfl) | trace_state)
end Go.Eng.Ar

namespace Go.Eng.Ar
open Go.Eng Go.Proofs
set_option linter.all false
set_option maxRecDepth 100000
set_option maxHeartbeats 8000000
def plErr (x y z : Int) : Int := if (-5000 ≤ x ∧ x ≤ 5000) ∧ (-5000 ≤ y ∧ y ≤ 5000) ∧ (-5000 ≤ z ∧ z ≤ 5000) then 0 else 2
@[reducible] def sPlace : Spec := { pats := [.dat PlaceT], res := [{ t := I64 }], pre := fun _ => True, f := fun x => (plErr x.1.1 x.1.2.1 x.1.2.2.1, ()) }
theorem h74 : Ok 74 sPlace := by
  refine mk (ctr := [(134, sSmall), (85, sUnless)]) ⟨h134, h85, trivial⟩ (nt := 17) Tryz.func74 rfl rfl rfl rfl (by kernel_rfl) (by kernel_rfl) (fun _ => []) ?_
  rintro ⟨⟨(x : Int), (y : Int), (z : Int), _⟩, _⟩ _
  repeat' (intro hzz; (try (rename Two => hq; cases hq)); (try dsimp only at hzz); (try simp only [resTy, argTy, eqD, inR, big, wantOf, zB] at hzz); (try simp only [resTy, argTy, eqD, inR, big, wantOf, zB, pSmall, fWithin] at hzz); (try (revert hzz; intro _)))
  all_goals try (rename Unit => hq; clear hq)
  all_goals try ((with_reducible refine Held.mk ?_); (with_reducible (first | refine Frz.mk ?_ | refine And.intro (Frz.mk ?_) ?_ | refine And.intro ?_ (Frz.mk ?_))); repeat' first | exact True.intro | (change _ = _; with_reducible rfl) | refine And.intro ?_ ?_ | (with_reducible refine Frz.mk ?_))
  all_goals try (refine Held.mk ?_; (try dsimp only at *); (try simp only [resTy, argTy, eqD, inR, big, wantOf, zB] at *); (try simp only [resTy, argTy, eqD, inR, big, wantOf, zB, pSmall, fWithin] at *))
  all_goals try omega
  all_goals (simp only [plErr]; split <;> first | rfl | (exfalso; omega) | (rw [decide_eq_true (by omega)]; rfl) | (rw [decide_eq_false (by omega)]; rfl))
def soErr (r v : Int) : Int := if (8000 ≤ r ∧ r ≤ 192000) ∧ (30000 ≤ v ∧ v ≤ 40000) then 0 else 2
@[reducible] def sSound : Spec := { pats := [.dat PairT], res := [{ t := I64 }], pre := fun _ => True, f := fun x => (soErr x.1.1 x.1.2.1, ()) }
theorem h75 : Ok 75 sSound := by
  refine mk (ctr := [(88, sWithin), (85, sUnless)]) ⟨h88, h85, trivial⟩ (nt := 12) Tryz.func75 rfl rfl rfl rfl (by kernel_rfl) (by kernel_rfl) (fun _ => []) ?_
  rintro ⟨⟨(x : Int), (y : Int), _⟩, _⟩ _
  repeat' (intro hzz; (try (rename Two => hq; cases hq)); (try dsimp only at hzz); (try simp only [resTy, argTy, eqD, inR, big, wantOf, zB] at hzz); (try simp only [resTy, argTy, eqD, inR, big, wantOf, zB, fWithin] at hzz); (try (revert hzz; intro _)))
  all_goals try (rename Unit => hq; clear hq)
  all_goals try ((with_reducible refine Held.mk ?_); (with_reducible (first | refine Frz.mk ?_ | refine And.intro (Frz.mk ?_) ?_ | refine And.intro ?_ (Frz.mk ?_))); repeat' first | exact True.intro | (change _ = _; with_reducible rfl) | refine And.intro ?_ ?_ | (with_reducible refine Frz.mk ?_))
  all_goals try (refine Held.mk ?_; (try dsimp only at *); (try simp only [resTy, argTy, eqD, inR, big, wantOf, zB] at *); (try simp only [resTy, argTy, eqD, inR, big, wantOf, zB, fWithin] at *))
  all_goals try omega
  all_goals (simp only [soErr]; split <;> first | rfl | (exfalso; omega) | (rw [decide_eq_true (by omega)]; rfl) | (rw [decide_eq_false (by omega)]; rfl))
end Go.Eng.Ar

namespace Go.Eng.Ar
open Go.Eng Go.Proofs
set_option linter.all false
set_option maxRecDepth 100000
set_option maxHeartbeats 8000000
def gnErr (g d : Int) : Int := if (0 ≤ g ∧ g ≤ 1000) ∧ (0 ≤ d ∧ d ≤ 10000) then 0 else 2
@[reducible] def sGains : Spec := { pats := [.dat I64, .dat I64], res := [{ t := I64 }], pre := fun _ => True, f := fun x => (gnErr x.1 x.2.1, ()) }
theorem h86 : Ok 86 sGains := by
  refine mk (ctr := [(88, sWithin), (85, sUnless)]) ⟨h88, h85, trivial⟩ (nt := 12) Tryz.func86 rfl rfl rfl rfl (by kernel_rfl) (by kernel_rfl) (fun _ => []) ?_
  rintro ⟨(x : Int), (y : Int), _⟩ _
  repeat' (intro hzz; (try (rename Two => hq; cases hq)); (try dsimp only at hzz); (try simp only [resTy, argTy, eqD, inR, big, wantOf, zB] at hzz); (try simp only [resTy, argTy, eqD, inR, big, wantOf, zB, fWithin] at hzz); (try (revert hzz; intro _)))
  all_goals try (rename Unit => hq; clear hq)
  all_goals try ((with_reducible refine Held.mk ?_); (with_reducible (first | refine Frz.mk ?_ | refine And.intro (Frz.mk ?_) ?_ | refine And.intro ?_ (Frz.mk ?_))); repeat' first | exact True.intro | (change _ = _; with_reducible rfl) | refine And.intro ?_ ?_ | (with_reducible refine Frz.mk ?_))
  all_goals try (refine Held.mk ?_; (try dsimp only at *); (try simp only [resTy, argTy, eqD, inR, big, wantOf, zB] at *); (try simp only [resTy, argTy, eqD, inR, big, wantOf, zB, fWithin] at *))
  all_goals try omega
  all_goals (simp only [gnErr]; split <;> first | rfl | (exfalso; omega) | (rw [decide_eq_true (by omega)]; rfl) | (rw [decide_eq_false (by omega)]; rfl))
end Go.Eng.Ar

namespace Go.Eng.Ar
open Go.Eng Go.Proofs
set_option linter.all false
set_option maxRecDepth 100000
set_option maxHeartbeats 8000000
def firstI : List Int → Int
  | [] => 0
  | e :: r => if e = 0 then firstI r else e
theorem drop_get {xs : List Int} {i : Nat} (h : i < xs.length) : xs.drop i = xs.getD i 0 :: xs.drop (i + 1) := by
  rw [List.drop_eq_getElem_cons h]
  simp [List.getD, List.getElem?_eq_getElem h]
theorem getD_i (xs : List Int) (i : Nat) : List.getD xs ((i : Int)).toNat (Ty.dflt I64) = xs.getD i 0 := rfl
theorem firstI_step {xs : List Int} {i : Nat} (h : i < xs.length) : firstI (xs.drop i) = if xs.getD i 0 = 0 then firstI (xs.drop (i + 1)) else xs.getD i 0 := by
  rw [drop_get h]; rfl
def pLen (n : Nat) : Prop := (n : Int) ≤ 4611686018427387904
theorem pLen.out {n : Nat} (h : pLen n) : (n : Int) ≤ 4611686018427387904 := h
@[reducible] def sFirst : Spec := { pats := [.dat (.sl I64)], res := [{ t := I64 }], pre := fun x => pLen (List.length (α := Int) x.1), f := fun x => (firstI x.1, ()) }
def firstAnn (xs : List Int) : LoopAnn := { σ := Nat × Unit, pat := fun i => [sI 7 i.1], inv := fun i => i.1 ≤ xs.length ∧ firstI (xs.drop i.1) = firstI xs, meas := fun i => xs.length - i.1 }
theorem h73 : Ok 73 sFirst := by
  refine mk (ctr := []) trivial (nt := 15) Tryz.func73 rfl rfl rfl rfl (by kernel_rfl) (by kernel_rfl) (fun x => [fun _ => firstAnn x.1]) ?_
  rintro ⟨(xs : List Int), _⟩ (hp : pLen xs.length)
  repeat' (intro hzz; (try (rename Two => hq; cases hq)); (try dsimp only at hzz); (try simp only [resTy, argTy, eqD, inR, big, wantOf, zB] at hzz); (try simp only [resTy, argTy, eqD, inR, big, wantOf, zB, getD_i] at hzz); (try (revert hzz; intro _)))
  all_goals try (rename Unit => hq; clear hq)
  all_goals try ((with_reducible refine Held.mk ?_); (with_reducible (first | refine Frz.mk ?_ | refine And.intro (Frz.mk ?_) ?_ | refine And.intro ?_ (Frz.mk ?_))); repeat' first | exact True.intro | (change _ = _; with_reducible rfl) | refine And.intro ?_ ?_ | (with_reducible refine Frz.mk ?_))
  all_goals try (refine Held.mk ?_; (try dsimp only at *); (try simp only [resTy, argTy, eqD, inR, big, wantOf, zB] at *); (try simp only [resTy, argTy, eqD, inR, big, wantOf, zB, getD_i] at *))
  ·
    refine GHeld.mk ?_
    refine Exists.intro (0, ()) ?_
    refine And.intro (Leaf.mk ?_) ?_
    · repeat' first | exact True.intro | refine And.intro ?_ ?_
      all_goals try ((change _ = _ <;> try dsimp only) <;> try with_reducible rfl)
      all_goals try omega
    exact ⟨Nat.zero_le _, rfl⟩
  · rename_i s hi hg
    obtain ⟨i, u⟩ := s
    dsimp only at hi hg
    exact ⟨Int.natCast_nonneg i, hg⟩
  · rename_i s hi hg hg'
    obtain ⟨i, u⟩ := s
    dsimp only at hi hg hg'
    try simp only [getD_i] at hg' ⊢
    have hlt : i < xs.length := by have : (i : Int) < xs.length := hg; omega
    have h1 := firstI_step hlt
    replace hg' : ¬ xs.getD i 0 = 0 := by simpa using hg'
    rw [if_neg hg', hi.2] at h1
    exact h1.symm
  · rename_i s hi hg hg'
    obtain ⟨i, u⟩ := s
    dsimp only at hi hg hg'
    try simp only [getD_i] at hg' ⊢
    have := hp.out
    have : (i : Int) < xs.length := hg
    have h0 : (0 : Int) ≤ (i : Int) := Int.natCast_nonneg i
    omega
  · rename_i s hi hg hg'
    obtain ⟨i, u⟩ := s
    dsimp only at hi hg hg'
    try simp only [getD_i] at hg' ⊢
    all_goals try dsimp only at hg hg'
    all_goals try simp only [resTy, argTy, eqD, inR, big, wantOf, zB] at hg hg'
    all_goals try simp only [resTy, argTy, eqD, inR, big, wantOf, zB, getD_i] at hg hg'
    have hlt : i < xs.length := by have : (i : Int) < xs.length := hg; omega
    have h1 := firstI_step hlt
    refine GHeld.mk ?_
    refine Exists.intro (i + 1, ()) ?_
    refine And.intro (Leaf.mk ?_) ?_
    · repeat' first | exact True.intro | refine And.intro ?_ ?_
      all_goals try ((change _ = _ <;> try dsimp only) <;> try with_reducible rfl)
      all_goals try omega
    replace hg' : xs.getD i 0 = 0 := by simpa using hg'
    rw [if_pos hg'] at h1
    exact ⟨⟨hlt, h1.symm.trans hi.2⟩, by simp only [firstAnn]; omega⟩
  · rename_i s hi hg
    obtain ⟨i, u⟩ := s
    dsimp only at hi hg
    have h1 := hi.2
    rw [List.drop_eq_nil_of_le (by have : (xs.length : Int) ≤ (i : Int) := hg; omega)] at h1
    exact h1
end Go.Eng.Ar

namespace Go.Eng.Ar
open Go.Eng Go.Proofs
set_option linter.all false
set_option maxRecDepth 100000
set_option maxHeartbeats 8000000
abbrev SpkD : Type := SpkT.Den
abbrev spkZ : SpkD := Ty.dflt SpkT
def spErr (s : SpkD) : Int := if plErr s.1.1 s.1.2.1 s.1.2.2.1 = 0 then gnErr s.2.1 s.2.2.1 else plErr s.1.1 s.1.2.1 s.1.2.2.1
theorem spErr_first (s : SpkD) : firstI [plErr s.1.1 s.1.2.1 s.1.2.2.1, gnErr s.2.1 s.2.2.1] = spErr s := by
  simp only [firstI, spErr]
  split
  · split <;> simp_all
  · rfl
def chkGo (xs : List SpkD) : Nat → Nat → Int × Int
  | 0, _ => (0, 0)
  | k + 1, i => if spErr (xs.getD i spkZ) = 0 then chkGo xs k (i + 1) else ((i : Int), spErr (xs.getD i spkZ))
def hdErr (r v : Int) (n : Nat) : Int := if soErr r v = 0 then (if n = 0 then 10 else if n ≤ 8 then 0 else 8) else soErr r v
theorem hd_eq (r v : Int) (n : Nat) : firstI [soErr r v, bif decide ((0 : Int) < (n : Int)) then 0 else 10, bif decide ((n : Int) ≤ 8) then 0 else 8] = hdErr r v n := by
  simp only [firstI, hdErr]
  split
  · by_cases h1 : n = 0
    · subst h1; rfl
    · rw [decide_eq_true (show (0 : Int) < (n : Int) by omega), if_neg h1]
      by_cases h2 : n ≤ 8
      · rw [decide_eq_true (show (n : Int) ≤ 8 by omega), if_pos h2]; rfl
      · rw [decide_eq_false (show ¬ (n : Int) ≤ 8 by omega), if_neg h2]; rfl
  · rfl
def chkA (r v : Int) (xs : List SpkD) : Int × Int := if hdErr r v xs.length = 0 then chkGo xs xs.length 0 else (0, hdErr r v xs.length)
theorem chkGo_step {xs : List SpkD} {i : Nat} (h : i < xs.length) : chkGo xs (xs.length - i) i = if spErr (xs.getD i spkZ) = 0 then chkGo xs (xs.length - (i + 1)) (i + 1) else ((i : Int), spErr (xs.getD i spkZ)) := by
  obtain ⟨k, hk⟩ : ∃ k, xs.length - i = k + 1 := ⟨xs.length - i - 1, by omega⟩
  rw [hk, show xs.length - (i + 1) = k by omega]; rfl
@[reducible] def sSoundOf : Spec := { pats := [.dat ArrT], res := [{ t := PairT }], pre := fun _ => True, f := fun x => ((x.1.1, x.1.2.1, ()), ()) }
theorem h84 : Ok 84 sSoundOf := by
  refine mk (ctr := []) trivial (nt := 8) Tryz.func84 rfl rfl rfl rfl (by kernel_rfl) (by kernel_rfl) (fun _ => []) ?_
  rintro ⟨⟨(r : Int), (v : Int), (xs : List SpkD), _⟩, _⟩ _
  repeat' (intro hzz; (try (rename Two => hq; cases hq)); (try dsimp only at hzz); (try simp only [resTy, argTy, eqD, inR, big, wantOf, zB] at hzz); (try (revert hzz; intro _)))
  all_goals try (rename Unit => hq; clear hq)
  all_goals try ((with_reducible refine Held.mk ?_); (with_reducible (first | refine Frz.mk ?_ | refine And.intro (Frz.mk ?_) ?_ | refine And.intro ?_ (Frz.mk ?_))); repeat' first | exact True.intro | (change _ = _; with_reducible rfl) | refine And.intro ?_ ?_ | (with_reducible refine Frz.mk ?_))
  all_goals try (refine Held.mk ?_; (try dsimp only at *); (try simp only [resTy, argTy, eqD, inR, big, wantOf, zB] at *))
  all_goals try omega
@[reducible] def sCheck : Spec := { pats := [.dat ArrT], res := [{ t := I64 }, { t := I64 }], pre := fun x => pLen (List.length (α := SpkD) x.1.2.2.1), f := fun x => ((chkA x.1.1 x.1.2.1 x.1.2.2.1).1, (chkA x.1.1 x.1.2.1 x.1.2.2.1).2, ()) }
def chkAnn (r v : Int) (xs : List SpkD) : LoopAnn := { σ := Nat, pat := fun k => [sI 29 k], inv := fun k => k ≤ xs.length ∧ chkGo xs (xs.length - k) k = chkA r v xs, meas := fun k => xs.length - k }
theorem h25 : Ok 25 sCheck := by
  refine mk (ctr := [(73, sFirst), (74, sPlace), (75, sSound), (84, sSoundOf), (85, sUnless), (86, sGains)]) ⟨h73, h74, h75, h84, h85, h86, trivial⟩ (nt := 49) Tryz.func25 rfl rfl rfl rfl (by kernel_rfl) (by kernel_rfl) (fun x => [fun _ => chkAnn x.1.1 x.1.2.1 x.1.2.2.1]) ?_
  rintro ⟨⟨(r : Int), (v : Int), (xs : List SpkD), _⟩, _⟩ (hp : pLen xs.length)
  have hp' := hp.out
  repeat' (intro hzz; (try (rename Two => hq; cases hq)); (try dsimp only at hzz); (try simp only [resTy, argTy, eqD, inR, big, wantOf, zB] at hzz); (try simp only [resTy, argTy, eqD, inR, big, wantOf, zB, hd_eq] at hzz); (try (revert hzz; intro _)))
  all_goals try (rename Unit => hq; clear hq)
  all_goals try ((with_reducible refine Held.mk ?_); (with_reducible (first | refine Frz.mk ?_ | refine And.intro (Frz.mk ?_) ?_ | refine And.intro ?_ (Frz.mk ?_))); repeat' first | exact True.intro | (change _ = _; with_reducible rfl) | refine And.intro ?_ ?_ | (with_reducible refine Frz.mk ?_))
  all_goals try (refine Held.mk ?_; (try dsimp only at *); (try simp only [resTy, argTy, eqD, inR, big, wantOf, zB] at *); (try simp only [resTy, argTy, eqD, inR, big, wantOf, zB, hd_eq] at *))
  all_goals try omega
  · show ((3 : Nat) : Int) ≤ 4611686018427387904
    decide
  · rename_i h
    unfold chkA; rw [if_neg h]; exact ⟨rfl, rfl⟩
  · rename_i h
    refine GHeld.mk ?_
    refine Exists.intro (0 : Nat) ?_
    refine And.intro (Leaf.mk ?_) ?_
    · repeat' first | exact True.intro | refine And.intro ?_ ?_
      all_goals try ((change _ = _ <;> try dsimp only) <;> try with_reducible rfl)
      all_goals try omega
      all_goals (rfl)
    exact ⟨Nat.zero_le _, by unfold chkA; rw [if_pos h]; rfl⟩
  · show ((2 : Nat) : Int) ≤ 4611686018427387904
    decide
  · rename_i k hk hlt h
    have e := hk.2
    have hlt : k < xs.length := by omega
    have h : ¬ spErr (xs.getD k spkZ) = 0 := fun h' => h ((spErr_first _).trans h')
    rw [chkGo_step hlt, if_neg h] at e
    rw [← e]
    exact ⟨rfl, spErr_first _⟩
  · rename_i k hk hlt h
    have e := hk.2
    have hlt : k < xs.length := by omega
    have h : spErr (xs.getD k spkZ) = 0 := (spErr_first _).symm.trans h
    rw [chkGo_step hlt, if_pos h] at e
    refine GHeld.mk ?_
    refine Exists.intro (k + 1) ?_
    refine And.intro (Leaf.mk ?_) ?_
    · repeat' first | exact True.intro | refine And.intro ?_ ?_
      all_goals try ((change _ = _ <;> try dsimp only) <;> try with_reducible rfl)
      all_goals try omega
      all_goals (rfl)
    exact ⟨⟨hlt, e⟩, (show xs.length - (k + 1) < xs.length - k by omega)⟩
  · rename_i k hk hlt
    have e := hk.2
    rw [show xs.length - k = 0 by omega] at e
    rw [← e]; exact ⟨rfl, rfl⟩
end Go.Eng.Ar

namespace Go.Eng.Ar
open Go.Eng Go.Proofs
set_option linter.all false
set_option maxRecDepth 100000
set_option maxHeartbeats 8000000
theorem eq_nil (ad : Option Addr) (n c : Nat) (w : World) : (binOp .eql 76 (.slice ad n c) (.slice none 0 0)).run Tryz.prog w = .ok (.bool ad.isNone) w := by
  have hr := run_equal_slice_nil (P := Tryz.prog) w 76 3 ad n c Tryz.underlying76
  simp [binOp, hr]
theorem cl_nil (w : World) : Calls Tryz.prog 145 #[.slice none 0 0] w fun r w' => r = .returned (.slice none 0 0) ∧ w' = w := by
  have mixed := mixed
  have t3 := Tryz.underlying3
  have t76 := Tryz.underlying76
  have hq : (binOp .eql 76 (.slice none 0 0) (.slice none 0 0)).run Tryz.prog w = .ok (.bool true) w := eq_nil none 0 0 w
  have hn : Tryz.f145.ntmps = 8 := rfl
  go_enter Tryz.func145, hn
  go_wp2
  go_ret
  exact ⟨rfl, rfl⟩
theorem cl_emp (ad : Addr) (c : Nat) (w : World) : Calls Tryz.prog 145 #[.slice (some ad) 0 c] w fun r w' => r = .returned (.slice (some ⟨w.heap.size, 0, none⟩) 0 0) ∧ w' = w.alloc (.cells #[] 3 (0, 0)) := by
  have mixed := mixed
  have t3 := Tryz.underlying3
  have t76 := Tryz.underlying76
  have hq : (binOp .eql 76 (.slice (some ad) 0 c) (.slice none 0 0)).run Tryz.prog w = .ok (.bool false) w := eq_nil (some ad) 0 c w
  have hn : Tryz.f145.ntmps = 8 := rfl
  go_enter Tryz.func145, hn
  go_wp2
  go_ret
  exact ⟨rfl, rfl⟩
abbrev pClone (n : Nat) : Prop := n ≤ 2000000000
abbrev pCloneS (n : Nat) : Prop := 0 < n ∧ n ≤ 2000000000
@[reducible] def sClone : Spec := { pats := [.dat (.sl I64)], res := [{ own := some 3, t := .sl I64 }], pre := fun x => pClone (List.length (α := Int) x.1), f := fun x => (x.1, ()) }
@[reducible] def sCloneS : Spec := { sClone with pre := fun x => pCloneS (List.length (α := Int) x.1) }
theorem h145s : Ok 145 sCloneS := by
  refine mk (ctr := []) trivial (nt := 8) Tryz.func145 rfl rfl rfl rfl (by kernel_rfl) (by kernel_rfl) (fun _ => []) ?_
  rintro ⟨(xs : List Int), _⟩ ⟨(h0 : 0 < xs.length), (h : xs.length ≤ 2000000000)⟩
  repeat' (intro hzz; (try (rename Two => hq; cases hq)); (try dsimp only at hzz); (try simp only [resTy, argTy, eqD, inR, big, wantOf, zB] at hzz); (try (revert hzz; intro _)))
  all_goals try (rename Unit => hq; clear hq)
  all_goals try ((with_reducible refine Held.mk ?_); (with_reducible (first | refine Frz.mk ?_ | refine And.intro (Frz.mk ?_) ?_ | refine And.intro ?_ (Frz.mk ?_))); repeat' first | exact True.intro | (change _ = _; with_reducible rfl) | refine And.intro ?_ ?_ | (with_reducible refine Frz.mk ?_))
  all_goals try (refine Held.mk ?_; (try dsimp only at *); (try simp only [resTy, argTy, eqD, inR, big, wantOf, zB] at *))
  all_goals first | exact h0 | exact List.nil_append _ | (show ([] : List Int).length + xs.length ≤ 2147483648; simp; omega)
theorem post_same {OB : Nat → Obj → Prop} {w : World} : CPost OB w w [] := ⟨rfl, rfl, rfl, Nat.le_refl _, fun _ _ _ => rfl, fun _ h => by cases h⟩
theorem post_alloc {OB : Nat → Obj → Prop} {w : World} {o : Obj} : CPost OB w (w.alloc o) [] := by
  refine ⟨rfl, rfl, rfl, ?_, fun b hb _ => ?_, fun b hb => by cases hb⟩
  · show w.heap.size ≤ (w.heap.push o).size
    rw [Array.size_push]; exact Nat.le_succ _
  · show (w.heap.push o)[b]? = w.heap[b]?
    rw [Array.getElem?_push, if_neg (Nat.ne_of_lt hb)]
theorem h145 : Ok 145 sClone := by
  refine ⟨?_, h145s.2⟩
  rintro w M ⟨(xs : List Int), u⟩ vs bs hM hA (hp : xs.length ≤ 2000000000)
  by_cases h0 : 0 < xs.length
  · exact h145s.1 w M (xs, u) vs bs hM hA ⟨h0, hp⟩
  · have hx : xs = [] := List.length_eq_zero_iff.1 (by omega)
    subst hx
    obtain ⟨v, vs', rfl, ⟨l, hl, h2⟩, rfl, rfl⟩ := hA
    obtain ⟨a, cap, rfl, h3, h4, h5, h6⟩ := hl
    have hv : v = .slice a 0 cap := by
      rcases h2 with ⟨h, _⟩ | ⟨_, h⟩
      · cases h
      · simpa using h.symm
    subst hv
    cases a with
    | none =>
      have := (h5 rfl).2
      subst this
      refine (cl_nil w).mono ?_
      rintro e w' ⟨rfl, rfl⟩
      exact ⟨[.slice none 0 0], none, rfl, post_same, _, _, rfl, ⟨rfl, rfl⟩, .inl ⟨rfl, rfl, rfl⟩⟩
    | some ad =>
      refine (cl_emp ad cap w).mono ?_
      rintro e w' ⟨rfl, rfl⟩
      refine ⟨[.slice (some ⟨w.heap.size, 0, none⟩) 0 0], some w.heap.size, rfl, post_alloc, _, _, rfl, ⟨rfl, rfl⟩, .inr ⟨w.heap.size, 0, #[], rfl, rfl, Nat.le_refl _, ?_, ?_⟩⟩
      · show (w.heap.push _)[w.heap.size]? = _
        simp
      · exact ⟨rfl, Nat.le_refl _, Nat.zero_le _, fun i x h => by simp at h⟩
def tab {α : Type} (f : Nat → α) : Nat → List α
  | 0 => []
  | k + 1 => tab f k ++ [f k]
def sm (f : Nat → Int) : Nat → Int
  | 0 => 0
  | k + 1 => sm f k + f k
theorem tab_len {α : Type} (f : Nat → α) : ∀ k, (tab f k).length = k
  | 0 => rfl
  | k + 1 => by simp [tab, tab_len f k]
theorem tab_get {α : Type} (f : Nat → α) (d : α) : ∀ k i, i < k → (tab f k).getD i d = f i
  | 0, i, h => by omega
  | k + 1, i, h => by
    simp only [tab, List.getD_eq_getElem?_getD]
    by_cases hi : i < k
    · rw [List.getElem?_append_left (by rw [tab_len]; exact hi)]
      have := tab_get f d k i hi
      rwa [List.getD_eq_getElem?_getD] at this
    · have : i = k := by omega
      subst this
      rw [List.getElem?_append_right (by rw [tab_len]; omega), tab_len]
      simp
theorem tab_congr {α : Type} {f g : Nat → α} : ∀ k, (∀ i, i < k → f i = g i) → tab f k = tab g k
  | 0, _ => rfl
  | k + 1, h => by simp only [tab]; rw [tab_congr k (fun i hi => h i (by omega)), h k (by omega)]
theorem sm_congr {f g : Nat → Int} : ∀ k, (∀ i, i < k → f i = g i) → sm f k = sm g k
  | 0, _ => rfl
  | k + 1, h => by simp only [sm]; rw [sm_congr k (fun i hi => h i (by omega)), h k (by omega)]
theorem sm_le {f : Nat → Int} {B : Int} : ∀ k : Nat, (∀ i, i < k → -B ≤ f i ∧ f i ≤ B) → -(k * B) ≤ sm f k ∧ sm f k ≤ k * B
  | 0, _ => by simp [sm]
  | k + 1, h => by
    have ih := sm_le k (fun i hi => h i (by omega))
    have := h k (by omega)
    simp only [sm]
    have e : (((k + 1 : Nat) : Int) * B) = (k : Int) * B + B := by rw [Int.natCast_add, Int.add_mul]; simp
    rw [e]
    omega
theorem list_tab {α : Type} (d : α) : ∀ (xs : List α), xs = tab (fun i => xs.getD i d) xs.length := by
  intro xs
  apply List.ext_getElem?
  intro i
  by_cases hi : i < xs.length
  · have h1 := tab_get (fun i => xs.getD i d) d xs.length i hi
    rw [List.getD_eq_getElem?_getD] at h1
    have h2 : (tab (fun i => xs.getD i d) xs.length)[i]? = some ((tab (fun i => xs.getD i d) xs.length)[i]'(by rw [tab_len]; exact hi)) := List.getElem?_eq_getElem _
    rw [h2] at h1 ⊢
    simp only [Option.getD_some] at h1
    rw [h1]
    simp [List.getD, List.getElem?_eq_getElem hi]
  · rw [List.getElem?_eq_none (by omega), List.getElem?_eq_none (by rw [tab_len]; omega)]
theorem tab_mem {α : Type} {f : Nat → α} : ∀ {k : Nat} {x : α}, x ∈ tab f k → ∃ i, i < k ∧ x = f i
  | 0, x, h => by simp [tab] at h
  | k + 1, x, h => by
    simp only [tab, List.mem_append, List.mem_singleton] at h
    rcases h with h | h
    · obtain ⟨i, h1, h2⟩ := tab_mem h
      exact ⟨i, by omega, h2⟩
    · exact ⟨k, by omega, h⟩
abbrev vI (xs : List Int) (i : Nat) : Int := xs.getD i 0
def dotI (a b : List Int) : Int := sm (fun i => vI a i * vI b i) a.length
def sumI (a : List Int) : Int := sm (fun i => vI a i) a.length
abbrev pDot (a b : List Int) : Prop := a.length ≤ b.length ∧ a.length ≤ 9 ∧ ∀ i, i < a.length → -1000000000000000000 ≤ vI a i * vI b i ∧ vI a i * vI b i ≤ 1000000000000000000
abbrev pSum (a : List Int) : Prop := a.length ≤ 9 ∧ ∀ i, i < a.length → -1000000000000000000 ≤ vI a i ∧ vI a i ≤ 1000000000000000000
@[reducible] def sDot : Spec := { pats := [.dat (.sl I64), .dat (.sl I64)], res := [{ t := I64 }], pre := fun x => pDot x.1 x.2.1, f := fun x => (dotI x.1 x.2.1, ()) }
@[reducible] def sSum : Spec := { pats := [.dat (.sl I64)], res := [{ t := I64 }], pre := fun x => pSum x.1, f := fun x => (sumI x.1, ()) }
theorem sm_9 {f : Nat → Int} {k : Nat} (h : ∀ i, i < k → -1000000000000000000 ≤ f i ∧ f i ≤ 1000000000000000000) (hk : k ≤ 9) : -9000000000000000000 ≤ sm f k ∧ sm f k ≤ 9000000000000000000 := by
  have := sm_le (f := f) (B := 1000000000000000000) k h
  omega
def dotAnn (a b : List Int) : LoopAnn := { σ := Nat, pat := fun k => [sI 9 k, sI 5 (sm (fun i => vI a i * vI b i) k)], inv := fun k => k ≤ a.length, meas := fun k => a.length - k }
def sumAnn (a : List Int) : LoopAnn := { σ := Nat, pat := fun k => [sI 8 k, sI 3 (sm (fun i => vI a i) k)], inv := fun k => k ≤ a.length, meas := fun k => a.length - k }
theorem h105 : Ok 105 sDot := by
  refine mk (ctr := []) trivial (nt := 25) Tryz.func105 rfl rfl rfl rfl (by kernel_rfl) (by kernel_rfl) (fun x => [fun _ => dotAnn x.1 x.2.1]) ?_
  rintro ⟨(a : List Int), (b : List Int), _⟩ ⟨(h1 : a.length ≤ b.length), (h2 : a.length ≤ 9), (h3 : ∀ i, i < a.length → -1000000000000000000 ≤ vI a i * vI b i ∧ vI a i * vI b i ≤ 1000000000000000000)⟩
  repeat' (intro hzz; (try (rename Two => hq; cases hq)); (try dsimp only at hzz); (try simp only [resTy, argTy, eqD, inR, big, wantOf, zB] at hzz); (try simp only [resTy, argTy, eqD, inR, big, wantOf, zB, getD_i] at hzz); (try (revert hzz; intro _)))
  all_goals try (rename Unit => hq; clear hq)
  all_goals try ((with_reducible refine Held.mk ?_); (with_reducible (first | refine Frz.mk ?_ | refine And.intro (Frz.mk ?_) ?_ | refine And.intro ?_ (Frz.mk ?_))); repeat' first | exact True.intro | (change _ = _; with_reducible rfl) | refine And.intro ?_ ?_ | (with_reducible refine Frz.mk ?_))
  all_goals try (refine Held.mk ?_; (try dsimp only at *); (try simp only [resTy, argTy, eqD, inR, big, wantOf, zB] at *); (try simp only [resTy, argTy, eqD, inR, big, wantOf, zB, getD_i] at *))
  all_goals try omega
  ·
    refine GHeld.mk ?_
    refine Exists.intro 0 ?_
    refine And.intro (Leaf.mk ?_) ?_
    · repeat' first | exact True.intro | refine And.intro ?_ ?_
      all_goals try ((change _ = _ <;> try dsimp only) <;> try with_reducible rfl)
      all_goals try omega
      all_goals (rfl)
    exact Nat.zero_le _
  · rename_i k hk hg
    exact ⟨by have := (h3 k (by omega)).1; exact Int.le_trans (by decide) this, by have := (h3 k (by omega)).2; exact Int.le_trans this (by decide)⟩
  · rename_i k hk hg
    have := sm_9 (f := fun i => vI a i * vI b i) (k := k + 1) (fun i hi => h3 i (by omega)) (by omega)
    simp only [sm, vI] at this ⊢
    omega
  · rename_i k hk hg
    refine GHeld.mk ?_
    refine Exists.intro (k + 1) ?_
    refine And.intro (Leaf.mk ?_) ?_
    · repeat' first | exact True.intro | refine And.intro ?_ ?_
      all_goals try ((change _ = _ <;> try dsimp only) <;> try with_reducible rfl)
      all_goals try omega
      all_goals (rfl)
    exact ⟨by show k + 1 ≤ a.length; omega, by show a.length - (k + 1) < a.length - k; omega⟩
  · rename_i k hk hg
    rw [show k = a.length by omega]; rfl
theorem h124 : Ok 124 sSum := by
  refine mk (ctr := []) trivial (nt := 17) Tryz.func124 rfl rfl rfl rfl (by kernel_rfl) (by kernel_rfl) (fun x => [fun _ => sumAnn x.1]) ?_
  rintro ⟨(a : List Int), _⟩ ⟨(h2 : a.length ≤ 9), (h3 : ∀ i, i < a.length → -1000000000000000000 ≤ vI a i ∧ vI a i ≤ 1000000000000000000)⟩
  repeat' (intro hzz; (try (rename Two => hq; cases hq)); (try dsimp only at hzz); (try simp only [resTy, argTy, eqD, inR, big, wantOf, zB] at hzz); (try simp only [resTy, argTy, eqD, inR, big, wantOf, zB, getD_i] at hzz); (try (revert hzz; intro _)))
  all_goals try (rename Unit => hq; clear hq)
  all_goals try ((with_reducible refine Held.mk ?_); (with_reducible (first | refine Frz.mk ?_ | refine And.intro (Frz.mk ?_) ?_ | refine And.intro ?_ (Frz.mk ?_))); repeat' first | exact True.intro | (change _ = _; with_reducible rfl) | refine And.intro ?_ ?_ | (with_reducible refine Frz.mk ?_))
  all_goals try (refine Held.mk ?_; (try dsimp only at *); (try simp only [resTy, argTy, eqD, inR, big, wantOf, zB] at *); (try simp only [resTy, argTy, eqD, inR, big, wantOf, zB, getD_i] at *))
  all_goals try omega
  ·
    refine GHeld.mk ?_
    refine Exists.intro 0 ?_
    refine And.intro (Leaf.mk ?_) ?_
    · repeat' first | exact True.intro | refine And.intro ?_ ?_
      all_goals try ((change _ = _ <;> try dsimp only) <;> try with_reducible rfl)
      all_goals try omega
      all_goals (rfl)
    exact Nat.zero_le _
  · rename_i k hk hg
    have := sm_9 (f := fun i => vI a i) (k := k + 1) (fun i hi => h3 i (by omega)) (by omega)
    simp only [sm, vI] at this ⊢
    omega
  · rename_i k hk hg
    refine GHeld.mk ?_
    refine Exists.intro (k + 1) ?_
    refine And.intro (Leaf.mk ?_) ?_
    · repeat' first | exact True.intro | refine And.intro ?_ ?_
      all_goals try ((change _ = _ <;> try dsimp only) <;> try with_reducible rfl)
      all_goals try omega
      all_goals (rfl)
    exact ⟨by show k + 1 ≤ a.length; omega, by show a.length - (k + 1) < a.length - k; omega⟩
  · rename_i k hk hg
    rw [show k = a.length by omega]; rfl
def mx (xs : List Int) : Nat → Int
  | 0 => xs.getD 0 0
  | k + 1 => if xs.getD (k + 1) 0 > mx xs k then xs.getD (k + 1) 0 else mx xs k
def mn (xs : List Int) : Nat → Int
  | 0 => xs.getD 0 0
  | k + 1 => if xs.getD (k + 1) 0 < mn xs k then xs.getD (k + 1) 0 else mn xs k
abbrev pMx (n : Nat) : Prop := 0 < n ∧ pLen n
@[reducible] def sMax : Spec := { pats := [.dat (.sl I64)], res := [{ t := I64 }], pre := fun x => pMx (List.length (α := Int) x.1), f := fun x => (mx x.1 (List.length (α := Int) x.1 - 1), ()) }
@[reducible] def sMin : Spec := { sMax with f := fun x => (mn x.1 (List.length (α := Int) x.1 - 1), ()) }
theorem h106 : Ok 106 sMax := by
  refine mk (ctr := []) trivial (nt := 25) Tryz.func106 rfl rfl rfl rfl (by kernel_rfl) (by kernel_rfl) (fun x => [fun _ => { σ := Nat, pat := fun k => [sI 3 (mx x.1 k), sI 4 (k + 1 : Int)], inv := fun k => k + 1 ≤ List.length (α := Int) x.1, meas := fun k => List.length (α := Int) x.1 - k }]) ?_
  rintro ⟨(xs : List Int), _⟩ ⟨(h1 : 0 < xs.length), (h2 : pLen xs.length)⟩
  have := h2.out
  repeat' (intro hzz; (try (rename Two => hq; cases hq)); (try dsimp only at hzz); (try simp only [resTy, argTy, eqD, inR, big, wantOf, zB] at hzz); (try simp only [resTy, argTy, eqD, inR, big, wantOf, zB, getD_i] at hzz); (try (first | contradiction | (exfalso; omega))); (try (revert hzz; intro _)))
  all_goals try (rename Unit => hq; clear hq)
  all_goals try ((with_reducible refine Held.mk ?_); (with_reducible (first | refine Frz.mk ?_ | refine And.intro (Frz.mk ?_) ?_ | refine And.intro ?_ (Frz.mk ?_))); repeat' first | exact True.intro | (change _ = _; with_reducible rfl) | refine And.intro ?_ ?_ | (with_reducible refine Frz.mk ?_))
  all_goals try (refine Held.mk ?_; (try dsimp only at *); (try simp only [resTy, argTy, eqD, inR, big, wantOf, zB] at *); (try simp only [resTy, argTy, eqD, inR, big, wantOf, zB, getD_i] at *))
  all_goals try omega
  · 
    refine GHeld.mk ?_
    refine Exists.intro 0 ?_
    refine And.intro (Leaf.mk ?_) ?_
    · repeat' first | exact True.intro | refine And.intro ?_ ?_
      all_goals try ((change _ = _ <;> try dsimp only) <;> try with_reducible rfl)
      all_goals try omega
      all_goals (rfl)
    exact h1
  · rename_i k hk hg
    refine GHeld.mk ?_
    refine Exists.intro (k + 1) ?_
    refine And.intro (Leaf.mk ?_) ?_
    · repeat' first | exact True.intro | refine And.intro ?_ ?_
      all_goals try ((change _ = _ <;> try dsimp only) <;> try with_reducible rfl)
      all_goals try omega
      all_goals (rfl)
    exact ⟨by show k + 1 + 1 ≤ xs.length; omega, by show xs.length - (k + 1) < xs.length - k; omega⟩
  · rename_i k hk hg
    rw [show xs.length - 1 = k from by omega]
theorem h108 : Ok 108 sMin := by
  refine mk (ctr := []) trivial (nt := 25) Tryz.func108 rfl rfl rfl rfl (by kernel_rfl) (by kernel_rfl) (fun x => [fun _ => { σ := Nat, pat := fun k => [sI 3 (mn x.1 k), sI 4 (k + 1 : Int)], inv := fun k => k + 1 ≤ List.length (α := Int) x.1, meas := fun k => List.length (α := Int) x.1 - k }]) ?_
  rintro ⟨(xs : List Int), _⟩ ⟨(h1 : 0 < xs.length), (h2 : pLen xs.length)⟩
  have := h2.out
  repeat' (intro hzz; (try (rename Two => hq; cases hq)); (try dsimp only at hzz); (try simp only [resTy, argTy, eqD, inR, big, wantOf, zB] at hzz); (try simp only [resTy, argTy, eqD, inR, big, wantOf, zB, getD_i] at hzz); (try (first | contradiction | (exfalso; omega))); (try (revert hzz; intro _)))
  all_goals try (rename Unit => hq; clear hq)
  all_goals try ((with_reducible refine Held.mk ?_); (with_reducible (first | refine Frz.mk ?_ | refine And.intro (Frz.mk ?_) ?_ | refine And.intro ?_ (Frz.mk ?_))); repeat' first | exact True.intro | (change _ = _; with_reducible rfl) | refine And.intro ?_ ?_ | (with_reducible refine Frz.mk ?_))
  all_goals try (refine Held.mk ?_; (try dsimp only at *); (try simp only [resTy, argTy, eqD, inR, big, wantOf, zB] at *); (try simp only [resTy, argTy, eqD, inR, big, wantOf, zB, getD_i] at *))
  all_goals try omega
  · 
    refine GHeld.mk ?_
    refine Exists.intro 0 ?_
    refine And.intro (Leaf.mk ?_) ?_
    · repeat' first | exact True.intro | refine And.intro ?_ ?_
      all_goals try ((change _ = _ <;> try dsimp only) <;> try with_reducible rfl)
      all_goals try omega
      all_goals (rfl)
    exact h1
  · rename_i k hk hg
    refine GHeld.mk ?_
    refine Exists.intro (k + 1) ?_
    refine And.intro (Leaf.mk ?_) ?_
    · repeat' first | exact True.intro | refine And.intro ?_ ?_
      all_goals try ((change _ = _ <;> try dsimp only) <;> try with_reducible rfl)
      all_goals try omega
      all_goals (rfl)
    exact ⟨by show k + 1 + 1 ≤ xs.length; omega, by show xs.length - (k + 1) < xs.length - k; omega⟩
  · rename_i k hk hg
    rw [show xs.length - 1 = k from by omega]
def gf (xs : List Int) : Nat → Nat
  | 0 => 0
  | k + 1 => Nat.gcd (gf xs k) (vI xs k).natAbs
abbrev pDiv (xs : List Int) : Prop := pLen xs.length ∧ ∀ i, i < xs.length → (vI xs i).natAbs ≤ 9000000000000000000
@[reducible] def sDiv : Spec := { pats := [.dat (.sl I64)], res := [{ t := I64 }], pre := fun x => pDiv x.1, f := fun x => ((gf x.1 (List.length (α := Int) x.1) : Int), ()) }
def divInn (st : St) : LoopAnn := withI 3 st fun g => withI 5 st fun n => { σ := Int × Int, pat := fun s => [sI 3 s.1, sI 5 s.2], inv := fun s => Nat.gcd s.1.natAbs s.2.natAbs = Nat.gcd g.natAbs n.natAbs ∧ s.1.natAbs ≤ 9000000000000000000 ∧ s.2.natAbs ≤ 9000000000000000000, meas := fun s => s.2.natAbs }
def divAnn (xs : List Int) : LoopAnn := { σ := Nat × Int, pat := fun s => [sI 8 s.1, sI 3 s.2], inv := fun s => s.1 ≤ xs.length ∧ s.2.natAbs = gf xs s.1 ∧ s.2.natAbs ≤ 9000000000000000000, meas := fun s => xs.length - s.1 }
theorem h148 : Ok 148 sDiv := by
  refine mk (ctr := []) trivial (nt := 23) Tryz.func148 rfl rfl rfl rfl (by kernel_rfl) (by kernel_rfl) (fun x => [fun _ => divAnn x.1, divInn]) ?_
  rintro ⟨(xs : List Int), _⟩ ⟨(h1 : pLen xs.length), (h2 : ∀ i, i < xs.length → (vI xs i).natAbs ≤ 9000000000000000000)⟩
  have := h1.out
  repeat' (intro hzz; (try (rename Two => hq; cases hq)); (try dsimp only at hzz); (try simp only [resTy, argTy, eqD, inR, big, wantOf, zB] at hzz); (try simp only [resTy, argTy, eqD, inR, big, wantOf, zB, getD_i] at hzz); (try (revert hzz; intro _)))
  all_goals try (rename Unit => hq; clear hq)
  all_goals try ((with_reducible refine Held.mk ?_); (with_reducible (first | refine Frz.mk ?_ | refine And.intro (Frz.mk ?_) ?_ | refine And.intro ?_ (Frz.mk ?_))); repeat' first | exact True.intro | (change _ = _; with_reducible rfl) | refine And.intro ?_ ?_ | (with_reducible refine Frz.mk ?_))
  all_goals try (refine Held.mk ?_; (try dsimp only at *); (try simp only [resTy, argTy, eqD, inR, big, wantOf, zB] at *); (try simp only [resTy, argTy, eqD, inR, big, wantOf, zB, getD_i] at *))
  all_goals try omega
  ·
    refine GHeld.mk ?_
    refine Exists.intro ((0 : Nat), (0 : Int)) ?_
    refine And.intro (Leaf.mk ?_) ?_
    · repeat' first | exact True.intro | refine And.intro ?_ ?_
      all_goals try ((change _ = _ <;> try dsimp only) <;> try with_reducible rfl)
      all_goals try omega
      all_goals (rfl)
    exact ⟨Nat.zero_le _, rfl, Nat.zero_le _⟩
  · rename_i s hs hg
    refine GHeld.mk ?_
    refine Exists.intro (s.2, xs.getD s.1 0) ?_
    refine And.intro (Leaf.mk ?_) ?_
    · repeat' first | exact True.intro | refine And.intro ?_ ?_
      all_goals try ((change _ = _ <;> try dsimp only) <;> try with_reducible rfl)
      all_goals try omega
      all_goals (rfl)
    exact ⟨rfl, hs.2.2, h2 s.1 (by omega)⟩
  · rename_i s hs hg t ht hn
    refine GHeld.mk ?_
    refine Exists.intro (t.2, t.1.tmod t.2) ?_
    refine And.intro (Leaf.mk ?_) ?_
    · repeat' first | exact True.intro | refine And.intro ?_ ?_
      all_goals try ((change _ = _ <;> try dsimp only) <;> try with_reducible rfl)
      all_goals try omega
      all_goals (rfl)
    refine ⟨⟨?_, ht.2.2, ?_⟩, ?_⟩
    · refine Eq.trans ?_ ht.1
      show Nat.gcd t.2.natAbs (t.1.tmod t.2).natAbs = _
      rw [Int.natAbs_tmod, Nat.gcd_comm, ← Nat.gcd_rec, Nat.gcd_comm]
    · show (t.1.tmod t.2).natAbs ≤ _
      rw [Int.natAbs_tmod]
      exact Nat.le_trans (Nat.mod_le _ _) ht.2.1
    · show (t.1.tmod t.2).natAbs < t.2.natAbs
      rw [Int.natAbs_tmod]
      exact Nat.mod_lt _ (Nat.pos_of_ne_zero (fun h => hn (Int.natAbs_eq_zero.1 h)))
  · rename_i s hs hg t ht hn
    refine GHeld.mk ?_
    refine Exists.intro (s.1 + 1, t.1) ?_
    refine And.intro (Leaf.mk ?_) ?_
    · repeat' first | exact True.intro | refine And.intro ?_ ?_
      all_goals try ((change _ = _ <;> try dsimp only) <;> try with_reducible rfl)
      all_goals try omega
      all_goals (rfl)
    have e := ht.1
    have hn : t.2 = 0 := hn
    rw [hn] at e
    have e : t.1.natAbs = Nat.gcd s.2.natAbs (xs.getD s.1 0).natAbs := by simpa using e
    refine ⟨⟨?_, ?_, ht.2.1⟩, ?_⟩
    · show s.1 + 1 ≤ xs.length; omega
    · show t.1.natAbs = gf xs (s.1 + 1)
      rw [e, hs.2.1]; rfl
    · show xs.length - (s.1 + 1) < xs.length - s.1; omega
  · rename_i s hs hg
    have e : s.1 = xs.length := by have := hs.1; omega
    have e2 := hs.2.1
    rw [e] at e2
    rw [← e2]
    simp only [cond_true]
    split <;> omega
end Go.Eng.Ar

namespace Go.Eng.Ar
open Go.Eng Go.Proofs
set_option linter.all false
set_option maxRecDepth 100000
set_option maxHeartbeats 8000000
abbrev sOwn (t k el : Nat) (xs : List Int) : St := [.slot t (.one (.o k xs.length)), .row k el I64 xs]
abbrev sOwn2 (t k el : Nat) (xs : List (List Int)) : St := [.slot t (.one (.o k xs.length)), .row k el (.sl I64) xs]
abbrev MatT : Ty := .sl (.sl I64)
abbrev pUnit (n at' : Int) : Prop := 0 ≤ n ∧ n ≤ 1000 ∧ 0 ≤ at' ∧ at' < n
def unitL (n at' v : Int) : List Int := (repl n (0 : Int)).set at'.toNat v
@[reducible] def sUnit : Spec := { pats := [.dat I64, .dat I64, .dat I64], res := [{ own := some 3, t := .sl I64 }], pre := fun x => pUnit x.1 x.2.1, f := fun x => (unitL x.1 x.2.1 x.2.2.1, ()) }
theorem h162 : Ok 162 sUnit := by
  refine mk (ctr := []) trivial (nt := 15) Tryz.func162 rfl rfl rfl rfl (by kernel_rfl) (by kernel_rfl) (fun _ => []) ?_
  rintro ⟨(n : Int), (k : Int), (v : Int), _⟩ ⟨h1, h2, h3, h4⟩
  have e : ((repl n (0 : Int)).length : Int) = n := by rw [repl_len]; omega
  repeat' (intro hzz; (try (rename Two => hq; cases hq)); (try dsimp only at hzz); (try simp only [resTy, argTy, eqD, inR, big, wantOf, zB] at hzz); (try (revert hzz; intro _)))
  all_goals try (rename Unit => hq; clear hq)
  all_goals try ((with_reducible refine Held.mk ?_); (with_reducible (first | refine Frz.mk ?_ | refine And.intro (Frz.mk ?_) ?_ | refine And.intro ?_ (Frz.mk ?_))); repeat' first | exact True.intro | (change _ = _; with_reducible rfl) | refine And.intro ?_ ?_ | (with_reducible refine Frz.mk ?_))
  all_goals try (refine Held.mk ?_; (try dsimp only at *); (try simp only [resTy, argTy, eqD, inR, big, wantOf, zB] at *))
  all_goals first | (exact ⟨h1, Int.le_trans h2 (by decide)⟩) | (rw [e]; exact ⟨h3, h4⟩) | (exact ⟨by rw [List.length_set], rfl⟩) | trace_state
theorem gf_pos {xs : List Int} {k : Nat} (h : vI xs k ≠ 0) : (gf xs (k + 1) : Int) ≠ 0 := by
  simp only [gf]
  intro e
  have e : Nat.gcd (gf xs k) (vI xs k).natAbs = 0 := by omega
  exact h (Int.natAbs_eq_zero.1 (Nat.gcd_eq_zero_iff.1 e).2)
theorem td_in {n b : Int} (h1 : n.natAbs ≤ 9000000000000000000) : -9223372036854775808 ≤ n.tdiv b ∧ n.tdiv b ≤ 9223372036854775807 := by
  have h3 := Int.natAbs_tdiv_le_natAbs n b
  omega
def gcd2 (a b : Int) : Int := ((Nat.gcd a.natAbs b.natAbs : Nat) : Int)
abbrev pLow (a b : Int) : Prop := a.natAbs ≤ 9000000000000000000 ∧ b.natAbs ≤ 9000000000000000000 ∧ b ≠ 0
@[reducible] def sLow : Spec := { pats := [.dat I64, .dat I64], res := [{ t := PairT }], pre := fun x => pLow x.1 x.2.1, f := fun x => ((Int.tdiv x.1 (gcd2 x.1 x.2.1), Int.tdiv x.2.1 (gcd2 x.1 x.2.1), ()), ()) }
theorem h107 : Ok 107 sLow := by
  refine mk (ctr := [(148, sDiv)]) ⟨h148, trivial⟩ (nt := 17) Tryz.func107 rfl rfl rfl rfl (by kernel_rfl) (by kernel_rfl) (fun _ => []) ?_
  rintro ⟨(a : Int), (b : Int), _⟩ ⟨h1, h2, h3⟩
  have e : (gf [a, b] [a, b].length : Int) = gcd2 a b := by
    show ((Nat.gcd (Nat.gcd 0 a.natAbs) b.natAbs : Nat) : Int) = _
    rw [Nat.gcd_zero_left]; rfl
  have e2 : gcd2 a b ≠ 0 := by rw [← e]; exact gf_pos (xs := [a, b]) (k := 1) h3
  have hd : pDiv [a, b] := ⟨by show ((2 : Nat) : Int) ≤ 4611686018427387904; decide, fun i hi => by
    have : i = 0 ∨ i = 1 := by simp at hi; omega
    rcases this with rfl | rfl
    · exact h1
    · exact h2⟩
  repeat' (intro hzz; (try (rename Two => hq; cases hq)); (try dsimp only at hzz); (try simp only [resTy, argTy, eqD, inR, big, wantOf, zB] at hzz); (try simp only [resTy, argTy, eqD, inR, big, wantOf, zB, e] at hzz); (try (revert hzz; intro _)))
  all_goals try (rename Unit => hq; clear hq)
  all_goals try ((with_reducible refine Held.mk ?_); (with_reducible (first | refine Frz.mk ?_ | refine And.intro (Frz.mk ?_) ?_ | refine And.intro ?_ (Frz.mk ?_))); repeat' first | exact True.intro | (change _ = _; with_reducible rfl) | refine And.intro ?_ ?_ | (with_reducible refine Frz.mk ?_))
  all_goals try (refine Held.mk ?_; (try dsimp only at *); (try simp only [resTy, argTy, eqD, inR, big, wantOf, zB] at *); (try simp only [resTy, argTy, eqD, inR, big, wantOf, zB, e] at *))
  all_goals first | exact hd | exact ⟨e2, td_in h1⟩ | exact ⟨e2, td_in h2⟩ | exact ⟨rfl, rfl⟩ | trace_state
def redG (l : List Int) (d : Int) : Int := (gf (l ++ [d]) (l ++ [d]).length : Int)
def redL (l : List Int) (d : Int) : List Int × Int := (tab (fun i => Int.tdiv (vI l i) (redG l d)) l.length, Int.tdiv d (redG l d))
abbrev pRed (l : List Int) (d : Int) : Prop := l.length ≤ 1000 ∧ (∀ i, i < l.length → (vI l i).natAbs ≤ 9000000000000000000) ∧ d.natAbs ≤ 9000000000000000000 ∧ d ≠ 0
@[reducible] def sRed : Spec := { pats := [.dat (.sl I64), .dat I64], res := [{ own := some 3, t := .sl I64 }, { t := I64 }], pre := fun x => pRed x.1 x.2.1, f := fun x => ((redL x.1 x.2.1).1, (redL x.1 x.2.1).2, ()) }
def redAnn (l : List Int) (d : Int) : LoopAnn := { σ := Nat, pat := fun k => sI 18 k :: sOwn 7 60007 3 (tab (fun i => Int.tdiv (vI l i) (redG l d)) k), inv := fun k => k ≤ l.length, meas := fun k => l.length - k }
end Go.Eng.Ar

namespace Go.Eng.Ar
open Go.Eng Go.Proofs
set_option linter.all false
set_option maxRecDepth 100000
set_option maxHeartbeats 8000000
def findI (p : Int → Bool) : List Int → Nat → Int
  | [], _ => -1
  | x :: r, i => if p x = true then i else findI p r (i + 1)
theorem findI_step {p : Int → Bool} {xs : List Int} {i : Nat} (h : i < xs.length) : findI p (xs.drop i) i = if p (xs.getD i 0) = true then (i : Int) else findI p (xs.drop (i + 1)) (i + 1) := by
  rw [drop_get h]; rfl
theorem findI_any (p : Int → Bool) : ∀ (xs : List Int) (i : Nat), decide (findI p xs i ≥ 0) = xs.any p
  | [], i => by simp [findI]
  | x :: r, i => by
    simp only [findI, List.any_cons]
    by_cases h : p x = true
    · have h2 : (if p x = true then (i : Int) else findI p r (i + 1)) = i := if_pos h
      simp only [h, if_true, Bool.true_or, decide_eq_true_eq]
      omega
    · have h' : p x = false := by simpa using h
      simp only [h', Bool.false_eq_true, if_false, Bool.false_or]
      exact findI_any p r (i + 1)
abbrev clM : Ty := .clo 147 (.cons (.ptr I64) .nil)
abbrev outM (m n : Int) : Bool := !fWithin n 0 m
@[reducible] def sLitM : Spec := { pats := [.dat I64, .dat (.ptr I64)], res := [{ t := .bool }], pre := fun _ => True, f := fun x => (outM x.2.1 x.1, ()) }
theorem h147 : Ok 147 sLitM := by
  refine mk (ctr := [(88, sWithin)]) ⟨h88, trivial⟩ (nt := 8) Tryz.func147 rfl rfl rfl rfl (by kernel_rfl) (by kernel_rfl) (fun _ => []) ?_
  rintro ⟨(n : Int), (m : Int), _⟩ _
  repeat' (intro hzz; (try (rename Two => hq; cases hq)); (try dsimp only at hzz); (try simp only [resTy, argTy, eqD, inR, big, wantOf, zB] at hzz); (try (revert hzz; intro _)))
  all_goals try (rename Unit => hq; clear hq)
  all_goals try ((with_reducible refine Held.mk ?_); (with_reducible (first | refine Frz.mk ?_ | refine And.intro (Frz.mk ?_) ?_ | refine And.intro ?_ (Frz.mk ?_))); repeat' first | exact True.intro | (change _ = _; with_reducible rfl) | refine And.intro ?_ ?_ | (with_reducible refine Frz.mk ?_))
  all_goals try (refine Held.mk ?_; (try dsimp only at *); (try simp only [resTy, argTy, eqD, inR, big, wantOf, zB] at *))
@[reducible] def sIdxM : Spec := { pats := [.dat (.sl I64), .dat clM], res := [{ t := I64 }], pre := fun x => pLen (List.length (α := Int) x.1), f := fun x => (findI (outM x.2.1.1) x.1 0, ()) }
theorem h165 : Ok 165 sIdxM := by
  refine mk (ctr := [(147, sLitM)]) ⟨h147, trivial⟩ (nt := 19) Tryz.func165 rfl rfl rfl rfl (by kernel_rfl) (by kernel_rfl) (fun x => [fun _ => { σ := Nat, pat := fun i => [sI 8 i], inv := fun i => i ≤ List.length (α := Int) x.1 ∧ findI (outM x.2.1.1) (List.drop (α := Int) i x.1) i = findI (outM x.2.1.1) x.1 0, meas := fun i => List.length (α := Int) x.1 - i }]) ?_
  rintro ⟨(xs : List Int), ⟨(m : Int), _⟩, _⟩ (hp : pLen xs.length)
  have := hp.out
  repeat' (intro hzz; (try (rename Two => hq; cases hq)); (try dsimp only at hzz); (try simp only [resTy, argTy, eqD, inR, big, wantOf, zB] at hzz); (try simp only [resTy, argTy, eqD, inR, big, wantOf, zB, getD_i] at hzz); (try (first | contradiction | (exfalso; omega))); (try (revert hzz; intro _)))
  all_goals try (rename Unit => hq; clear hq)
  all_goals try ((with_reducible refine Held.mk ?_); (with_reducible (first | refine Frz.mk ?_ | refine And.intro (Frz.mk ?_) ?_ | refine And.intro ?_ (Frz.mk ?_))); repeat' first | exact True.intro | (change _ = _; with_reducible rfl) | refine And.intro ?_ ?_ | (with_reducible refine Frz.mk ?_))
  all_goals try (refine Held.mk ?_; (try dsimp only at *); (try simp only [resTy, argTy, eqD, inR, big, wantOf, zB] at *); (try simp only [resTy, argTy, eqD, inR, big, wantOf, zB, getD_i] at *))
  all_goals try omega
  · 
    refine GHeld.mk ?_
    refine Exists.intro 0 ?_
    refine And.intro (Leaf.mk ?_) ?_
    · repeat' first | exact True.intro | refine And.intro ?_ ?_
      all_goals try ((change _ = _ <;> try dsimp only) <;> try with_reducible rfl)
      all_goals try omega
    exact ⟨Nat.zero_le _, rfl⟩
  · rename_i i hi hg h
    have h1 := findI_step (p := outM m) (xs := xs) (i := i) (by omega)
    have h2 : outM m (xs.getD i 0) = true := by
      have h' : fWithin (xs.getD i 0) 0 m = false := decide_eq_false h
      simp only [outM, h', Bool.not_false]
    rw [if_pos h2] at h1
    exact h1.symm.trans hi.2
  · rename_i i hi hg h
    have h1 := findI_step (p := outM m) (xs := xs) (i := i) (by omega)
    have h2 : ¬ outM m (xs.getD i 0) = true := by
      have h' : fWithin (xs.getD i 0) 0 m = true := decide_eq_true h
      simp only [outM, h', Bool.not_true]; decide
    rw [if_neg h2] at h1
    refine GHeld.mk ?_
    refine Exists.intro (i + 1) ?_
    refine And.intro (Leaf.mk ?_) ?_
    · repeat' first | exact True.intro | refine And.intro ?_ ?_
      all_goals try ((change _ = _ <;> try dsimp only) <;> try with_reducible rfl)
      all_goals try omega
    exact ⟨⟨by show i + 1 ≤ xs.length; omega, h1.symm.trans hi.2⟩, by show xs.length - (i + 1) < xs.length - i; omega⟩
  · rename_i i hi hg
    have h1 := hi.2
    rw [List.drop_eq_nil_of_le (by omega)] at h1
    exact h1
@[reducible] def sContM : Spec := { pats := [.dat (.sl I64), .dat clM], res := [{ t := .bool }], pre := fun x => pLen (List.length (α := Int) x.1), f := fun x => (List.any (α := Int) x.1 (outM x.2.1.1), ()) }
theorem h146 : Ok 146 sContM := by
  refine mk (ctr := [(165, sIdxM)]) ⟨h165, trivial⟩ (nt := 9) Tryz.func146 rfl rfl rfl rfl (by kernel_rfl) (by kernel_rfl) (fun _ => []) ?_
  rintro ⟨(xs : List Int), ⟨(m : Int), _⟩, _⟩ (hp : pLen xs.length)
  repeat' (intro hzz; (try (rename Two => hq; cases hq)); (try dsimp only at hzz); (try simp only [resTy, argTy, eqD, inR, big, wantOf, zB] at hzz); (try (revert hzz; intro _)))
  all_goals try (rename Unit => hq; clear hq)
  all_goals try ((with_reducible refine Held.mk ?_); (with_reducible (first | refine Frz.mk ?_ | refine And.intro (Frz.mk ?_) ?_ | refine And.intro ?_ (Frz.mk ?_))); repeat' first | exact True.intro | (change _ = _; with_reducible rfl) | refine And.intro ?_ ?_ | (with_reducible refine Frz.mk ?_))
  all_goals try (refine Held.mk ?_; (try dsimp only at *); (try simp only [resTy, argTy, eqD, inR, big, wantOf, zB] at *))
  · exact hp
  · exact findI_any _ _ _
def allE (l : List Int) (m : Int) : Int := if l.any (outM m) = true then 2 else 0
@[reducible] def xCM : Xt := { clos := [(147, [I64])] }
theorem xCM_ok : Its xCM.its := True.intro
@[reducible] def sAllE : Spec := { pats := [.dat (.sl I64), .dat I64], res := [{ t := I64 }], pre := fun x => pLen (List.length (α := Int) x.1), f := fun x => (allE x.1 x.2.1, ()) }
theorem h104 : Ok 104 sAllE := by
  refine mkX (X := xCM) (hX := xCM_ok) (ctr := [(146, sContM), (85, sUnless)]) ⟨h146, h85, trivial⟩ (nt := 10) Tryz.func104 rfl rfl rfl rfl (by kernel_rfl) (by kernel_rfl) (fun _ => []) ?_
  rintro ⟨(xs : List Int), (m : Int), _⟩ (hp : pLen xs.length)
  repeat' (intro hzz; (try (rename Two => hq; cases hq)); (try dsimp only at hzz); (try simp only [resTy, argTy, eqD, inR, big, wantOf, zB] at hzz); (try (revert hzz; intro _)))
  all_goals try (rename Unit => hq; clear hq)
  all_goals try ((with_reducible refine Held.mk ?_); (with_reducible (first | refine Frz.mk ?_ | refine And.intro (Frz.mk ?_) ?_ | refine And.intro ?_ (Frz.mk ?_))); repeat' first | exact True.intro | (change _ = _; with_reducible rfl) | refine And.intro ?_ ?_ | (with_reducible refine Frz.mk ?_))
  all_goals try (refine Held.mk ?_; (try dsimp only at *); (try simp only [resTy, argTy, eqD, inR, big, wantOf, zB] at *))
  · exact hp
  · unfold allE
    cases xs.any (outM m) <;> rfl
theorem allE_ok {l : List Int} {m : Int} (h : allE l m = 0) : ∀ i, i < l.length → 0 ≤ vI l i ∧ vI l i ≤ m := by
  unfold allE at h
  split at h
  · cases h
  · rename_i hn
    intro i hi
    have h1 : l.any (outM m) = false := by simpa using hn
    have h2 := List.any_eq_false.1 h1 (vI l i) (by
      have : vI l i = l[i] := by simp [vI, List.getD, List.getElem?_eq_getElem hi]
      rw [this]; exact List.getElem_mem hi)
    simp only [outM, Bool.not_eq_true', Bool.not_eq_false] at h2
    exact of_decide_eq_true (by simpa using h2)
abbrev ncol (t : List (List Int)) : Nat := (t.getD 0 []).length
abbrev rowN (m : List (List Int)) (i : Nat) : List Int := m.getD i []
def chkRows (n0 : Nat) : List (List Int) → Int
  | [] => 0
  | r :: t => if r.length = n0 then (if allE r 100 = 0 then chkRows n0 t else allE r 100) else 10
def chkT (t : List (List Int)) (cap : Int) : Int :=
  if t.length = 0 then 10 else if 4 < t.length then 8 else if ncol t = 0 then 10 else if 3 < ncol t then 8 else if chkRows (ncol t) t = 0 then (if 0 ≤ cap ∧ cap ≤ 1000 then 0 else 2) else chkRows (ncol t) t
theorem drop_getL {xs : List (List Int)} {i : Nat} (h : i < xs.length) : xs.drop i = xs.getD i [] :: xs.drop (i + 1) := by
  rw [List.drop_eq_getElem_cons h]
  simp [List.getD, List.getElem?_eq_getElem h]
theorem chkR_step {n0 : Nat} {t : List (List Int)} {i : Nat} (h : i < t.length) : chkRows n0 (t.drop i) = if (t.getD i []).length = n0 then (if allE (t.getD i []) 100 = 0 then chkRows n0 (t.drop (i + 1)) else allE (t.getD i []) 100) else 10 := by
  rw [drop_getL h]; rfl
theorem getD_l (xs : List (List Int)) (i : Nat) : List.getD xs ((i : Int)).toNat (Ty.dflt (.sl I64)) = xs.getD i [] := rfl
theorem getD_0 (xs : List (List Int)) : List.getD xs (Int.toNat 0) (Ty.dflt (.sl I64)) = xs.getD 0 [] := rfl
@[reducible] def sTask : Spec := { pats := [.dat TaskT], res := [{ t := I64 }], pre := fun _ => True, f := fun x => (chkT x.1.1 x.1.2.1, ()) }
def chkTAnn (t : List (List Int)) : LoopAnn := { σ := Nat, pat := fun k => [sI 33 k], inv := fun k => k ≤ t.length ∧ chkRows (ncol t) (t.drop k) = chkRows (ncol t) t, meas := fun k => t.length - k }
theorem h65 : Ok 65 sTask := by
  refine mk (ctr := [(88, sWithin), (85, sUnless), (104, sAllE)]) ⟨h88, h85, h104, trivial⟩ (nt := 55) Tryz.func65 rfl rfl rfl rfl (by kernel_rfl) (by kernel_rfl) (fun x => [fun _ => chkTAnn x.1.1]) ?_
  rintro ⟨⟨(t : List (List Int)), (cap : Int), _⟩, _⟩ _
  repeat' (intro hzz; (try (rename Two => hq; cases hq)); (try dsimp only at hzz); (try simp only [resTy, argTy, eqD, inR, big, wantOf, zB] at hzz); (try simp only [resTy, argTy, eqD, inR, big, wantOf, zB, getD_l, getD_0, fWithin] at hzz); (try (revert hzz; intro _)))
  all_goals try (rename Unit => hq; clear hq)
  all_goals try ((with_reducible refine Held.mk ?_); (with_reducible (first | refine Frz.mk ?_ | refine And.intro (Frz.mk ?_) ?_ | refine And.intro ?_ (Frz.mk ?_))); repeat' first | exact True.intro | (change _ = _; with_reducible rfl) | refine And.intro ?_ ?_ | (with_reducible refine Frz.mk ?_))
  all_goals try (refine Held.mk ?_; (try dsimp only at *); (try simp only [resTy, argTy, eqD, inR, big, wantOf, zB] at *); (try simp only [resTy, argTy, eqD, inR, big, wantOf, zB, getD_l, getD_0, fWithin] at *))
  · rename_i h
    unfold chkT; rw [if_pos (by omega)]
  · rename_i h1 h
    unfold chkT; rw [if_neg (by omega), if_pos (by omega)]
  · omega
  · rename_i h1 h2 h
    unfold chkT; rw [if_neg (by omega), if_neg (by omega), if_pos (show (t.getD 0 []).length = 0 by omega)]
  · omega
  · rename_i h1 h2 h3 h
    unfold chkT; rw [if_neg (by omega), if_neg (by omega), if_neg (show ¬ (t.getD 0 []).length = 0 by omega), if_pos (show 3 < (t.getD 0 []).length by omega)]
  · rename_i h1 h2 h3 h
    refine GHeld.mk ?_
    refine Exists.intro (0 : Nat) ?_
    refine And.intro (Leaf.mk ?_) ?_
    · repeat' first | exact True.intro | refine And.intro ?_ ?_
      all_goals try ((change _ = _ <;> try dsimp only) <;> try with_reducible rfl)
      all_goals try omega
      all_goals (rfl)
    exact ⟨Nat.zero_le _, rfl⟩
  · rename_i h1 h2 h3 h4 k hk h; omega
  · omega
  · rename_i h1 h2 h3 h4 k hk hg h
    have e := chkR_step (n0 := ncol t) (show k < t.length by omega)
    rw [if_neg (show ¬ (t.getD k []).length = (t.getD 0 []).length by omega), hk.2] at e
    unfold chkT; rw [if_neg (by omega), if_neg (by omega), if_neg (show ¬ (t.getD 0 []).length = 0 by omega), if_neg (show ¬ 3 < (t.getD 0 []).length by omega), e, if_neg (by decide)]
  · rename_i h1 h2 h3 h4 k hk hg h
    show ((t.getD k []).length : Int) ≤ 4611686018427387904
    omega
  · rename_i h1 h2 h3 h4 k hk hg h5 h
    have e := chkR_step (n0 := ncol t) (show k < t.length by omega)
    rw [if_pos (show (t.getD k []).length = (t.getD 0 []).length by omega), if_neg h, hk.2] at e
    unfold chkT; rw [if_neg (by omega), if_neg (by omega), if_neg (show ¬ (t.getD 0 []).length = 0 by omega), if_neg (show ¬ 3 < (t.getD 0 []).length by omega), e, if_neg h]
  · omega
  · rename_i h1 h2 h3 h4 k hk hg h5 h
    have e := chkR_step (n0 := ncol t) (show k < t.length by omega)
    rw [if_pos (show (t.getD k []).length = (t.getD 0 []).length by omega), if_pos h, hk.2] at e
    refine GHeld.mk ?_
    refine Exists.intro (k + 1) ?_
    refine And.intro (Leaf.mk ?_) ?_
    · repeat' first | exact True.intro | refine And.intro ?_ ?_
      all_goals try ((change _ = _ <;> try dsimp only) <;> try with_reducible rfl)
      all_goals try omega
      all_goals (rfl)
    exact ⟨⟨by show k + 1 ≤ t.length; omega, e.symm⟩, by show t.length - (k + 1) < t.length - k; omega⟩
  · rename_i h1 h2 h3 h4 k hk h
    have e := hk.2
    rw [List.drop_eq_nil_of_le (by omega)] at e
    have e : (0 : Int) = chkRows (ncol t) t := e
    unfold chkT; rw [if_neg (by omega), if_neg (by omega), if_neg (show ¬ (t.getD 0 []).length = 0 by omega), if_neg (show ¬ 3 < (t.getD 0 []).length by omega), ← e, if_pos rfl]
    by_cases hc : 0 ≤ cap ∧ cap ≤ 1000
    · rw [if_pos hc, decide_eq_true hc]; rfl
    · rw [if_neg hc, decide_eq_false hc]; rfl
structure goodT (t : List (List Int)) (cap : Int) : Prop where
  pos : 0 < t.length
  le : t.length ≤ 4
  cpos : 0 < ncol t
  cle : ncol t ≤ 3
  rows : ∀ i, i < t.length → (rowN t i).length = ncol t
  vals : ∀ i j, i < t.length → j < ncol t → 0 ≤ vI (rowN t i) j ∧ vI (rowN t i) j ≤ 100
  cap0 : 0 ≤ cap ∧ cap ≤ 1000
theorem chkRows_ok {n0 : Nat} : ∀ {t : List (List Int)}, chkRows n0 t = 0 → ∀ r ∈ t, r.length = n0 ∧ allE r 100 = 0
  | [], _, r, hr => by cases hr
  | q :: t, h, r, hr => by
    simp only [chkRows] at h
    split at h
    · split at h
      · rcases List.mem_cons.1 hr with rfl | hr
        · exact ⟨by assumption, by assumption⟩
        · exact chkRows_ok h r hr
      · rename_i h1 h2; exact absurd h h2
    · cases h
theorem row_in {t : List (List Int)} {i : Nat} (h : i < t.length) : rowN t i ∈ t := by
  have e : rowN t i = t[i] := by simp [rowN, List.getD, List.getElem?_eq_getElem h]
  rw [e]; exact List.getElem_mem h
theorem goodT_of {t : List (List Int)} {cap : Int} (h : chkT t cap = 0) : goodT t cap := by
  unfold chkT at h
  split at h
  · cases h
  split at h
  · cases h
  split at h
  · cases h
  split at h
  · cases h
  split at h
  · rename_i h1 h2 h3 h4 h5
    split at h
    · rename_i h6
      exact ⟨by omega, by omega, by omega, by omega, fun i hi => (chkRows_ok h5 _ (row_in hi)).1, fun i j hi hj => by
        have := chkRows_ok h5 _ (row_in hi)
        exact allE_ok this.2 j (by rw [this.1]; exact hj), h6⟩
    · cases h
  · rename_i h5; exact absurd h h5
end Go.Eng.Ar

namespace Go.Eng
open Ieee
set_option linter.all false
theorem cut_le {n drop B : Nat} {neg : Bool} (h : n < 2 ^ (B + drop)) : Toward.even.cut neg n drop ≤ 2 ^ B := by
  unfold Toward.cut
  dsimp only
  have hgap : ∀ g : Nat, 0 < g → n / g + (if (decide (g < 2 * (n % g)) || (g == 2 * (n % g) && n / g % 2 == 1)) = true then 1 else 0) ≤ n / g + 1 := fun g _ => by split <;> omega
  rw [Nat.one_shiftLeft]
  have hb : ∀ b : Bool, b.toNat ≤ 1 := fun b => by cases b <;> decide
  refine Nat.le_trans (Nat.add_le_add_left (hb _) _) ?_
  rcases Nat.le_total drop (n.log2 + 2) with hd | hd
  · rw [Nat.min_eq_left hd]
    have : n / 2 ^ drop < 2 ^ B := by
      rw [Nat.div_lt_iff_lt_mul (Nat.two_pow_pos _), ← Nat.pow_add]; exact h
    omega
  · rw [Nat.min_eq_right hd]
    have : n / 2 ^ (n.log2 + 2) = 0 := by
      refine Nat.div_eq_of_lt ?_
      have := Nat.lt_log2_self (n := n)
      calc n < 2 ^ (n.log2 + 1) := this
        _ ≤ 2 ^ (n.log2 + 2) := Nat.pow_le_pow_right (by decide) (by omega)
    rw [this]
    have := Nat.two_pow_pos B
    omega
theorem near_le {mag : Nat} {place : Int} {R : Nat} (h1R : 1 ≤ R) (hR : place + mag.log2 + 1022 < R) : ∃ r, double.nearest false mag place = r ∧ r ≤ (R + 1) * 2 ^ 52 := by
  refine ⟨_, rfl, ?_⟩
  unfold Format.nearest
  split
  · exact Nat.zero_le _
  dsimp only
  have hw : ∀ x, double.word false x = x := fun x => rfl
  rw [hw]
  refine Nat.le_trans (Nat.min_le_left _ _) ?_
  have hl : double.leastPlace = -1074 := by decide
  have hf : double.fractionBits = 52 := rfl
  have hbn : double.binade = 2 ^ 52 := rfl
  rw [hl, hf, hbn]
  obtain ⟨last, hlast⟩ : ∃ last, max (place + (mag.log2 : Int) - ((52 : Nat) : Int)) (-1074) = last := ⟨_, rfl⟩
  rw [hlast]
  have hk : Toward.even.cut false (mag <<< (place - last).toNat) (last - place).toNat ≤ 2 ^ 53 := by
    refine cut_le ?_
    rw [Nat.shiftLeft_eq]
    have hm := Nat.lt_log2_self (n := mag)
    calc mag * 2 ^ (place - last).toNat < 2 ^ (mag.log2 + 1) * 2 ^ (place - last).toNat := Nat.mul_lt_mul_of_pos_right hm (Nat.two_pow_pos _)
      _ = 2 ^ (mag.log2 + 1 + (place - last).toNat) := (Nat.pow_add ..).symm
      _ ≤ 2 ^ (53 + (last - place).toNat) := Nat.pow_le_pow_right (by decide) (by omega)
  have h53 : 2 ^ 53 = 2 * 2 ^ 52 := rfl
  rw [h53] at hk
  have hx : (last - -1074).toNat + 2 ≤ R + 1 := by omega
  refine Nat.le_trans (Nat.add_le_add_left hk _) ?_
  rw [← Nat.add_mul]
  exact Nat.mul_le_mul_right _ hx
theorem read_le {r R : Nat} (h1 : 1 ≤ R) (hR : R ≤ 2000) (h : r ≤ R * 2 ^ 52) : ∃ m p, double.read r = .number false m p ∧ m < 2 ^ 53 ∧ p ≤ (R : Int) - 1075 := by
  have hs : double.signWeight = 2 ^ 63 := by decide
  have hb : double.binade = 2 ^ 52 := rfl
  have hi : double.infRung = 2047 * 2 ^ 52 := by decide
  have hl : double.leastPlace = -1074 := by decide
  unfold Format.read
  rw [hs, hb, hi, hl]
  have hr : r < 2 ^ 63 := by omega
  have e1 : r / 2 ^ 63 = 0 := Nat.div_eq_of_lt hr
  have e2 : r % 2 ^ 63 = r := Nat.mod_eq_of_lt hr
  rw [e1, e2]
  dsimp only
  have hn : (0 % 2 == 1) = false := rfl
  rw [hn]
  split
  · rename_i h2
    exact ⟨r, -1074, rfl, by omega, by omega⟩
  · rw [if_pos (by omega)]
    refine ⟨_, _, rfl, by omega, ?_⟩
    omega
theorem rootFrom_lt (n : Nat) : ∀ (todo root : Nat), Datum.rootFrom n todo root < root + 2 ^ todo
  | 0, root => by simp [Datum.rootFrom]
  | todo + 1, root => by
    unfold Datum.rootFrom
    dsimp only
    rw [Nat.one_shiftLeft, Nat.pow_succ]
    split
    · have := rootFrom_lt n todo (root + 2 ^ todo); omega
    · have := rootFrom_lt n todo root
      have := Nat.two_pow_pos todo
      omega
theorem log2_lt {m k : Nat} (h : m < 2 ^ k) (hk : 1 ≤ k) : m.log2 ≤ k - 1 := by
  rcases Nat.eq_zero_or_pos m with rfl | hm
  · simp
  · have := (Nat.log2_lt (by omega)).2 h
    omega
theorem root_le {m : Nat} {i : Int} (hm : m < 2 ^ 53) (hi : i ≤ -2) : ∃ m' p', (Datum.number false m i).root 54 = some (.number false m' p') ∧ (m' = 0 ∨ p' + m'.log2 + 1022 < 1048) := by
  simp only [Datum.root, Bool.false_eq_true, if_false]
  split
  · rename_i h; exact ⟨m, i, rfl, .inl h⟩
  · rename_i hne
    have hl : m.log2 ≤ 52 := log2_lt hm (by decide)
    obtain ⟨more, hmore⟩ : ∃ more, 2 * 54 - m.log2 + ((i - ((2 * 54 - m.log2 : Nat) : Int)) % 2).toNat = more := ⟨_, rfl⟩
    rw [hmore]
    have h1 : 56 ≤ more := by omega
    have h2 : m.log2 + more ≤ 109 := by omega
    obtain ⟨n, hn⟩ : ∃ n, m <<< more = n := ⟨_, rfl⟩
    rw [hn]
    have hnl : n.log2 ≤ 109 := by
      have : n < 2 ^ 110 := by
        rw [← hn, Nat.shiftLeft_eq]
        have hm' := Nat.lt_log2_self (n := m)
        calc m * 2 ^ more < 2 ^ (m.log2 + 1) * 2 ^ more := Nat.mul_lt_mul_of_pos_right hm' (Nat.two_pow_pos _)
          _ = 2 ^ (m.log2 + 1 + more) := (Nat.pow_add ..).symm
          _ ≤ 2 ^ 110 := Nat.pow_le_pow_right (by decide) (by omega)
      exact log2_lt this (by decide)
    refine ⟨_, _, rfl, .inr ?_⟩
    have hw := rootFrom_lt n (n.log2 / 2 + 1) 0
    have hw2 : Datum.rootFrom n (n.log2 / 2 + 1) 0 < 2 ^ 55 := by
      refine Nat.lt_of_lt_of_le (by simpa using hw) (Nat.pow_le_pow_right (by decide) (by omega))
    have hb : ∀ b : Bool, b.toNat ≤ 1 := fun b => by cases b <;> decide
    have hmag : 2 * Datum.rootFrom n (n.log2 / 2 + 1) 0 + (Datum.rootFrom n (n.log2 / 2 + 1) 0 * Datum.rootFrom n (n.log2 / 2 + 1) 0 != n).toNat < 2 ^ 56 := by
      have := hb (Datum.rootFrom n (n.log2 / 2 + 1) 0 * Datum.rootFrom n (n.log2 / 2 + 1) 0 != n)
      omega
    have hlm := log2_lt hmag (by decide)
    omega
theorem cut0_le {m drop : Nat} (hm : m < 2 ^ 53) (hd : 26 ≤ drop) : Toward.zero.cut false m drop ≤ 134217728 := by
  unfold Toward.cut
  dsimp only
  rw [Nat.one_shiftLeft]
  show m / 2 ^ min drop (m.log2 + 2) + 0 ≤ _
  rcases Nat.le_total drop (m.log2 + 2) with h | h
  · rw [Nat.min_eq_left h]
    have h1 : m / 2 ^ drop ≤ m / 2 ^ 26 := Nat.div_le_div_left (Nat.pow_le_pow_right (by decide) hd) (Nat.two_pow_pos _)
    have h2 : m / 2 ^ 26 < 2 ^ 27 := by omega
    omega
  · rw [Nat.min_eq_right h]
    have : m / 2 ^ (m.log2 + 2) = 0 := by
      refine Nat.div_eq_of_lt ?_
      have := Nat.lt_log2_self (n := m)
      calc m < 2 ^ (m.log2 + 1) := this
        _ ≤ 2 ^ (m.log2 + 2) := Nat.pow_le_pow_right (by decide) (by omega)
    omega
theorem sq_val {n : Int} (h0 : 0 ≤ n) (h1 : n < 1125899906842624) : ∃ r v, FloatKind.f64.format.sqrt (floatOfInt .f64 n) = some r ∧ floatToIntVal .f64 r .i64 = some v ∧ 0 ≤ v ∧ v ≤ 134217728 := by
  have e0 : floatOfInt .f64 n = double.nearest false n.natAbs 0 := by
    show double.nearest (decide (n < 0)) n.natAbs 0 = _
    rw [decide_eq_false (by omega)]
  have hl : n.natAbs.log2 ≤ 49 := log2_lt (k := 50) (by omega) (by decide)
  obtain ⟨x, hx, hxr⟩ := near_le (mag := n.natAbs) (place := 0) (R := 1072) (by decide) (by omega)
  obtain ⟨m, i, hr, hm, hi⟩ := read_le (R := 1073) (by decide) (by decide) hxr
  obtain ⟨m', p', hroot, hcase⟩ := root_le (m := m) (i := i) hm (by omega)
  have hs : FloatKind.f64.format.sqrt (floatOfInt .f64 n) = some (double.nearest false m' p') := by
    rw [e0, hx]
    show ((double.read x).root 54).map double.write = _
    rw [hr, hroot]; rfl
  have hy : double.nearest false m' p' ≤ 1049 * 2 ^ 52 := by
    rcases hcase with h | h
    · subst h
      have : double.nearest false 0 p' = 0 := by unfold Format.nearest; rw [if_pos rfl]; rfl
      rw [this]; exact Nat.zero_le _
    · obtain ⟨y, hy, hyr⟩ := near_le (mag := m') (place := p') (R := 1048) (by decide) h
      rw [hy]; exact hyr
  obtain ⟨m2, p2, hr2, hm2, hp2⟩ := read_le (R := 1049) (by decide) (by decide) hy
  have hz : p2.toNat = 0 := by omega
  have hc := cut0_le (m := m2) (drop := (-p2).toNat) hm2 (by omega)
  refine ⟨_, (Toward.zero.cut false m2 (-p2).toNat : Nat), hs, ?_, by omega, by omega⟩
  unfold floatToIntVal
  have ht : (FloatKind.f64.decode (double.nearest false m' p')).toInt .zero = some ((Toward.zero.cut false m2 (-p2).toNat : Nat) : Int) := by
    show (double.read (double.nearest false m' p')).toInt .zero = _
    rw [hr2]
    simp only [Datum.toInt, Datum.integral, hz, Nat.shiftLeft_zero, signed, Bool.false_eq_true, if_false]
  rw [ht]
  have hmin : IntKind.min .i64 = -9223372036854775808 := by decide
  have hmax : IntKind.max .i64 = 9223372036854775807 := by decide
  dsimp only
  rw [if_pos (by rw [hmin, hmax]; omega)]
end Go.Eng

namespace Go.Eng.Ar
open Go.Eng Go.Proofs
set_option linter.all false
set_option maxRecDepth 100000
set_option maxHeartbeats 8000000
@[reducible] def sSqrt : Spec := { pats := [.dat (.flt .f64)], res := [{ t := .flt .f64 }], pre := fun x => (FloatKind.f64.format.sqrt x.1).isSome = true, f := fun x => ((FloatKind.f64.format.sqrt x.1).getD 0, ()) }
theorem h149 : Ok 149 sSqrt := by
  refine mk (ctr := []) trivial (nt := 5) Tryz.func149 rfl rfl rfl rfl (by kernel_rfl) (by kernel_rfl) (fun _ => []) ?_
  rintro ⟨(x : Nat), _⟩ h
  repeat' (intro hzz; (try (rename Two => hq; cases hq)); (try dsimp only at hzz); (try simp only [resTy, argTy, eqD, inR, big, wantOf, zB] at hzz); (try (revert hzz; intro _)))
  all_goals try (rename Unit => hq; clear hq)
  all_goals try ((with_reducible refine Held.mk ?_); (with_reducible (first | refine Frz.mk ?_ | refine And.intro (Frz.mk ?_) ?_ | refine And.intro ?_ (Frz.mk ?_))); repeat' first | exact True.intro | (change _ = _; with_reducible rfl) | refine And.intro ?_ ?_ | (with_reducible refine Frz.mk ?_))
  all_goals try (refine Held.mk ?_; (try dsimp only at *); (try simp only [resTy, argTy, eqD, inR, big, wantOf, zB] at *))
  all_goals (first | exact h | trace_state)
def rtGo : Nat → Nat → Nat → Nat
  | 0, r, _ => r
  | k + 1, r, n => bif Nat.ble ((r + 2 ^ k) * (r + 2 ^ k)) n then rtGo k (r + 2 ^ k) n else rtGo k r n
def rt (n : Nat) : Nat := rtGo 31 0 n
theorem rtGo_spec : ∀ (k r n : Nat), r * r ≤ n → n < (r + 2 ^ k) * (r + 2 ^ k) → rtGo k r n * rtGo k r n ≤ n ∧ n < (rtGo k r n + 1) * (rtGo k r n + 1)
  | 0, r, n, h1, h2 => ⟨h1, by simpa [rtGo] using h2⟩
  | k + 1, r, n, h1, h2 => by
    simp only [rtGo]
    cases hb : Nat.ble ((r + 2 ^ k) * (r + 2 ^ k)) n with
    | true =>
      have := Nat.le_of_ble_eq_true hb
      refine rtGo_spec k _ n this ?_
      rw [show r + 2 ^ k + 2 ^ k = r + 2 ^ (k + 1) by rw [Nat.pow_succ]; omega]
      exact h2
    | false =>
      refine rtGo_spec k r n h1 ?_
      rcases Nat.lt_or_ge n ((r + 2 ^ k) * (r + 2 ^ k)) with h | h
      · exact h
      · rw [Nat.ble_eq_true_of_le h] at hb; cases hb
theorem rt_spec {n : Nat} (h : n < 2 ^ 62) : rt n * rt n ≤ n ∧ n < (rt n + 1) * (rt n + 1) := rtGo_spec 31 0 n (by omega) (by simpa using h)
theorem sq_uniq {n a b : Nat} (h1 : a * a ≤ n) (h2 : n < (a + 1) * (a + 1)) (h3 : b * b ≤ n) (h4 : n < (b + 1) * (b + 1)) : a = b := by
  rcases Nat.lt_trichotomy a b with h | h | h
  · have := Nat.mul_le_mul (show a + 1 ≤ b by omega) (show a + 1 ≤ b by omega); omega
  · exact h
  · have := Nat.mul_le_mul (show b + 1 ≤ a by omega) (show b + 1 ≤ a by omega); omega
abbrev pRoot (n : Int) : Prop := 0 ≤ n ∧ n < 1125899906842624
def rtI (n : Int) : Int := (rt n.toNat : Int)
theorem rtI_spec {n : Int} (h : pRoot n) : 0 ≤ rtI n ∧ rtI n * rtI n ≤ n ∧ n < (rtI n + 1) * (rtI n + 1) ∧ rtI n < 33554432 := by
  obtain ⟨e1, e2⟩ := rt_spec (n := n.toNat) (by omega)
  have g1 : ((rt n.toNat * rt n.toNat : Nat) : Int) = rtI n * rtI n := by simp [rtI]
  have g2 : (((rt n.toNat + 1) * (rt n.toNat + 1) : Nat) : Int) = (rtI n + 1) * (rtI n + 1) := by simp [rtI]
  have g3 : ((rt n.toNat : Nat) : Int) = rtI n := rfl
  have g4 : rt n.toNat < 33554432 := by
    rcases Nat.lt_or_ge (rt n.toNat) 33554432 with h' | h'
    · exact h'
    · have := Nat.mul_le_mul h' h'; omega
  exact ⟨by omega, by omega, by omega, by omega⟩
theorem rtI_eq {n : Int} (h : pRoot n) {r : Nat} (h1 : (r : Int) * r ≤ n) (h2 : n < ((r : Int) + 1) * ((r : Int) + 1)) : (r : Int) = rtI n := by
  obtain ⟨e1, e2⟩ := rt_spec (n := n.toNat) (by omega)
  have g1 : ((r * r : Nat) : Int) = (r : Int) * r := by simp
  have g2 : (((r + 1) * (r + 1) : Nat) : Int) = ((r : Int) + 1) * ((r : Int) + 1) := by simp
  have := sq_uniq (n := n.toNat) (a := r) (b := rt n.toNat) (by omega) (by omega) e1 e2
  rw [this]; rfl
theorem sq_lt {n : Int} {r : Nat} (h : pRoot n) (h1 : (r : Int) * r ≤ n) : r < 33554432 := by
  have g1 : ((r * r : Nat) : Int) = (r : Int) * r := by simp
  rcases Nat.lt_or_ge r 33554432 with h' | h'
  · exact h'
  · have := Nat.mul_le_mul h' h'; omega
theorem sq_bd {r : Nat} (h : r ≤ 134217728) : 0 ≤ (r : Int) * r ∧ (r : Int) * r ≤ 18014398509481984 := by
  have g1 : ((r * r : Nat) : Int) = (r : Int) * r := by simp
  have := Nat.mul_le_mul h h
  omega
@[reducible] def sRoot : Spec := { pats := [.dat I64], res := [{ t := I64 }], pre := fun x => pRoot x.1, f := fun x => (rtI x.1, ()) }
def rootAnn1 (n : Int) : LoopAnn := { σ := Nat, pat := fun r => [sI 3 r], inv := fun r => r ≤ 134217728, meas := fun r => r }
def rootAnn2 (n : Int) : LoopAnn := { σ := Nat, pat := fun r => [sI 3 r], inv := fun r => (r : Int) * r ≤ n, meas := fun r => 33554432 - r }
theorem h112 : Ok 112 sRoot := by
  refine mk (ctr := [(149, sSqrt)]) ⟨h149, trivial⟩ (nt := 25) Tryz.func112 rfl rfl rfl rfl (by kernel_rfl) (by kernel_rfl) (fun x => [fun _ => rootAnn1 x.1, fun _ => rootAnn2 x.1]) ?_
  rintro ⟨(n : Int), _⟩ (hn : pRoot n)
  obtain ⟨x, v, hx, hv, hv0, hv1⟩ := sq_val hn.1 hn.2
  repeat' (intro hzz; (try (rename Two => hq; cases hq)); (try dsimp only at hzz); (try simp only [resTy, argTy, eqD, inR, big, wantOf, zB] at hzz); (try simp only [resTy, argTy, eqD, inR, big, wantOf, zB, hx, Option.getD_some, Option.isSome_some] at hzz); (try (revert hzz; intro _)))
  all_goals try (rename Unit => hq; clear hq)
  all_goals try ((with_reducible refine Held.mk ?_); (with_reducible (first | refine Frz.mk ?_ | refine And.intro (Frz.mk ?_) ?_ | refine And.intro ?_ (Frz.mk ?_))); repeat' first | exact True.intro | (change _ = _; with_reducible rfl) | refine And.intro ?_ ?_ | (with_reducible refine Frz.mk ?_))
  all_goals try (refine Held.mk ?_; (try dsimp only at *); (try simp only [resTy, argTy, eqD, inR, big, wantOf, zB] at *); (try simp only [resTy, argTy, eqD, inR, big, wantOf, zB, hx, Option.getD_some, Option.isSome_some] at *))
  all_goals try omega
  · rw [hv]; rfl
  ·
    refine GHeld.mk ?_
    refine Exists.intro v.toNat ?_
    refine And.intro (Leaf.mk ?_) ?_
    · repeat' first | exact True.intro | refine And.intro ?_ ?_
      all_goals try ((change _ = _ <;> try dsimp only) <;> try with_reducible rfl)
      all_goals try omega
      all_goals ((rw [hx, Option.getD_some, hv, Option.getD_some]; omega))
    omega
  · rename_i r hr
    have := sq_bd hr; omega
  · rename_i r hr h
    have h0 : r ≠ 0 := fun e => by subst e; have := hn.1; simp at h; omega
    refine GHeld.mk ?_
    refine Exists.intro (r - 1) ?_
    refine And.intro (Leaf.mk ?_) ?_
    · repeat' first | exact True.intro | refine And.intro ?_ ?_
      all_goals try ((change _ = _ <;> try dsimp only) <;> try with_reducible rfl)
      all_goals try omega
      all_goals (omega)
    exact ⟨(show r - 1 ≤ 134217728 by omega), (show r - 1 < r by omega)⟩
  · rename_i r hr h
    refine GHeld.mk ?_
    refine Exists.intro r ?_
    refine And.intro (Leaf.mk ?_) ?_
    · repeat' first | exact True.intro | refine And.intro ?_ ?_
      all_goals try ((change _ = _ <;> try dsimp only) <;> try with_reducible rfl)
      all_goals try omega
      all_goals (rfl)
    exact h
  · rename_i q hq hqn r h
    have := sq_lt hn h; omega
  · rename_i q hq hqn r h
    have := sq_lt hn h; omega
  · rename_i q hq hqn r h
    have hlt := sq_lt hn h
    have := sq_bd (r := r + 1) (by omega)
    push_cast at this
    omega
  · rename_i q hq hqn r h1 h
    have := sq_lt hn h1; omega
  · rename_i q hq hqn r h1 h
    have hlt := sq_lt hn (r := r + 1) (by push_cast; exact h)
    refine GHeld.mk ?_
    refine Exists.intro (r + 1) ?_
    refine And.intro (Leaf.mk ?_) ?_
    · repeat' first | exact True.intro | refine And.intro ?_ ?_
      all_goals try ((change _ = _ <;> try dsimp only) <;> try with_reducible rfl)
      all_goals try omega
      all_goals ((push_cast; rfl))
    exact ⟨(show ((r + 1 : Nat) : Int) * ((r + 1 : Nat) : Int) ≤ n by push_cast; exact h), (show 33554432 - (r + 1) < 33554432 - r by omega)⟩
  · rename_i q hq hqn r h1 h
    exact rtI_eq hn h1 h
end Go.Eng.Ar

namespace Go.Eng.Ar
open Go.Eng Go.Proofs
set_option linter.all false
set_option maxRecDepth 100000
set_option maxHeartbeats 8000000
theorem ok_weak {f : Nat} {pats : List Pat} {res : List RC} {pre pre' : (argTy pats).Den → Prop} {F F' : (argTy pats).Den → (resTy res).Den} (h : Ok f { pats := pats, res := res, pre := pre, f := F }) (hp : ∀ x, pre' x → pre x) (hf : ∀ x, pre' x → F x = F' x) : Ok f { pats := pats, res := res, pre := pre', f := F' } := by
  refine ⟨fun w M x vs bs hM hA hx => ?_, h.2⟩
  have h1 := h.1 w M x vs bs hM hA (hp x hx)
  have h2 : F x = F' x := hf x hx
  refine h1.mono fun e w' ⟨rs, g, e1, e2, e3⟩ => ⟨rs, g, e1, e2, ?_⟩
  have e3 : ResOK w' _ _ res (F x) rs g := e3
  rw [h2] at e3; exact e3
abbrev PlaceD : Type := PlaceT.Den
abbrev wr (n : Int) : Int := RowKit.wrap64 n
theorem wr_in {n : Int} (h : -9223372036854775808 ≤ n ∧ n ≤ 9223372036854775807) : wr n = n := by
  unfold wr RowKit.wrap64; omega
def dW (x y : Int) : Int := wr (wr (x - y) * wr (x - y))
def dP (x y : Int) : Int := (x - y) * (x - y)
def sqWC (a1 a2 a3 b1 b2 b3 : Int) : Int := wr (wr (dW a1 b1 + dW a2 b2) + dW a3 b3)
def sqC (a1 a2 a3 b1 b2 b3 : Int) : Int := dP a1 b1 + dP a2 b2 + dP a3 b3
def sqW (a b : PlaceD) : Int := sqWC a.1 a.2.1 a.2.2.1 b.1 b.2.1 b.2.2.1
def sqP (a b : PlaceD) : Int := sqC a.1 a.2.1 a.2.2.1 b.1 b.2.1 b.2.2.1
def inC (x : Int) : Prop := -5000 ≤ x ∧ x ≤ 5000
def inP (p : PlaceD) : Prop := inC p.1 ∧ inC p.2.1 ∧ inC p.2.2.1
theorem inP_of {p : PlaceD} (h : plErr p.1 p.2.1 p.2.2.1 = 0) : inP p := by
  simp only [plErr] at h
  split at h
  · assumption
  · cases h
theorem sq_b {x : Int} (h1 : -10000 ≤ x) (h2 : x ≤ 10000) : 0 ≤ x * x ∧ x * x ≤ 100000000 := by
  by_cases h : 0 ≤ x
  · exact ⟨Int.mul_nonneg h h, Int.mul_le_mul h2 h2 h (by omega)⟩
  · have e : x * x = (-x) * (-x) := by rw [Int.neg_mul_neg]
    have h3 : -x ≤ 10000 := by omega
    have h4 : 0 ≤ -x := by omega
    rw [e]
    exact ⟨Int.mul_nonneg h4 h4, Int.mul_le_mul h3 h3 h4 (by decide)⟩
theorem dP_bd {x y : Int} (hx : inC x) (hy : inC y) : 0 ≤ dP x y ∧ dP x y ≤ 100000000 := by
  obtain ⟨h1, h2⟩ := hx
  obtain ⟨h3, h4⟩ := hy
  exact sq_b (by omega) (by omega)
theorem dW_eq {x y : Int} (hx : inC x) (hy : inC y) : dW x y = dP x y := by
  have h := dP_bd hx hy
  obtain ⟨h1, h2⟩ := hx
  obtain ⟨h3, h4⟩ := hy
  unfold dW dP at *
  rw [wr_in (n := x - y) (by omega), wr_in (by omega)]
theorem sqP_bd {a b : PlaceD} (ha : inP a) (hb : inP b) : 0 ≤ sqP a b ∧ sqP a b ≤ 300000000 := by
  have h1 := dP_bd ha.1 hb.1
  have h2 := dP_bd ha.2.1 hb.2.1
  have h3 := dP_bd ha.2.2 hb.2.2
  unfold sqP sqC; omega
theorem sqW_eq {a b : PlaceD} (ha : inP a) (hb : inP b) : sqW a b = sqP a b := by
  have h1 := dP_bd ha.1 hb.1
  have h2 := dP_bd ha.2.1 hb.2.1
  have h3 := dP_bd ha.2.2 hb.2.2
  unfold sqW sqP sqWC sqC
  rw [dW_eq ha.1 hb.1, dW_eq ha.2.1 hb.2.1, dW_eq ha.2.2 hb.2.2]
  rw [wr_in (n := dP a.1 b.1 + dP a.2.1 b.2.1) (by omega)]
  exact wr_in (by omega)
@[reducible] def sSquare : Spec := { pats := [.dat WayT], res := [{ t := I64 }], pre := fun _ => True, f := fun x => (sqW x.1.1 x.1.2.1, ()) }
def cl (n b : Int) : Int := -(-n / b)
theorem cl_eq {n b : Int} (hn : 0 ≤ n) (hb : 0 < b) : (n + b - 1).tdiv b = cl n b := by
  rw [Int.tdiv_eq_ediv_of_nonneg (by omega)]
  unfold cl
  have h1 := Int.emod_nonneg (n + b - 1) (show b ≠ 0 by omega)
  have h2 := Int.emod_lt_of_pos (n + b - 1) hb
  have h3 := Int.emod_def (n + b - 1) b
  have h4 : (-n) / b = -((n + b - 1) / b) := by
    refine Int.ediv_eq_iff_of_pos hb |>.2 ⟨?_, ?_⟩
    · rw [Int.neg_mul]; rw [Int.mul_comm] ; omega
    · rw [Int.neg_mul, Int.mul_comm]; omega
  omega
abbrev pNs (n : Int) : Prop := 0 ≤ n ∧ n ≤ 1000000000000000000
abbrev pAb (n b : Int) : Prop := (0 ≤ n ∧ n ≤ 1000000000000000000) ∧ (0 < b ∧ b ≤ 1000000000000000000)
@[reducible] def sAbove : Spec := { pats := [.dat I64, .dat I64], res := [{ t := I64 }], pre := fun x => pAb x.1 x.2.1, f := fun x => (cl x.1 x.2.1, ()) }
theorem div_bd {n b : Int} (hn : 0 ≤ n) (hb : 0 < b) : 0 ≤ n / b ∧ n / b ≤ n := ⟨Int.ediv_nonneg hn (by omega), Int.ediv_le_self _ hn⟩
theorem cl_bd {n b : Int} (hn : 0 ≤ n) (hb : 0 < b) : 0 ≤ cl n b ∧ cl n b ≤ n := by
  rw [← cl_eq hn hb, Int.tdiv_eq_ediv_of_nonneg (by omega)]
  refine ⟨Int.ediv_nonneg (by omega) (by omega), ?_⟩
  by_cases h0 : n = 0
  · subst h0
    have := Int.ediv_eq_zero_of_lt (a := 0 + b - 1) (b := b) (by omega) (by omega)
    omega
  · refine Int.lt_add_one_iff.1 (Int.ediv_lt_of_lt_mul hb ?_)
    have : 1 * (b - 1) ≤ n * (b - 1) := Int.mul_le_mul_of_nonneg_right (by omega) (by omega)
    rw [Int.one_mul, Int.mul_sub, Int.mul_one] at this
    rw [Int.add_mul, Int.one_mul]
    omega
theorem h136 : Ok 136 sAbove := by
  refine mk (ctr := []) trivial (nt := 11) Tryz.func136 rfl rfl rfl rfl (by kernel_rfl) (by kernel_rfl) (fun _ => []) ?_
  rintro ⟨(n : Int), (b : Int), _⟩ ⟨(h1 : 0 ≤ n ∧ n ≤ 1000000000000000000), (h2 : 0 < b ∧ b ≤ 1000000000000000000)⟩
  have e := cl_eq h1.1 h2.1
  have e2 := cl_bd h1.1 h2.1
  repeat' (intro hzz; (try (rename Two => hq; cases hq)); (try dsimp only at hzz); (try simp only [resTy, argTy, eqD, inR, big, wantOf, zB] at hzz); (try simp only [resTy, argTy, eqD, inR, big, wantOf, zB, e] at hzz); (try (revert hzz; intro _)))
  all_goals try (rename Unit => hq; clear hq)
  all_goals try ((with_reducible refine Held.mk ?_); (with_reducible (first | refine Frz.mk ?_ | refine And.intro (Frz.mk ?_) ?_ | refine And.intro ?_ (Frz.mk ?_))); repeat' first | exact True.intro | (change _ = _; with_reducible rfl) | refine And.intro ?_ ?_ | (with_reducible refine Frz.mk ?_))
  all_goals try (refine Held.mk ?_; (try dsimp only at *); (try simp only [resTy, argTy, eqD, inR, big, wantOf, zB] at *); (try simp only [resTy, argTy, eqD, inR, big, wantOf, zB, e] at *))
  all_goals try omega
def rtU (n : Int) : Int := if rtI n * rtI n < n then rtI n + 1 else rtI n
@[reducible] def sRootUp : Spec := { sRoot with f := fun x => (rtU x.1, ()) }
theorem h113 : Ok 113 sRootUp := by
  refine mk (ctr := [(112, sRoot)]) ⟨h112, trivial⟩ (nt := 14) Tryz.func113 rfl rfl rfl rfl (by kernel_rfl) (by kernel_rfl) (fun _ => []) ?_
  rintro ⟨(n : Int), _⟩ (hn : pRoot n)
  have h1 := rtI_spec hn
  have h2 : 0 ≤ rtI n * rtI n := Int.mul_nonneg h1.1 h1.1
  have h3 := hn.2
  repeat' (intro hzz; (try (rename Two => hq; cases hq)); (try dsimp only at hzz); (try simp only [resTy, argTy, eqD, inR, big, wantOf, zB] at hzz); (try simp only [resTy, argTy, eqD, inR, big, wantOf, zB, pRoot] at hzz); (try (revert hzz; intro _)))
  all_goals try (rename Unit => hq; clear hq)
  all_goals try ((with_reducible refine Held.mk ?_); (with_reducible (first | refine Frz.mk ?_ | refine And.intro (Frz.mk ?_) ?_ | refine And.intro ?_ (Frz.mk ?_))); repeat' first | exact True.intro | (change _ = _; with_reducible rfl) | refine And.intro ?_ ?_ | (with_reducible refine Frz.mk ?_))
  all_goals try (refine Held.mk ?_; (try dsimp only at *); (try simp only [resTy, argTy, eqD, inR, big, wantOf, zB] at *); (try simp only [resTy, argTy, eqD, inR, big, wantOf, zB, pRoot] at *))
  all_goals first | exact hn | omega | (simp only [rtU]; split <;> omega) | trace_state
theorem sq_calls (a b c d e f : Int) (w : World) : Calls Tryz.prog 138 #[.agg #[.int .i64 a, .int .i64 b, .int .i64 c, .int .i64 d, .int .i64 e, .int .i64 f]] w fun r w' => r = .returned (.int .i64 (sqW (a, b, c, ()) (d, e, f, ()))) ∧ ∃ o nq, w' = (w.alloc o).drewN nq := by
  have mixed := mixed
  have t3 := Tryz.underlying3
  have hn : Tryz.f138.ntmps = 38 := rfl
  go_enter Tryz.func138, hn
  go_wp2
  go_quiet (fail)
  go_wp2
  go_ret
  exact ⟨rfl, _, _, rfl⟩
theorem h138 : Ok 138 sSquare := by
  refine ⟨?_, Tryz.f138, Tryz.func138, by kernel_rfl, by kernel_rfl⟩
  rintro w M ⟨⟨⟨a, b, c, _⟩, ⟨d, e, f, _⟩, _⟩, _⟩ vs bs hM ⟨v, vs', rfl, hv, rfl, rfl⟩ _
  have hv : v = .agg #[.int .i64 a, .int .i64 b, .int .i64 c, .int .i64 d, .int .i64 e, .int .i64 f] := by
    obtain ⟨l, h1, h2⟩ := hv
    obtain ⟨l1, l2, rfl, ⟨m1, m2, rfl, h11, m3, m4, rfl, h12, m5, m6, rfl, h13, h14⟩, l3, l4, rfl, ⟨n1, n2, rfl, h21, n3, n4, rfl, h22, n5, n6, rfl, h23, h24⟩, h5⟩ := h1
    subst h11 h12 h13 h14 h21 h22 h23 h24 h5
    rcases h2 with ⟨_, h⟩ | ⟨h, _⟩
    · exact h
    · cases h
  subst hv
  refine (sq_calls a b c d e f w).mono ?_
  rintro r w' ⟨rfl, o, nq, rfl⟩
  refine ⟨[_], none, rfl, ?_, _, _, rfl, RepV.mk1 rfl rfl, rfl, rfl⟩
  refine ⟨rfl, rfl, rfl, ?_, fun b hb _ => ?_, fun b hb => by cases hb⟩
  · show w.heap.size ≤ (w.heap.push o).size
    rw [Array.size_push]; exact Nat.le_succ _
  · show (w.heap.push o)[b]? = w.heap[b]?
    rw [Array.getElem?_push, if_neg (Nat.ne_of_lt hb)]
@[reducible] def pW (x : WayT.Den) : Prop := inP x.1 ∧ inP x.2.1
@[reducible] def sSquareP : Spec := { sSquare with pre := fun x => pW x.1, f := fun x => (sqP x.1.1 x.1.2.1, ()) }
theorem h138p : Ok 138 sSquareP := ok_weak h138 (fun _ _ => trivial) (fun x h => congrArg (fun n => (n, ())) (sqW_eq h.1 h.2))
def nearB (a b : PlaceD) : Bool := decide (sqW a b < 100)
@[reducible] def sNear : Spec := { pats := [.dat WayT], res := [{ t := .bool }], pre := fun _ => True, f := fun x => (nearB x.1.1 x.1.2.1, ()) }
theorem h78 : Ok 78 sNear := by
  refine mk (ctr := [(138, sSquare)]) ⟨h138, trivial⟩ (nt := 6) Tryz.func78 rfl rfl rfl rfl (by kernel_rfl) (by kernel_rfl) (fun _ => []) ?_
  rintro ⟨⟨(a : PlaceD), (b : PlaceD), _⟩, _⟩ _
  repeat' (intro hzz; (try (rename Two => hq; cases hq)); (try dsimp only at hzz); (try simp only [resTy, argTy, eqD, inR, big, wantOf, zB] at hzz); (try simp only [resTy, argTy, eqD, inR, big, wantOf, zB, sqW] at hzz); (try (revert hzz; intro _)))
  all_goals try (rename Unit => hq; clear hq)
  all_goals try ((with_reducible refine Held.mk ?_); (with_reducible (first | refine Frz.mk ?_ | refine And.intro (Frz.mk ?_) ?_ | refine And.intro ?_ (Frz.mk ?_))); repeat' first | exact True.intro | (change _ = _; with_reducible rfl) | refine And.intro ?_ ?_ | (with_reducible refine Frz.mk ?_))
  all_goals try (refine Held.mk ?_; (try dsimp only at *); (try simp only [resTy, argTy, eqD, inR, big, wantOf, zB] at *); (try simp only [resTy, argTy, eqD, inR, big, wantOf, zB, sqW] at *))
  all_goals rfl
def farN (a b : PlaceD) : Int := sqC a.1 a.2.1 a.2.2.1 b.1 b.2.1 b.2.2.1 * 1000 * 1000
def farLC (a1 a2 a3 b1 b2 b3 : Int) : Int := rtI (sqC a1 a2 a3 b1 b2 b3 * 1000 * 1000)
def farUC (a1 a2 a3 b1 b2 b3 : Int) : Int := rtU (sqC a1 a2 a3 b1 b2 b3 * 1000 * 1000)
def farL (a b : PlaceD) : Int := farLC a.1 a.2.1 a.2.2.1 b.1 b.2.1 b.2.2.1
def farU (a b : PlaceD) : Int := farUC a.1 a.2.1 a.2.2.1 b.1 b.2.1 b.2.2.1
theorem farN_eq (a b : PlaceD) : farN a b = sqP a b * 1000 * 1000 := rfl
theorem farN_root {a b : PlaceD} (ha : inP a) (hb : inP b) : pRoot (farN a b) ∧ farN a b ≤ 300000000000000 := by
  have := sqP_bd ha hb
  rw [farN_eq]; unfold pRoot; omega
theorem rtU_bd {n : Int} (h : pRoot n) : rtI n ≤ rtU n ∧ rtU n ≤ rtI n + 1 := by
  simp only [rtU]; split <;> omega
theorem rt_le {n r : Int} (h : pRoot n) (hr : 0 ≤ r) (hn : n < r * r) : rtI n < r := by
  obtain ⟨h1, h2, h3, h4⟩ := rtI_spec h
  by_cases hl : rtI n < r
  · exact hl
  · have := Int.mul_le_mul (show r ≤ rtI n by omega) (show r ≤ rtI n by omega) hr h1
    omega
theorem rt_ge {n r : Int} (h : pRoot n) (hr : 0 ≤ r) (hn : r * r ≤ n) : r ≤ rtI n := by
  obtain ⟨h1, h2, h3, h4⟩ := rtI_spec h
  by_cases hl : r ≤ rtI n
  · exact hl
  · have := Int.mul_le_mul (show rtI n + 1 ≤ r by omega) (show rtI n + 1 ≤ r by omega) (by omega) hr
    omega
theorem far_bd {a b : PlaceD} (ha : inP a) (hb : inP b) : (0 ≤ farL a b ∧ farL a b < 17320509) ∧ (farL a b ≤ farU a b ∧ farU a b ≤ farL a b + 1) := by
  obtain ⟨h1, h2⟩ := farN_root ha hb
  exact ⟨⟨(rtI_spec h1).1, rt_le h1 (by decide) (Int.lt_of_le_of_lt h2 (by decide))⟩, rtU_bd h1⟩
theorem far_ge {a b : PlaceD} (ha : inP a) (hb : inP b) (h : 100 ≤ sqP a b) : 10000 ≤ farL a b :=
  rt_ge (farN_root ha hb).1 (by decide) (by show 10000 * 10000 ≤ sqP a b * 1000 * 1000; omega)
@[reducible] def sFar : Spec := { pats := [.dat WayT], res := [{ t := RangeT }], pre := fun x => pW x.1, f := fun x => ((farL x.1.1 x.1.2.1, farU x.1.1 x.1.2.1, ()), ()) }
theorem h135 : Ok 135 sFar := by
  refine mk (ctr := [(138, sSquareP), (112, sRoot), (113, sRootUp)]) ⟨h138p, h112, h113, trivial⟩ (nt := 13) Tryz.func135 rfl rfl rfl rfl (by kernel_rfl) (by kernel_rfl) (fun _ => []) ?_
  rintro ⟨⟨(a : PlaceD), (b : PlaceD), _⟩, _⟩ ⟨(ha : inP a), (hb : inP b)⟩
  have h1 := sqP_bd ha hb
  have h2 := (farN_root ha hb).1
  repeat' (intro hzz; (try (rename Two => hq; cases hq)); (try dsimp only at hzz); (try simp only [resTy, argTy, eqD, inR, big, wantOf, zB] at hzz); (try simp only [resTy, argTy, eqD, inR, big, wantOf, zB, sqW, sqP, farL, farU, pAb, pNs] at hzz); (try (revert hzz; intro _)))
  all_goals try (rename Unit => hq; clear hq)
  all_goals try ((with_reducible refine Held.mk ?_); (with_reducible (first | refine Frz.mk ?_ | refine And.intro (Frz.mk ?_) ?_ | refine And.intro ?_ (Frz.mk ?_))); repeat' first | exact True.intro | (change _ = _; with_reducible rfl) | refine And.intro ?_ ?_ | (with_reducible refine Frz.mk ?_))
  all_goals try (refine Held.mk ?_; (try dsimp only at *); (try simp only [resTy, argTy, eqD, inR, big, wantOf, zB] at *); (try simp only [resTy, argTy, eqD, inR, big, wantOf, zB, sqW, sqP, farL, farU, pAb, pNs] at *))
  all_goals try simp only [farN] at h2
  all_goals first | omega | exact h2 | exact ⟨ha, hb⟩ | exact ⟨rfl, rfl⟩ | trace_state
abbrev SndD : Type := PairT.Den
def inS (x : SndD) : Prop := (8000 ≤ x.1 ∧ x.1 ≤ 192000) ∧ (30000 ≤ x.2.1 ∧ x.2.1 ≤ 40000)
theorem inS_of {x : SndD} (h : soErr x.1 x.2.1 = 0) : inS x := by
  simp only [soErr] at h
  split at h
  · assumption
  · cases h
def trL (a b : PlaceD) (x : SndD) : Int := (farL a b * x.1) / (1000 * x.2.1)
def trU (a b : PlaceD) (x : SndD) : Int := cl (farU a b * x.1) (1000 * x.2.1)
@[reducible] def pWX (w : WayT.Den) (x : SndD) : Prop := (inP w.1 ∧ inP w.2.1) ∧ inS x
theorem fr_bd {n r : Int} (h1 : 0 ≤ n) (h2 : n ≤ 17320509) (h3 : 8000 ≤ r ∧ r ≤ 192000) : 0 ≤ n * r ∧ n * r ≤ 3325537728000 := by
  refine ⟨Int.mul_nonneg h1 (by omega), ?_⟩
  have := Int.mul_le_mul h2 h3.2 (by omega) (show (0 : Int) ≤ 17320509 by omega)
  omega
def nuL (a b : PlaceD) (x : SndD) : Int := ((farL a b * x.1) / x.2.1 + 500) / 1000
def nuU (a b : PlaceD) (x : SndD) : Int := (cl (farU a b * x.1) x.2.1 + 500) / 1000
@[reducible] def sNums : Spec := { pats := [.dat WayT, .dat PairT], res := [{ t := RangeT }], pre := fun x => pWX x.1 x.2.1, f := fun x => ((nuL x.1.1 x.1.2.1 x.2.1, nuU x.1.1 x.1.2.1 x.2.1, ()), ()) }
@[reducible] def sNearest : Spec := { pats := [.dat I64], res := [{ t := I64 }], pre := fun x => pNs x.1, f := fun x => ((x.1 + 500) / 1000, ()) }
theorem h137 : Ok 137 sNearest := by
  refine mk (ctr := []) trivial (nt := 6) Tryz.func137 rfl rfl rfl rfl (by kernel_rfl) (by kernel_rfl) (fun _ => []) ?_
  rintro ⟨(n : Int), _⟩ ⟨(h1 : 0 ≤ n), (h2 : n ≤ 1000000000000000000)⟩
  have e1 : (n + 500).tdiv 1000 = (n + 500) / 1000 := Int.tdiv_eq_ediv_of_nonneg (by omega)
  repeat' (intro hzz; (try (rename Two => hq; cases hq)); (try dsimp only at hzz); (try simp only [resTy, argTy, eqD, inR, big, wantOf, zB] at hzz); (try simp only [resTy, argTy, eqD, inR, big, wantOf, zB, sqW, sqP, farL, farU, e1] at hzz); (try (revert hzz; intro _)))
  all_goals try (rename Unit => hq; clear hq)
  all_goals try ((with_reducible refine Held.mk ?_); (with_reducible (first | refine Frz.mk ?_ | refine And.intro (Frz.mk ?_) ?_ | refine And.intro ?_ (Frz.mk ?_))); repeat' first | exact True.intro | (change _ = _; with_reducible rfl) | refine And.intro ?_ ?_ | (with_reducible refine Frz.mk ?_))
  all_goals try (refine Held.mk ?_; (try dsimp only at *); (try simp only [resTy, argTy, eqD, inR, big, wantOf, zB] at *); (try simp only [resTy, argTy, eqD, inR, big, wantOf, zB, sqW, sqP, farL, farU, e1] at *))
  all_goals try omega
theorem h77 : Ok 77 sNums := by
  refine mk (ctr := [(135, sFar), (136, sAbove), (137, sNearest)]) ⟨h135, h136, h137, trivial⟩ (nt := 30) Tryz.func77 rfl rfl rfl rfl (by kernel_rfl) (by kernel_rfl) (fun _ => []) ?_
  rintro ⟨⟨(a : PlaceD), (b : PlaceD), _⟩, ⟨(r : Int), (v : Int), _⟩, _⟩ ⟨⟨(ha : inP a), (hb : inP b)⟩, (hx : (8000 ≤ r ∧ r ≤ 192000) ∧ (30000 ≤ v ∧ v ≤ 40000))⟩
  have h1 := far_bd ha hb
  have h2 := fr_bd (n := farL a b) (r := r) (by omega) (by omega) hx.1
  have h3 := fr_bd (n := farU a b) (r := r) (by omega) (by omega) hx.1
  have e1 : (farL a b * r).tdiv v = (farL a b * r) / v := Int.tdiv_eq_ediv_of_nonneg h2.1
  have h4 := div_bd (b := v) h2.1 (by omega)
  have h5 := cl_bd (b := v) h3.1 (by omega)
  repeat' (intro hzz; (try (rename Two => hq; cases hq)); (try dsimp only at hzz); (try simp only [resTy, argTy, eqD, inR, big, wantOf, zB] at hzz); (try simp only [resTy, argTy, eqD, inR, big, wantOf, zB, sqW, sqP, farL, farU, pAb, pNs, e1] at hzz); (try (revert hzz; intro _)))
  all_goals try (rename Unit => hq; clear hq)
  all_goals try ((with_reducible refine Held.mk ?_); (with_reducible (first | refine Frz.mk ?_ | refine And.intro (Frz.mk ?_) ?_ | refine And.intro ?_ (Frz.mk ?_))); repeat' first | exact True.intro | (change _ = _; with_reducible rfl) | refine And.intro ?_ ?_ | (with_reducible refine Frz.mk ?_))
  all_goals try (refine Held.mk ?_; (try dsimp only at *); (try simp only [resTy, argTy, eqD, inR, big, wantOf, zB] at *); (try simp only [resTy, argTy, eqD, inR, big, wantOf, zB, sqW, sqP, farL, farU, pAb, pNs, e1] at *))
  all_goals first | omega | exact ⟨ha, hb⟩ | exact ⟨rfl, rfl⟩ | trace_state
def stL (a b : PlaceD) : Int := 1000000000 / farU a b
def stU (a b : PlaceD) : Int := cl 1000000000 (farL a b)
@[reducible] def pWN (w : WayT.Den) : Prop := (inP w.1 ∧ inP w.2.1) ∧ 100 ≤ sqP w.1 w.2.1
@[reducible] def sStr : Spec := { pats := [.dat WayT], res := [{ t := RangeT }], pre := fun x => pWN x.1, f := fun x => ((stL x.1.1 x.1.2.1, stU x.1.1 x.1.2.1, ()), ()) }
theorem h79 : Ok 79 sStr := by
  refine mk (ctr := [(135, sFar), (136, sAbove)]) ⟨h135, h136, trivial⟩ (nt := 13) Tryz.func79 rfl rfl rfl rfl (by kernel_rfl) (by kernel_rfl) (fun _ => []) ?_
  rintro ⟨⟨(a : PlaceD), (b : PlaceD), _⟩, _⟩ ⟨⟨(ha : inP a), (hb : inP b)⟩, (hn : 100 ≤ sqP a b)⟩
  have h1 := far_bd ha hb
  have h2 := far_ge ha hb hn
  have e1 : (1000000000 : Int).tdiv (farU a b) = 1000000000 / farU a b := Int.tdiv_eq_ediv_of_nonneg (by decide)
  have h4 := div_bd (n := 1000000000) (b := farU a b) (by omega) (by omega)
  repeat' (intro hzz; (try (rename Two => hq; cases hq)); (try dsimp only at hzz); (try simp only [resTy, argTy, eqD, inR, big, wantOf, zB] at hzz); (try simp only [resTy, argTy, eqD, inR, big, wantOf, zB, sqW, sqP, farL, farU, pAb, pNs, e1] at hzz); (try (revert hzz; intro _)))
  all_goals try (rename Unit => hq; clear hq)
  all_goals try ((with_reducible refine Held.mk ?_); (with_reducible (first | refine Frz.mk ?_ | refine And.intro (Frz.mk ?_) ?_ | refine And.intro ?_ (Frz.mk ?_))); repeat' first | exact True.intro | (change _ = _; with_reducible rfl) | refine And.intro ?_ ?_ | (with_reducible refine Frz.mk ?_))
  all_goals try (refine Held.mk ?_; (try dsimp only at *); (try simp only [resTy, argTy, eqD, inR, big, wantOf, zB] at *); (try simp only [resTy, argTy, eqD, inR, big, wantOf, zB, sqW, sqP, farL, farU, pAb, pNs, e1] at *))
  all_goals first | omega | exact ⟨ha, hb⟩ | exact ⟨rfl, rfl⟩ | trace_state
theorem sqW_near {a b : PlaceD} (ha : inP a) (hb : inP b) : nearB a b = decide (sqP a b < 100) := by
  unfold nearB; rw [sqW_eq ha hb]
theorem first3 {a b x : Int} (h : firstI [a, b, x] = 0) : a = 0 ∧ b = 0 ∧ x = 0 := by
  simp only [firstI] at h
  split at h
  · split at h
    · split at h
      · exact ⟨by assumption, by assumption, by assumption⟩
      · exact absurd h (by assumption)
    · exact absurd h (by assumption)
  · exact absurd h (by assumption)
theorem first2 {a b : Int} (h : firstI [a, b] = 0) : a = 0 ∧ b = 0 := by
  simp only [firstI] at h
  split at h
  · split at h
    · exact ⟨by assumption, by assumption⟩
    · exact absurd h (by assumption)
  · exact absurd h (by assumption)
def err3 (a b : PlaceD) (x : SndD) : Int := firstI [plErr a.1 a.2.1 a.2.2.1, plErr b.1 b.2.1 b.2.2.1, soErr x.1 x.2.1]
def err2 (a b : PlaceD) : Int := firstI [plErr a.1 a.2.1 a.2.2.1, plErr b.1 b.2.1 b.2.2.1]
abbrev RngD : Type := RangeT.Den
def trvR (a b : PlaceD) (x : SndD) : RngD × Int × Unit := if err3 a b x = 0 then ((trL a b x, trU a b x, ()), 0, ()) else ((0, 0, ()), err3 a b x, ())
def nusR (a b : PlaceD) (x : SndD) : RngD × Int × Unit := if err3 a b x = 0 then ((nuL a b x, nuU a b x, ()), 0, ()) else ((0, 0, ()), err3 a b x, ())
def strR (a b : PlaceD) : RngD × Int × Unit := if err2 a b = 0 then (if sqP a b < 100 then ((0, 0, ()), 11, ()) else ((stL a b, stU a b, ()), 0, ())) else ((0, 0, ()), err2 a b, ())
@[reducible] def sTravel : Spec := { pats := [.dat PlaceT, .dat PlaceT, .dat PairT], res := [{ t := RangeT }, { t := I64 }], pre := fun _ => True, f := fun x => trvR x.1 x.2.1 x.2.2.1 }
@[reducible] def sNumbersOf : Spec := { sTravel with f := fun x => nusR x.1 x.2.1 x.2.2.1 }
@[reducible] def sStrength : Spec := { pats := [.dat PlaceT, .dat PlaceT], res := [{ t := RangeT }, { t := I64 }], pre := fun _ => True, f := fun x => strR x.1 x.2.1 }
theorem h16 : Ok 16 sNumbersOf := by
  refine mk (ctr := [(73, sFirst), (74, sPlace), (75, sSound), (77, sNums)]) ⟨h73, h74, h75, h77, trivial⟩ (nt := 26) Tryz.func16 rfl rfl rfl rfl (by kernel_rfl) (by kernel_rfl) (fun _ => []) ?_
  rintro ⟨(a : PlaceD), (b : PlaceD), (x : SndD), _⟩ _
  repeat' (intro hzz; (try (rename Two => hq; cases hq)); (try dsimp only at hzz); (try simp only [resTy, argTy, eqD, inR, big, wantOf, zB] at hzz); (try simp only [resTy, argTy, eqD, inR, big, wantOf, zB, sqW, sqP, farL, farU, pAb, pNs] at hzz); (try (revert hzz; intro _)))
  all_goals try (rename Unit => hq; clear hq)
  all_goals try ((with_reducible refine Held.mk ?_); (with_reducible (first | refine Frz.mk ?_ | refine And.intro (Frz.mk ?_) ?_ | refine And.intro ?_ (Frz.mk ?_))); repeat' first | exact True.intro | (change _ = _; with_reducible rfl) | refine And.intro ?_ ?_ | (with_reducible refine Frz.mk ?_))
  all_goals try (refine Held.mk ?_; (try dsimp only at *); (try simp only [resTy, argTy, eqD, inR, big, wantOf, zB] at *); (try simp only [resTy, argTy, eqD, inR, big, wantOf, zB, sqW, sqP, farL, farU, pAb, pNs] at *))
  all_goals first | (show ((3 : Nat) : Int) ≤ 4611686018427387904; decide) | (rename_i h; have e : nusR a b x = ((0, 0, ()), err3 a b x, ()) := if_neg h; rw [e]; exact ⟨⟨rfl, rfl⟩, rfl⟩) | (rename_i h; obtain ⟨e1, e2, e3⟩ := first3 h; exact ⟨⟨inP_of e1, inP_of e2⟩, inS_of e3⟩) | (rename_i h; have e : nusR a b x = ((nuL a b x, nuU a b x, ()), 0, ()) := if_pos h; rw [e]; exact ⟨⟨rfl, rfl⟩, rfl⟩) | trace_state
theorem str_1 {a b : PlaceD} (h : ¬ err2 a b = 0) : strR a b = ((0, 0, ()), err2 a b, ()) := if_neg h
theorem near_2 {a b : PlaceD} (h : err2 a b = 0) : (inP a ∧ inP b) ∧ nearB a b = decide (sqP a b < 100) := by
  obtain ⟨e1, e2⟩ := first2 h
  exact ⟨⟨inP_of e1, inP_of e2⟩, sqW_near (inP_of e1) (inP_of e2)⟩
theorem str_2 {a b : PlaceD} (h : err2 a b = 0) (hn : nearB a b = true) : strR a b = ((0, 0, ()), 11, ()) := by
  have h1 : sqP a b < 100 := by rw [(near_2 h).2] at hn; exact of_decide_eq_true hn
  unfold strR; rw [if_pos h, if_pos h1]
theorem near_3 {a b : PlaceD} (h : err2 a b = 0) (hn : nearB a b = false) : 100 ≤ sqP a b := by
  have h1 : ¬ sqP a b < 100 := by rw [(near_2 h).2] at hn; exact of_decide_eq_false hn
  omega
theorem str_3 {a b : PlaceD} (h : err2 a b = 0) (hn : nearB a b = false) : strR a b = ((stL a b, stU a b, ()), 0, ()) := by
  have h1 := near_3 h hn
  unfold strR; rw [if_pos h, if_neg (by omega)]
theorem h17 : Ok 17 sStrength := by
  refine mk (ctr := [(73, sFirst), (74, sPlace), (78, sNear), (79, sStr)]) ⟨h73, h74, h78, h79, trivial⟩ (nt := 26) Tryz.func17 rfl rfl rfl rfl (by kernel_rfl) (by kernel_rfl) (fun _ => []) ?_
  rintro ⟨(a : PlaceD), (b : PlaceD), _⟩ _
  repeat' (intro hzz; (try (rename Two => hq; cases hq)); (try dsimp only at hzz); (try simp only [resTy, argTy, eqD, inR, big, wantOf, zB] at hzz); (try simp only [resTy, argTy, eqD, inR, big, wantOf, zB, sqW, sqP, farL, farU, pAb, pNs] at hzz); (try (revert hzz; intro _)))
  all_goals try (rename Unit => hq; clear hq)
  all_goals try ((with_reducible refine Held.mk ?_); (with_reducible (first | refine Frz.mk ?_ | refine And.intro (Frz.mk ?_) ?_ | refine And.intro ?_ (Frz.mk ?_))); repeat' first | exact True.intro | (change _ = _; with_reducible rfl) | refine And.intro ?_ ?_ | (with_reducible refine Frz.mk ?_))
  all_goals try (refine Held.mk ?_; (try dsimp only at *); (try simp only [resTy, argTy, eqD, inR, big, wantOf, zB] at *); (try simp only [resTy, argTy, eqD, inR, big, wantOf, zB, sqW, sqP, farL, farU, pAb, pNs] at *))
  all_goals first | (show ((2 : Nat) : Int) ≤ 4611686018427387904; decide) | (rename_i h; rw [str_1 (a := a) (b := b) h]; exact ⟨⟨rfl, rfl⟩, rfl⟩) | (rename_i h hn; rw [str_2 (a := a) (b := b) h hn]; exact ⟨⟨rfl, rfl⟩, rfl⟩) | (rename_i h hn; exact ⟨(near_2 (a := a) (b := b) h).1, near_3 (a := a) (b := b) h hn⟩) | (rename_i h hn; rw [str_3 (a := a) (b := b) h hn]; exact ⟨⟨rfl, rfl⟩, rfl⟩) | trace_state
end Go.Eng.Ar

namespace Go.Eng.Ar
open Go.Eng Go.Proofs
set_option linter.all false
set_option maxRecDepth 100000
set_option maxHeartbeats 8000000
theorem tdiv_neg {n b : Int} (hb : 0 < b) (h : n.tmod b < 0) : n.tdiv b - 1 = n / b := by
  have h1 := Int.tmod_eq_emod (a := n) (b := b)
  have h2 := Int.tdiv_eq_ediv (a := n) (b := b)
  have h3 := Int.emod_nonneg n (show b ≠ 0 by omega)
  split at h1
  · omega
  · rename_i hc
    rw [if_neg hc] at h2
    have : b.sign = 1 := Int.sign_eq_one_of_pos hb
    omega
theorem tdiv_pos {n b : Int} (hb : 0 < b) (h : 0 ≤ n.tmod b) : n.tdiv b = n / b := by
  have h1 := Int.tmod_eq_emod (a := n) (b := b)
  have h2 := Int.tdiv_eq_ediv (a := n) (b := b)
  have h3 := Int.emod_lt_of_pos n hb
  split at h1
  · rename_i hc
    rw [if_pos hc] at h2
    omega
  · omega
theorem tdiv_in {n b : Int} (h1 : -9000000000000000000 ≤ n) (h2 : n ≤ 9000000000000000000) : -9000000000000000000 ≤ n.tdiv b ∧ n.tdiv b ≤ 9000000000000000000 := by
  have h3 := Int.natAbs_tdiv_le_natAbs n b
  omega
theorem div_in {n b : Int} (hb : 0 < b) (h1 : -9000000000000000000 ≤ n) (h2 : n ≤ 9000000000000000000) : -9000000000000000001 ≤ n / b ∧ n / b ≤ 9000000000000000000 := by
  have h3 := tdiv_in (b := b) h1 h2
  by_cases h : n.tmod b < 0
  · rw [← tdiv_neg hb h]; omega
  · rw [← tdiv_pos hb (by omega)]; omega
abbrev pFloor (n b : Int) : Prop := 0 < b ∧ -9000000000000000000 ≤ n ∧ n ≤ 9000000000000000000
abbrev fFloor (n b : Int) : Int := n / b
@[reducible] def sFloor : Spec := { pats := [.dat I64, .dat I64], res := [{ t := I64 }], pre := fun x => pFloor x.1 x.2.1, f := fun x => (fFloor x.1 x.2.1, ()) }
theorem h82 : Ok 82 sFloor := by
  refine mk (ctr := []) trivial (nt := 16) Tryz.func82 rfl rfl rfl rfl (by kernel_rfl) (by kernel_rfl) (fun _ => []) ?_
  rintro ⟨(n : Int), (b : Int), _⟩ ⟨h1, h2, h3⟩
  repeat' (intro hzz; (try (rename Two => hq; cases hq)); (try dsimp only at hzz); (try simp only [resTy, argTy, eqD, inR, big, wantOf, zB] at hzz); (try simp only [resTy, argTy, eqD, inR, big, wantOf, zB, pFloor, fFloor] at hzz); (try (revert hzz; intro _)))
  all_goals try (rename Unit => hq; clear hq)
  all_goals try ((with_reducible refine Held.mk ?_); (with_reducible (first | refine Frz.mk ?_ | refine And.intro (Frz.mk ?_) ?_ | refine And.intro ?_ (Frz.mk ?_))); repeat' first | exact True.intro | (change _ = _; with_reducible rfl) | refine And.intro ?_ ?_ | (with_reducible refine Frz.mk ?_))
  all_goals try (refine Held.mk ?_; (try dsimp only at *); (try simp only [resTy, argTy, eqD, inR, big, wantOf, zB] at *); (try simp only [resTy, argTy, eqD, inR, big, wantOf, zB, pFloor, fFloor] at *))
  all_goals have hd := tdiv_in (b := b) h2 h3
  · omega
  · omega
  · omega
  · rename_i h; exact tdiv_neg h1 h
  · rename_i h; exact tdiv_pos h1 h
@[reducible] def sCeil : Spec := { sFloor with f := fun x => (cl x.1 x.2.1, ()) }
theorem h83 : Ok 83 sCeil := by
  refine mk (ctr := [(82, sFloor)]) ⟨h82, trivial⟩ (nt := 10) Tryz.func83 rfl rfl rfl rfl (by kernel_rfl) (by kernel_rfl) (fun _ => []) ?_
  rintro ⟨(n : Int), (b : Int), _⟩ ⟨h1, h2, h3⟩
  repeat' (intro hzz; (try (rename Two => hq; cases hq)); (try dsimp only at hzz); (try simp only [resTy, argTy, eqD, inR, big, wantOf, zB] at hzz); (try simp only [resTy, argTy, eqD, inR, big, wantOf, zB, pFloor, fFloor, cl] at hzz); (try (revert hzz; intro _)))
  all_goals try (rename Unit => hq; clear hq)
  all_goals try ((with_reducible refine Held.mk ?_); (with_reducible (first | refine Frz.mk ?_ | refine And.intro (Frz.mk ?_) ?_ | refine And.intro ?_ (Frz.mk ?_))); repeat' first | exact True.intro | (change _ = _; with_reducible rfl) | refine And.intro ?_ ?_ | (with_reducible refine Frz.mk ?_))
  all_goals try (refine Held.mk ?_; (try dsimp only at *); (try simp only [resTy, argTy, eqD, inR, big, wantOf, zB] at *); (try simp only [resTy, argTy, eqD, inR, big, wantOf, zB, pFloor, fFloor, cl] at *))
  all_goals have hd := div_in (n := -n) h1 (by omega) (by omega)
  all_goals omega
def bitI (k : Nat) : Int := ((2 ^ k / 2 : Nat) : Int)
def rootAnnB (n : Int) : LoopAnn := { σ := Nat × Nat, pat := fun s => [sI 3 s.2, sI 4 (bitI s.1)], inv := fun s => rtGo s.1 s.2 n.toNat = rt n.toNat ∧ s.1 ≤ 31 ∧ s.2 + 2 ^ s.1 ≤ 2147483648, meas := fun s => s.1 }
@[reducible] def sRootB : Spec := { pats := [.dat I64], res := [{ t := I64 }], pre := fun x => pRoot x.1, f := fun x => (rtI x.1, ()) }
theorem bit_succ (k : Nat) : bitI (k + 1) = (2 ^ k : Nat) := by
  simp only [bitI]
  rw [Nat.pow_succ, Nat.mul_div_cancel _ (by decide)]
abbrev rootInv (n : Int) (k r : Nat) : Prop := rtGo k r n.toNat = rt n.toNat ∧ k ≤ 31 ∧ r + 2 ^ k ≤ 2147483648
theorem root_step {n : Int} (hn : 0 ≤ n) {k r : Nat} (h : rootInv n k r) (hb : 0 < bitI k) : ∃ j p : Nat, k = j + 1 ∧ bitI k = p ∧ (bitI k).tdiv 2 = bitI j ∧ 1 ≤ p ∧ p ≤ 1073741824 ∧ r + 2 * p ≤ 2147483648 ∧
    (((r : Int) + p) * ((r : Int) + p) ≤ n → rootInv n j (r + p)) ∧ (n < ((r : Int) + p) * ((r : Int) + p) → rootInv n j r) := by
  obtain ⟨h1, h2, h3⟩ := h
  cases k with
  | zero => simp [bitI] at hb
  | succ j =>
    have hp := Nat.two_pow_pos j
    have hle : 2 ^ j ≤ 2 ^ 30 := Nat.pow_le_pow_right (by decide) (by omega)
    rw [Nat.pow_succ] at h3
    have hc : (((r + 2 ^ j) * (r + 2 ^ j) : Nat) : Int) = ((r : Int) + (2 ^ j : Nat)) * ((r : Int) + (2 ^ j : Nat)) := by push_cast; rfl
    have e3 : (bitI (j + 1)).tdiv 2 = bitI j := by
      rw [bit_succ, Int.tdiv_eq_ediv_of_nonneg (by omega)]
      simp only [bitI]; omega
    simp only [rtGo] at h1
    refine ⟨j, 2 ^ j, rfl, bit_succ j, e3, hp, by simpa using hle, by omega, fun hx => ?_, fun hx => ?_⟩
    · have : Nat.ble ((r + 2 ^ j) * (r + 2 ^ j)) n.toNat = true := Nat.ble_eq_true_of_le (by omega)
      rw [this] at h1
      exact ⟨h1, by omega, by omega⟩
    · have : Nat.ble ((r + 2 ^ j) * (r + 2 ^ j)) n.toNat = false := by
        cases hb : Nat.ble ((r + 2 ^ j) * (r + 2 ^ j)) n.toNat with
        | false => rfl
        | true => have := Nat.le_of_ble_eq_true hb; omega
      rw [this] at h1
      exact ⟨h1, by omega, by omega⟩
theorem sq_le2 {x B : Int} (h1 : 0 ≤ x) (h2 : x ≤ B) : 0 ≤ x * x ∧ x * x ≤ B * B := ⟨Int.mul_nonneg h1 h1, Int.mul_le_mul h2 h2 h1 (by omega)⟩
theorem h122 : Ok 122 sRootB := by
  refine mk (ctr := []) trivial (nt := 22) Tryz.func122 rfl rfl rfl rfl (by kernel_rfl) (by kernel_rfl) (fun x => [fun _ => rootAnnB x.1]) ?_
  rintro ⟨(n : Int), _⟩ (hn' : pRoot n)
  have hn := hn'.1
  repeat' (intro hzz; (try (rename Two => hq; cases hq)); (try dsimp only at hzz); (try simp only [resTy, argTy, eqD, inR, big, wantOf, zB] at hzz); (try (revert hzz; intro _)))
  all_goals try (rename Unit => hq; clear hq)
  all_goals try ((with_reducible refine Held.mk ?_); (with_reducible (first | refine Frz.mk ?_ | refine And.intro (Frz.mk ?_) ?_ | refine And.intro ?_ (Frz.mk ?_))); repeat' first | exact True.intro | (change _ = _; with_reducible rfl) | refine And.intro ?_ ?_ | (with_reducible refine Frz.mk ?_))
  all_goals try (refine Held.mk ?_; (try dsimp only at *); (try simp only [resTy, argTy, eqD, inR, big, wantOf, zB] at *))
  all_goals try omega
  ·
    refine GHeld.mk ?_
    refine Exists.intro (31, 0) ?_
    refine And.intro (Leaf.mk ?_) ?_
    · repeat' first | exact True.intro | refine And.intro ?_ ?_
      all_goals try ((change _ = _ <;> try dsimp only) <;> try with_reducible rfl)
      all_goals try omega
      all_goals (rfl)
    exact ⟨rfl, by decide, by decide⟩
  all_goals try
    (rename_i s h1 h2
     obtain ⟨k, r⟩ := s
     obtain ⟨j, p, g1, g2, g3, g4, g5, g6, g7, g8⟩ := root_step hn h1 h2
     dsimp only at *
     rw [g2]
     have := sq_le2 (x := (r : Int) + p) (B := 2147483648) (by omega) (by omega)
     omega)
  all_goals try
    (rename_i s h1 h2 h3
     obtain ⟨k, r⟩ := s
     obtain ⟨j, p, g1, g2, g3, g4, g5, g6, g7, g8⟩ := root_step hn h1 h2
     dsimp only at *
     try rw [g3]
     try rw [g2]
     have e0 : bitI j = (p : Int).tdiv 2 := by rw [← g3, g2]
     rw [Int.tdiv_eq_ediv_of_nonneg (by omega)] at e0
     try rw [e0]
     omega)
  · rename_i s h1 h2 h3
    obtain ⟨k, r⟩ := s
    obtain ⟨j, p, g1, g2, g3, g4, g5, g6, g7, g8⟩ := root_step hn h1 h2
    dsimp only at h3
    rw [g2] at h3
    have e1 : (r : Int) + bitI k = ((r + p : Nat) : Int) := by rw [g2]; push_cast; rfl
    refine GHeld.mk ?_
    refine Exists.intro (j, r + p) ?_
    refine And.intro (Leaf.mk ?_) ?_
    · repeat' first | exact True.intro | refine And.intro ?_ ?_
      all_goals try ((change _ = _ <;> try dsimp only) <;> try with_reducible rfl)
      all_goals try omega
      all_goals (first | exact e1 | exact g3)
    exact ⟨g7 h3, by subst g1; exact Nat.lt_succ_self j⟩
  · rename_i s h1 h2 h3
    obtain ⟨k, r⟩ := s
    obtain ⟨j, p, g1, g2, g3, g4, g5, g6, g7, g8⟩ := root_step hn h1 h2
    dsimp only at h3
    rw [g2] at h3
    refine GHeld.mk ?_
    refine Exists.intro (j, r) ?_
    refine And.intro (Leaf.mk ?_) ?_
    · repeat' first | exact True.intro | refine And.intro ?_ ?_
      all_goals try ((change _ = _ <;> try dsimp only) <;> try with_reducible rfl)
      all_goals try omega
      all_goals (exact g3)
    exact ⟨g8 h3, by subst g1; exact Nat.lt_succ_self j⟩
  · rename_i s h1 h2
    obtain ⟨k, r⟩ := s
    obtain ⟨g1, g2, g3⟩ := h1
    dsimp only at *
    have hk : k = 0 := by
      cases k with
      | zero => rfl
      | succ j => rw [bit_succ] at h2; have := Nat.two_pow_pos j; omega
    subst hk
    simp only [rtI, ← g1, rtGo]
@[reducible] def sRootUpB : Spec := { sRootB with f := fun x => (rtU x.1, ()) }
theorem h123 : Ok 123 sRootUpB := by
  refine mk (ctr := [(122, sRootB)]) ⟨h122, trivial⟩ (nt := 14) Tryz.func123 rfl rfl rfl rfl (by kernel_rfl) (by kernel_rfl) (fun _ => []) ?_
  rintro ⟨(n : Int), _⟩ (hn : pRoot n)
  have h1 := rtI_spec hn
  have h2 : 0 ≤ rtI n * rtI n := Int.mul_nonneg h1.1 h1.1
  have h3 := hn.2
  repeat' (intro hzz; (try (rename Two => hq; cases hq)); (try dsimp only at hzz); (try simp only [resTy, argTy, eqD, inR, big, wantOf, zB] at hzz); (try simp only [resTy, argTy, eqD, inR, big, wantOf, zB, pRoot] at hzz); (try (revert hzz; intro _)))
  all_goals try (rename Unit => hq; clear hq)
  all_goals try ((with_reducible refine Held.mk ?_); (with_reducible (first | refine Frz.mk ?_ | refine And.intro (Frz.mk ?_) ?_ | refine And.intro ?_ (Frz.mk ?_))); repeat' first | exact True.intro | (change _ = _; with_reducible rfl) | refine And.intro ?_ ?_ | (with_reducible refine Frz.mk ?_))
  all_goals try (refine Held.mk ?_; (try dsimp only at *); (try simp only [resTy, argTy, eqD, inR, big, wantOf, zB] at *); (try simp only [resTy, argTy, eqD, inR, big, wantOf, zB, pRoot] at *))
  all_goals first | exact hn | omega | (simp only [rtU]; split <;> omega) | trace_state
theorem h18 : Ok 18 sPlace := by
  refine mk (ctr := [(29, sWithin)]) ⟨h29, trivial⟩ (nt := 19) Tryz.func18 rfl rfl rfl rfl (by kernel_rfl) (by kernel_rfl) (fun _ => []) ?_
  rintro ⟨⟨(x : Int), (y : Int), (z : Int), _⟩, _⟩ _
  repeat' (intro hzz; (try (rename Two => hq; cases hq)); (try dsimp only at hzz); (try simp only [resTy, argTy, eqD, inR, big, wantOf, zB] at hzz); (try simp only [resTy, argTy, eqD, inR, big, wantOf, zB, fWithin] at hzz); (try (revert hzz; intro _)))
  all_goals try (rename Unit => hq; clear hq)
  all_goals try ((with_reducible refine Held.mk ?_); (with_reducible (first | refine Frz.mk ?_ | refine And.intro (Frz.mk ?_) ?_ | refine And.intro ?_ (Frz.mk ?_))); repeat' first | exact True.intro | (change _ = _; with_reducible rfl) | refine And.intro ?_ ?_ | (with_reducible refine Frz.mk ?_))
  all_goals try (refine Held.mk ?_; (try dsimp only at *); (try simp only [resTy, argTy, eqD, inR, big, wantOf, zB] at *); (try simp only [resTy, argTy, eqD, inR, big, wantOf, zB, fWithin] at *))
  all_goals try omega
  all_goals (simp only [plErr]; split <;> first | rfl | (exfalso; omega) | (rw [decide_eq_true (by omega)]; rfl) | (rw [decide_eq_false (by omega)]; rfl))
theorem h21 : Ok 21 sSound := by
  refine mk (ctr := [(29, sWithin)]) ⟨h29, trivial⟩ (nt := 13) Tryz.func21 rfl rfl rfl rfl (by kernel_rfl) (by kernel_rfl) (fun _ => []) ?_
  rintro ⟨⟨(x : Int), (y : Int), _⟩, _⟩ _
  repeat' (intro hzz; (try (rename Two => hq; cases hq)); (try dsimp only at hzz); (try simp only [resTy, argTy, eqD, inR, big, wantOf, zB] at hzz); (try simp only [resTy, argTy, eqD, inR, big, wantOf, zB, fWithin] at hzz); (try (revert hzz; intro _)))
  all_goals try (rename Unit => hq; clear hq)
  all_goals try ((with_reducible refine Held.mk ?_); (with_reducible (first | refine Frz.mk ?_ | refine And.intro (Frz.mk ?_) ?_ | refine And.intro ?_ (Frz.mk ?_))); repeat' first | exact True.intro | (change _ = _; with_reducible rfl) | refine And.intro ?_ ?_ | (with_reducible refine Frz.mk ?_))
  all_goals try (refine Held.mk ?_; (try dsimp only at *); (try simp only [resTy, argTy, eqD, inR, big, wantOf, zB] at *); (try simp only [resTy, argTy, eqD, inR, big, wantOf, zB, fWithin] at *))
  all_goals try omega
  all_goals (simp only [soErr]; split <;> first | rfl | (exfalso; omega) | (rw [decide_eq_true (by omega)]; rfl) | (rw [decide_eq_false (by omega)]; rfl))
theorem h92 : Ok 92 sGains := by
  refine mk (ctr := [(29, sWithin)]) ⟨h29, trivial⟩ (nt := 13) Tryz.func92 rfl rfl rfl rfl (by kernel_rfl) (by kernel_rfl) (fun _ => []) ?_
  rintro ⟨(x : Int), (y : Int), _⟩ _
  repeat' (intro hzz; (try (rename Two => hq; cases hq)); (try dsimp only at hzz); (try simp only [resTy, argTy, eqD, inR, big, wantOf, zB] at hzz); (try simp only [resTy, argTy, eqD, inR, big, wantOf, zB, fWithin] at hzz); (try (revert hzz; intro _)))
  all_goals try (rename Unit => hq; clear hq)
  all_goals try ((with_reducible refine Held.mk ?_); (with_reducible (first | refine Frz.mk ?_ | refine And.intro (Frz.mk ?_) ?_ | refine And.intro ?_ (Frz.mk ?_))); repeat' first | exact True.intro | (change _ = _; with_reducible rfl) | refine And.intro ?_ ?_ | (with_reducible refine Frz.mk ?_))
  all_goals try (refine Held.mk ?_; (try dsimp only at *); (try simp only [resTy, argTy, eqD, inR, big, wantOf, zB] at *); (try simp only [resTy, argTy, eqD, inR, big, wantOf, zB, fWithin] at *))
  all_goals try omega
  all_goals (simp only [gnErr]; split <;> first | rfl | (exfalso; omega) | (rw [decide_eq_true (by omega)]; rfl) | (rw [decide_eq_false (by omega)]; rfl))
abbrev pPP (a b : PlaceD) : Prop := inP a ∧ inP b
@[reducible] def sSquareR : Spec := { pats := [.dat PlaceT, .dat PlaceT], res := [{ t := I64 }], pre := fun x => pPP x.1 x.2.1, f := fun x => (sqP x.1 x.2.1, ()) }
theorem h80 : Ok 80 sSquareR := by
  refine mk (ctr := []) trivial (nt := 34) Tryz.func80 rfl rfl rfl rfl (by kernel_rfl) (by kernel_rfl) (fun _ => []) ?_
  rintro ⟨(a : PlaceD), (b : PlaceD), _⟩ ⟨ha, hb⟩
  have h1 := dP_bd ha.1 hb.1
  have h2 := dP_bd ha.2.1 hb.2.1
  have h3 := dP_bd ha.2.2 hb.2.2
  obtain ⟨⟨a1, a2⟩, ⟨a3, a4⟩, ⟨a5, a6⟩⟩ := ha
  obtain ⟨⟨b1, b2⟩, ⟨b3, b4⟩, ⟨b5, b6⟩⟩ := hb
  unfold dP at *
  repeat' (intro hzz; (try (rename Two => hq; cases hq)); (try dsimp only at hzz); (try simp only [resTy, argTy, eqD, inR, big, wantOf, zB] at hzz); (try simp only [resTy, argTy, eqD, inR, big, wantOf, zB, sqP, sqC, dP] at hzz); (try (revert hzz; intro _)))
  all_goals try (rename Unit => hq; clear hq)
  all_goals try ((with_reducible refine Held.mk ?_); (with_reducible (first | refine Frz.mk ?_ | refine And.intro (Frz.mk ?_) ?_ | refine And.intro ?_ (Frz.mk ?_))); repeat' first | exact True.intro | (change _ = _; with_reducible rfl) | refine And.intro ?_ ?_ | (with_reducible refine Frz.mk ?_))
  all_goals try (refine Held.mk ?_; (try dsimp only at *); (try simp only [resTy, argTy, eqD, inR, big, wantOf, zB] at *); (try simp only [resTy, argTy, eqD, inR, big, wantOf, zB, sqP, sqC, dP] at *))
  all_goals first | omega | rfl | trace_state
@[reducible] def sNearR : Spec := { pats := [.dat PlaceT, .dat PlaceT], res := [{ t := .bool }], pre := fun x => pPP x.1 x.2.1, f := fun x => (nearB x.1 x.2.1, ()) }
theorem h19 : Ok 19 sNearR := by
  refine mk (ctr := [(80, sSquareR)]) ⟨h80, trivial⟩ (nt := 9) Tryz.func19 rfl rfl rfl rfl (by kernel_rfl) (by kernel_rfl) (fun _ => []) ?_
  rintro ⟨(a : PlaceD), (b : PlaceD), _⟩ ⟨ha, hb⟩
  have e := sqW_near ha hb
  repeat' (intro hzz; (try (rename Two => hq; cases hq)); (try dsimp only at hzz); (try simp only [resTy, argTy, eqD, inR, big, wantOf, zB] at hzz); (try simp only [resTy, argTy, eqD, inR, big, wantOf, zB, sqP] at hzz); (try (revert hzz; intro _)))
  all_goals try (rename Unit => hq; clear hq)
  all_goals try ((with_reducible refine Held.mk ?_); (with_reducible (first | refine Frz.mk ?_ | refine And.intro (Frz.mk ?_) ?_ | refine And.intro ?_ (Frz.mk ?_))); repeat' first | exact True.intro | (change _ = _; with_reducible rfl) | refine And.intro ?_ ?_ | (with_reducible refine Frz.mk ?_))
  all_goals try (refine Held.mk ?_; (try dsimp only at *); (try simp only [resTy, argTy, eqD, inR, big, wantOf, zB] at *); (try simp only [resTy, argTy, eqD, inR, big, wantOf, zB, sqP] at *))
  all_goals first | exact ⟨ha, hb⟩ | exact e.symm | trace_state
@[reducible] def sMilli : Spec := { pats := [.dat PlaceT, .dat PlaceT], res := [{ t := RangeT }], pre := fun x => pPP x.1 x.2.1, f := fun x => ((farL x.1 x.2.1, farU x.1 x.2.1, ()), ()) }
theorem h81 : Ok 81 sMilli := by
  refine mk (ctr := [(80, sSquareR), (122, sRootB), (123, sRootUpB)]) ⟨h80, h122, h123, trivial⟩ (nt := 15) Tryz.func81 rfl rfl rfl rfl (by kernel_rfl) (by kernel_rfl) (fun _ => []) ?_
  rintro ⟨(a : PlaceD), (b : PlaceD), _⟩ ⟨ha, hb⟩
  have h1 := sqP_bd ha hb
  have h2 := (farN_root ha hb).1
  have e : 1000000 * sqP a b = sqP a b * 1000 * 1000 := by omega
  have h3 : pRoot (sqP a b * 1000 * 1000) := h2
  repeat' (intro hzz; (try (rename Two => hq; cases hq)); (try dsimp only at hzz); (try simp only [resTy, argTy, eqD, inR, big, wantOf, zB] at hzz); (try simp only [resTy, argTy, eqD, inR, big, wantOf, zB, sqP, farL, farU, farLC, farUC] at hzz); (try (revert hzz; intro _)))
  all_goals try (rename Unit => hq; clear hq)
  all_goals try ((with_reducible refine Held.mk ?_); (with_reducible (first | refine Frz.mk ?_ | refine And.intro (Frz.mk ?_) ?_ | refine And.intro ?_ (Frz.mk ?_))); repeat' first | exact True.intro | (change _ = _; with_reducible rfl) | refine And.intro ?_ ?_ | (with_reducible refine Frz.mk ?_))
  all_goals try (refine Held.mk ?_; (try dsimp only at *); (try simp only [resTy, argTy, eqD, inR, big, wantOf, zB] at *); (try simp only [resTy, argTy, eqD, inR, big, wantOf, zB, sqP, farL, farU, farLC, farUC] at *))
  all_goals first | exact ⟨ha, hb⟩ | omega | (rw [e]; exact h3) | (rw [e]; exact ⟨rfl, rfl⟩) | trace_state
abbrev pPPX (a b : PlaceD) (x : SndD) : Prop := (inP a ∧ inP b) ∧ inS x
@[reducible] def sTravR : Spec := { pats := [.dat PlaceT, .dat PlaceT, .dat PairT], res := [{ t := RangeT }], pre := fun x => pPPX x.1 x.2.1 x.2.2.1, f := fun x => ((trL x.1 x.2.1 x.2.2.1, trU x.1 x.2.1 x.2.2.1, ()), ()) }
theorem h22 : Ok 22 sTravR := by
  refine mk (ctr := [(81, sMilli), (82, sFloor), (83, sCeil)]) ⟨h81, h82, h83, trivial⟩ (nt := 30) Tryz.func22 rfl rfl rfl rfl (by kernel_rfl) (by kernel_rfl) (fun _ => []) ?_
  rintro ⟨(a : PlaceD), (b : PlaceD), ⟨(r : Int), (v : Int), _⟩, _⟩ ⟨⟨(ha : inP a), (hb : inP b)⟩, (hx : (8000 ≤ r ∧ r ≤ 192000) ∧ (30000 ≤ v ∧ v ≤ 40000))⟩
  have h1 := far_bd ha hb
  have h2 := fr_bd (n := farL a b) (r := r) (by omega) (by omega) hx.1
  have h3 := fr_bd (n := farU a b) (r := r) (by omega) (by omega) hx.1
  repeat' (intro hzz; (try (rename Two => hq; cases hq)); (try dsimp only at hzz); (try simp only [resTy, argTy, eqD, inR, big, wantOf, zB] at hzz); (try simp only [resTy, argTy, eqD, inR, big, wantOf, zB, farL, farU, pFloor] at hzz); (try (revert hzz; intro _)))
  all_goals try (rename Unit => hq; clear hq)
  all_goals try ((with_reducible refine Held.mk ?_); (with_reducible (first | refine Frz.mk ?_ | refine And.intro (Frz.mk ?_) ?_ | refine And.intro ?_ (Frz.mk ?_))); repeat' first | exact True.intro | (change _ = _; with_reducible rfl) | refine And.intro ?_ ?_ | (with_reducible refine Frz.mk ?_))
  all_goals try (refine Held.mk ?_; (try dsimp only at *); (try simp only [resTy, argTy, eqD, inR, big, wantOf, zB] at *); (try simp only [resTy, argTy, eqD, inR, big, wantOf, zB, farL, farU, pFloor] at *))
  all_goals first | omega | exact ⟨ha, hb⟩ | exact ⟨rfl, rfl⟩ | trace_state
@[reducible] def sNumsR : Spec := { sTravR with f := fun x => ((nuL x.1 x.2.1 x.2.2.1, nuU x.1 x.2.1 x.2.2.1, ()), ()) }
theorem h23 : Ok 23 sNumsR := by
  refine mk (ctr := [(81, sMilli), (82, sFloor), (83, sCeil)]) ⟨h81, h82, h83, trivial⟩ (nt := 32) Tryz.func23 rfl rfl rfl rfl (by kernel_rfl) (by kernel_rfl) (fun _ => []) ?_
  rintro ⟨(a : PlaceD), (b : PlaceD), ⟨(r : Int), (v : Int), _⟩, _⟩ ⟨⟨(ha : inP a), (hb : inP b)⟩, (hx : (8000 ≤ r ∧ r ≤ 192000) ∧ (30000 ≤ v ∧ v ≤ 40000))⟩
  have h1 := far_bd ha hb
  have h2 := fr_bd (n := farL a b) (r := r) (by omega) (by omega) hx.1
  have h3 := fr_bd (n := farU a b) (r := r) (by omega) (by omega) hx.1
  have h4 := div_bd (b := v) h2.1 (by omega)
  have h5 := cl_bd (b := v) h3.1 (by omega)
  repeat' (intro hzz; (try (rename Two => hq; cases hq)); (try dsimp only at hzz); (try simp only [resTy, argTy, eqD, inR, big, wantOf, zB] at hzz); (try simp only [resTy, argTy, eqD, inR, big, wantOf, zB, farL, farU, pFloor, fFloor] at hzz); (try (revert hzz; intro _)))
  all_goals try (rename Unit => hq; clear hq)
  all_goals try ((with_reducible refine Held.mk ?_); (with_reducible (first | refine Frz.mk ?_ | refine And.intro (Frz.mk ?_) ?_ | refine And.intro ?_ (Frz.mk ?_))); repeat' first | exact True.intro | (change _ = _; with_reducible rfl) | refine And.intro ?_ ?_ | (with_reducible refine Frz.mk ?_))
  all_goals try (refine Held.mk ?_; (try dsimp only at *); (try simp only [resTy, argTy, eqD, inR, big, wantOf, zB] at *); (try simp only [resTy, argTy, eqD, inR, big, wantOf, zB, farL, farU, pFloor, fFloor] at *))
  all_goals first | omega | exact ⟨ha, hb⟩ | exact ⟨rfl, rfl⟩ | trace_state
end Go.Eng.Ar

namespace Go.Eng.Ar
open Go.Eng Go.Proofs
set_option linter.all false
set_option maxRecDepth 100000
set_option maxHeartbeats 8000000
def dropCol (c : Int) : Nat → List Int → List Int
  | _, [] => []
  | k, n :: r => if (k : Int) = c then dropCol c (k + 1) r else n :: dropCol c (k + 1) r
def dropRow (rw' c : Int) : Nat → List (List Int) → List (List Int)
  | _, [] => []
  | i, r :: t => if (i : Int) = rw' then dropRow rw' c (i + 1) t else dropCol c 0 r :: dropRow rw' c (i + 1) t
def sumD (f : List (List Int) → Int) (rows : List (List Int)) : Int → Nat → List Int → Int
  | _, _, [] => 0
  | sign, k, x :: r => sign * x * f (dropRow 0 k 0 rows) + sumD f rows (-sign) (k + 1) r
def detN : Nat → List (List Int) → Int
  | 0, _ => 1
  | n + 1, rows => sumD (detN n) rows 1 0 (rows.getD 0 [])
def sqMat (N : Nat) (rows : List (List Int)) : Prop := rows.length = N ∧ ∀ r ∈ rows, r.length = N ∧ ∀ x ∈ r, -2000 ≤ x ∧ x ≤ 2000
def detB : Nat → Int
  | 0 => 1
  | n + 1 => (n + 1) * (2000 * detB n)
theorem dropRow_succ (c : Int) : ∀ (t : List (List Int)) (i : Nat), dropRow 0 c (i + 1) t = t.map (dropCol c 0)
  | [], _ => rfl
  | r :: t, i => by
    have h : ¬ ((i + 1 : Nat) : Int) = 0 := by omega
    simp only [dropRow, if_neg h, List.map_cons, dropRow_succ c t (i + 1)]
theorem dropCol_len (c : Nat) : ∀ (row : List Int) (k : Nat), (dropCol c k row).length = if k ≤ c ∧ c < k + row.length then row.length - 1 else row.length
  | [], k => by simp [dropCol]
  | n :: r, k => by
    have ih := dropCol_len c r (k + 1)
    simp only [dropCol, List.length_cons]
    by_cases h : (k : Int) = c
    · rw [if_pos h, ih, if_neg (by omega), if_pos (by omega)]
      rfl
    · rw [if_neg h, List.length_cons, ih]
      by_cases h2 : k + 1 ≤ c ∧ c < k + 1 + r.length
      · rw [if_pos h2, if_pos (by omega)]
        omega
      · rw [if_neg h2, if_neg (by omega)]
theorem dropCol_mem (c : Int) : ∀ (row : List Int) (k : Nat) (x : Int), x ∈ dropCol c k row → x ∈ row
  | [], _, _, h => by simp [dropCol] at h
  | n :: r, k, x, h => by
    simp only [dropCol] at h
    split at h
    · exact List.mem_cons_of_mem _ (dropCol_mem c r _ x h)
    · rcases List.mem_cons.1 h with rfl | h
      · exact List.mem_cons_self
      · exact List.mem_cons_of_mem _ (dropCol_mem c r _ x h)
theorem sq_drop {N k : Nat} {rows : List (List Int)} (h : sqMat (N + 1) rows) (hk : k < N + 1) : sqMat N (dropRow 0 k 0 rows) := by
  obtain ⟨h1, h2⟩ := h
  cases rows with
  | nil => simp at h1
  | cons r t =>
    have e : dropRow 0 k 0 (r :: t) = t.map (dropCol k 0) := by
      simp only [dropRow, Int.natCast_zero, if_true]
      exact dropRow_succ k t 0
    rw [e]
    refine ⟨by simp at h1 ⊢; omega, fun q hq => ?_⟩
    obtain ⟨p, hp, rfl⟩ := List.mem_map.1 hq
    obtain ⟨h3, h4⟩ := h2 p (List.mem_cons_of_mem _ hp)
    exact ⟨by rw [dropCol_len, if_pos (by omega)]; omega, fun x hx => h4 x (dropCol_mem _ _ _ _ hx)⟩
theorem mul_bd {x d X B : Int} (h1 : -X ≤ x) (h2 : x ≤ X) (h3 : -B ≤ d) (h4 : d ≤ B) : -(X * B) ≤ x * d ∧ x * d ≤ X * B := by
  have e : (x * d).natAbs = x.natAbs * d.natAbs := Int.natAbs_mul x d
  have hX : (X.toNat : Int) = X := Int.toNat_of_nonneg (by omega)
  have hB : (B.toNat : Int) = B := Int.toNat_of_nonneg (by omega)
  have h5 : x.natAbs * d.natAbs ≤ X.toNat * B.toNat := Nat.mul_le_mul (by omega) (by omega)
  have h6 : ((X.toNat * B.toNat : Nat) : Int) = X * B := by rw [Int.natCast_mul, hX, hB]
  omega
theorem sumD_le {f : List (List Int) → Int} {rows : List (List Int)} {N : Nat} {B : Int} (hf : ∀ k : Nat, k < N → -B ≤ f (dropRow 0 k 0 rows) ∧ f (dropRow 0 k 0 rows) ≤ B) :
    ∀ (l : List Int) (sign : Int) (k : Nat), (sign = 1 ∨ sign = -1) → k + l.length ≤ N → (∀ x ∈ l, -2000 ≤ x ∧ x ≤ 2000) → -(l.length * (2000 * B)) ≤ sumD f rows sign k l ∧ sumD f rows sign k l ≤ l.length * (2000 * B)
  | [], _, _, _, _, _ => by simp [sumD]
  | x :: r, sign, k, hs, hk, hx => by
    simp only [List.length_cons] at hk
    have ih := sumD_le hf r (-sign) (k + 1) (by omega) (by omega) (fun y hy => hx y (List.mem_cons_of_mem _ hy))
    have hx0 := hx x List.mem_cons_self
    have hf0 := hf k (by omega)
    have h1 : -2000 ≤ sign * x ∧ sign * x ≤ 2000 := by rcases hs with rfl | rfl <;> omega
    have h2 := mul_bd h1.1 h1.2 hf0.1 hf0.2
    simp only [sumD, List.length_cons]
    have e : (((r.length + 1 : Nat) : Int) * (2000 * B)) = (r.length : Int) * (2000 * B) + 2000 * B := by
      rw [Int.natCast_add, Int.add_mul]; simp
    rw [e]
    generalize (r.length : Int) * (2000 * B) = z at *
    omega
theorem detN_le : ∀ (n : Nat) (rows : List (List Int)), sqMat n rows → -(detB n) ≤ detN n rows ∧ detN n rows ≤ detB n
  | 0, rows, _ => by simp [detN, detB]
  | n + 1, rows, h => by
    have hr : (rows.getD 0 []).length = n + 1 ∧ ∀ x ∈ rows.getD 0 [], -2000 ≤ x ∧ x ≤ 2000 := by
      cases rows with
      | nil => have := h.1; simp at this
      | cons r t => exact h.2 r List.mem_cons_self
    have := sumD_le (f := detN n) (rows := rows) (N := n + 1) (B := detB n) (fun k hk => detN_le n _ (sq_drop h hk)) (rows.getD 0 []) 1 0 (.inl rfl) (by omega) hr.2
    rw [hr.1] at this
    simp only [detN, detB]
    push_cast at this
    exact this
@[reducible] def sDet (N : Nat) : Spec := { pats := [.dat MatT], res := [{ t := I64 }], pre := fun x => sqMat N x.1, f := fun x => (detN N x.1, ()) }
@[reducible] def sNever : Spec := { pats := [.dat MatT], res := [{ t := I64 }], pre := fun x => False, f := fun x => ((0 : Int), ()) }
theorem enters200 : Enters Tryz.prog 200 := ⟨Tryz.f200, Tryz.func200, by kernel_rfl, by kernel_rfl⟩
theorem never200 : Ok 200 sNever := ⟨fun w M x vs bs _ _ h => h.elim, enters200⟩
theorem row0 {N : Nat} {rows : List (List Int)} (h : sqMat (N + 1) rows) : (rows.getD 0 []).length = N + 1 ∧ ∀ k : Nat, k < N + 1 → -2000 ≤ (rows.getD 0 []).getD k 0 ∧ (rows.getD 0 []).getD k 0 ≤ 2000 := by
  cases rows with
  | nil => have := h.1; simp at this
  | cons r t =>
    obtain ⟨h1, h2⟩ := h.2 r List.mem_cons_self
    refine ⟨h1, fun k hk => ?_⟩
    have hk' : k < r.length := by omega
    have e : r.getD k 0 = r[k] := by simp [List.getD, List.getElem?_eq_getElem hk']
    change -2000 ≤ r.getD k 0 ∧ r.getD k 0 ≤ 2000
    rw [e]
    exact h2 _ (List.getElem_mem hk')
theorem sumD_step {f : List (List Int) → Int} {rows : List (List Int)} {sign : Int} {row : List Int} {k : Nat} (h : k < row.length) :
    sumD f rows sign k (row.drop k) = sign * row.getD k 0 * f (dropRow 0 k 0 rows) + sumD f rows (-sign) (k + 1) (row.drop (k + 1)) := by
  rw [drop_get h]; rfl
theorem detB_le {n : Nat} (h : n ≤ 4) : detB n ≤ 400000000000000 ∧ 0 ≤ detB n := by
  match n, h with
  | 0, _ => decide
  | 1, _ => decide
  | 2, _ => decide
  | 3, _ => decide
  | 4, _ => decide
abbrev detInv (N : Nat) (rows : List (List Int)) (k : Nat) (sum sign : Int) : Prop := k ≤ (rows.getD 0 []).length ∧ (sign = 1 ∨ sign = -1) ∧ sum + sumD (detN N) rows sign k ((rows.getD 0 []).drop k) = detN (N + 1) rows ∧ -(k * (2000 * detB N)) ≤ sum ∧ sum ≤ k * (2000 * detB N)
theorem detRound {N : Nat} (hN : N < 4) {rows : List (List Int)} (hp : sqMat (N + 1) rows) {k : Nat} {sum sign : Int} (hi : detInv N rows k sum sign) (hk : k < (rows.getD 0 []).length) :
    (-9223372036854775808 ≤ sign * (rows.getD 0 []).getD k 0 * detN N (dropRow 0 k 0 rows) ∧ sign * (rows.getD 0 []).getD k 0 * detN N (dropRow 0 k 0 rows) ≤ 9223372036854775807) ∧
    (-9223372036854775808 ≤ sum + sign * (rows.getD 0 []).getD k 0 * detN N (dropRow 0 k 0 rows) ∧ sum + sign * (rows.getD 0 []).getD k 0 * detN N (dropRow 0 k 0 rows) ≤ 9223372036854775807) ∧
    detInv N rows (k + 1) (sum + sign * (rows.getD 0 []).getD k 0 * detN N (dropRow 0 k 0 rows)) (-sign) := by
  obtain ⟨i1, i2, i3, i4, i5⟩ := hi
  have hr := row0 hp
  have hx := hr.2 k (by omega)
  have hd := detN_le N _ (sq_drop hp (k := k) (by omega))
  have hB := detB_le (n := N) (by omega)
  have h1 : -2000 ≤ sign * (rows.getD 0 []).getD k 0 ∧ sign * (rows.getD 0 []).getD k 0 ≤ 2000 := by rcases i2 with rfl | rfl <;> omega
  have h2 := mul_bd h1.1 h1.2 hd.1 hd.2
  have e : (((k + 1 : Nat) : Int) * (2000 * detB N)) = (k : Int) * (2000 * detB N) + 2000 * detB N := by
    rw [Int.natCast_add, Int.add_mul]; simp
  have h3 : (k : Int) * (2000 * detB N) ≤ 4 * (2000 * detB N) := Int.mul_le_mul_of_nonneg_right (by omega) (by omega)
  rw [sumD_step hk] at i3
  refine ⟨by omega, by omega, by omega, by omega, by omega, ?_, ?_⟩
  · rw [e]; omega
  · rw [e]; omega
theorem dropCol_cut (c : Int) : ∀ (row : List Int) (j m : Nat), c = j + m → dropCol c j row = row.take m ++ row.drop (m + 1)
  | [], j, m, _ => by simp [dropCol]
  | n :: r, j, 0, h => by
    simp only [dropCol]
    rw [if_pos (by omega)]
    have none : ∀ (l : List Int) (i : Nat), c < i → dropCol c i l = l := by
      intro l
      induction l with
      | nil => intro i _; rfl
      | cons x l ih => intro i hi; simp only [dropCol]; rw [if_neg (by omega), ih (i + 1) (by omega)]
    rw [none r (j + 1) (by omega)]
    simp
  | n :: r, j, m + 1, h => by
    simp only [dropCol]
    rw [if_neg (by omega), dropCol_cut c r (j + 1) m (by omega)]
    simp
theorem dropRow_map {c : Int} {rows : List (List Int)} (h : 0 < rows.length) : dropRow 0 c 0 rows = (rows.drop 1).map (dropCol c 0) := by
  cases rows with
  | nil => simp at h
  | cons r t =>
    simp only [dropRow, Int.natCast_zero, if_true]
    exact dropRow_succ c t 0
abbrev cutC (rows : List (List Int)) (k i : Nat) : List Int := ((rows.drop 1).getD i []).take k ++ ((rows.drop 1).getD i []).drop (k + 1)
theorem tab_eq {α : Type} {f : Nat → α} {xs : List α} {k : Nat} (d : α) (hl : xs.length = k) (h : ∀ i, i < k → f i = xs.getD i d) : tab f k = xs := by
  refine List.ext_getElem (by rw [tab_len, hl]) fun i h1 h2 => ?_
  have h3 := tab_get f d k i (by rw [tab_len] at h1; exact h1)
  rw [h i (by omega)] at h3
  simpa [List.getD, List.getElem?_eq_getElem h1, List.getElem?_eq_getElem h2] using h3
theorem getD_l2 (xs : List (List Int)) (i : Nat) : List.getD xs i (Ty.dflt (.sl I64)) = xs.getD i [] := rfl
theorem getD_i2 (xs : List Int) (i : Nat) : List.getD xs i (Ty.dflt I64) = xs.getD i 0 := rfl
theorem one_toNat : Int.toNat 1 = 1 := rfl
theorem zero_toNat : Int.toNat 0 = 0 := rfl
theorem cut_all {N k : Nat} {rows : List (List Int)} (hp : sqMat (N + 1) rows) : tab (cutC rows k) N = dropRow 0 k 0 rows := by
  rw [dropRow_map (by rw [hp.1]; omega)]
  refine tab_eq [] (by rw [List.length_map, List.length_drop, hp.1]; rfl) fun i hi => ?_
  have hi' : i < (rows.drop 1).length := by rw [List.length_drop, hp.1]; omega
  simp only [List.getD_eq_getElem?_getD, List.getElem?_map, List.getElem?_eq_getElem hi', Option.map_some, Option.getD_some, cutC]
  rw [dropCol_cut (k : Int) _ 0 k (by omega)]
theorem row_len1 {N : Nat} {rows : List (List Int)} (hp : sqMat (N + 1) rows) {i : Nat} (h : i < N) : ((rows.drop 1).getD i []).length = N + 1 := by
  have hi' : i < (rows.drop 1).length := by rw [List.length_drop, hp.1]; omega
  simp only [List.getD_eq_getElem?_getD, List.getElem?_eq_getElem hi', Option.getD_some]
  exact (hp.2 _ (List.mem_of_mem_drop (List.getElem_mem hi'))).1
def detAnn (N : Nat) (rows : List (List Int)) : LoopAnn :=
  { σ := Nat × Int × Int, pat := fun s => [sI 17 s.1, sI 3 s.2.1, sI 4 s.2.2], inv := fun s => detInv N rows s.1 s.2.1 s.2.2, meas := fun s => (rows.getD 0 []).length - s.1 }
def detInn (N : Nat) (rows : List (List Int)) (st : St) : LoopAnn := withI 17 st fun k => { σ := Nat, pat := fun i => sI 27 i :: sOwn2 7 60007 76 (tab (cutC rows k.toNat) i), inv := fun i => i ≤ N, meas := fun i => N - i }
theorem toNat_succ (n : Nat) : ((n : Int) + 1).toNat = n + 1 := rfl
theorem det_zero : Ok 200 (sDet 0) := by
  refine mk (ctr := [(145, sClone), (200, sNever)]) ⟨h145, never200, trivial⟩ (nt := 56) Tryz.func200 rfl rfl rfl rfl (by kernel_rfl) (by kernel_rfl) (fun x => [fun _ => detAnn 0 x.1, detInn 0 x.1]) ?_
  rintro ⟨(rows : List (List Int)), _⟩ (hp : sqMat 0 rows)
  have hl : rows.length = 0 := hp.1
  repeat' (intro hzz; (try (rename Two => hq; cases hq)); (try dsimp only at hzz); (try simp only [resTy, argTy, eqD, inR, big, wantOf, zB] at hzz); (try simp only [resTy, argTy, eqD, inR, big, wantOf, zB, getD_l, getD_i, getD_0, Int.toNat_natCast, toNat_succ] at hzz); (try (first | contradiction | (exfalso; omega))); (try (revert hzz; intro _)))
  all_goals try (rename Unit => hq; clear hq)
  all_goals try ((with_reducible refine Held.mk ?_); (with_reducible (first | refine Frz.mk ?_ | refine And.intro (Frz.mk ?_) ?_ | refine And.intro ?_ (Frz.mk ?_))); repeat' first | exact True.intro | (change _ = _; with_reducible rfl) | refine And.intro ?_ ?_ | (with_reducible refine Frz.mk ?_))
  all_goals try (refine Held.mk ?_; (try dsimp only at *); (try simp only [resTy, argTy, eqD, inR, big, wantOf, zB] at *); (try simp only [resTy, argTy, eqD, inR, big, wantOf, zB, getD_l, getD_i, getD_0, Int.toNat_natCast, toNat_succ] at *))
  all_goals try omega
  · rfl
theorem det_succ {N : Nat} (hN : N < 4) (ih : Ok 200 (sDet N)) : Ok 200 (sDet (N + 1)) := by
  refine mk (ctr := [(145, sClone), (200, sDet N)]) ⟨h145, ih, trivial⟩ (nt := 56) Tryz.func200 rfl rfl rfl rfl (by kernel_rfl) (by kernel_rfl) (fun x => [fun _ => detAnn N x.1, detInn N x.1]) ?_
  rintro ⟨(rows : List (List Int)), _⟩ (hp : sqMat (N + 1) rows)
  have hl : rows.length = N + 1 := hp.1
  repeat' (intro hzz; (try (rename Two => hq; cases hq)); (try dsimp only at hzz); (try simp only [resTy, argTy, eqD, inR, big, wantOf, zB] at hzz); (try simp only [resTy, argTy, eqD, inR, big, wantOf, zB, getD_l, getD_i, getD_0, Int.toNat_natCast, toNat_succ, tab_len, List.length_drop, one_toNat, zero_toNat, getD_l2, getD_i2] at hzz); (try (revert hzz; intro _)))
  all_goals try (rename Unit => hq; clear hq)
  all_goals try ((with_reducible refine Held.mk ?_); (with_reducible (first | refine Frz.mk ?_ | refine And.intro (Frz.mk ?_) ?_ | refine And.intro ?_ (Frz.mk ?_))); repeat' first | exact True.intro | (change _ = _; with_reducible rfl) | refine And.intro ?_ ?_ | (with_reducible refine Frz.mk ?_))
  all_goals try (refine Held.mk ?_; (try dsimp only at *); (try simp only [resTy, argTy, eqD, inR, big, wantOf, zB] at *); (try simp only [resTy, argTy, eqD, inR, big, wantOf, zB, getD_l, getD_i, getD_0, Int.toNat_natCast, toNat_succ, tab_len, List.length_drop, one_toNat, zero_toNat, getD_l2, getD_i2] at *))
  all_goals try omega
  all_goals try have hr := row0 hp
  ·
    refine GHeld.mk ?_
    refine Exists.intro ((0, 0, 1) : Nat × Int × Int) ?_
    refine And.intro (Leaf.mk ?_) ?_
    · repeat' first | exact True.intro | refine And.intro ?_ ?_
      all_goals try ((change _ = _ <;> try dsimp only) <;> try with_reducible rfl)
      all_goals try omega
    refine ⟨Nat.zero_le _, .inl rfl, ?_, by simp, by simp⟩
    simp [detN]
  · rename_i h0 s hi hg hx
    refine GHeld.mk ?_
    refine Exists.intro (0 : Nat) ?_
    refine And.intro (Leaf.mk ?_) ?_
    · repeat' first | exact True.intro | refine And.intro ?_ ?_
      all_goals try ((change _ = _ <;> try dsimp only) <;> try with_reducible rfl)
      all_goals try omega
      all_goals (rfl)
    exact Nat.zero_le _
  · rename_i h0 s hi hg hx i hI hi2
    have := row_len1 hp (i := i) (by omega)
    change 0 ≤ (s.1 : Int) ∧ (s.1 : Int) ≤ (((rows.drop 1).getD i []).length : Int)
    omega
  · rename_i h0 s hi hg hx i hI hi2
    have := row_len1 hp (i := i) (by omega)
    change (List.take s.1 ((rows.drop 1).getD i [])).length ≤ 2000000000
    rw [List.length_take]; omega
  · omega
  · rename_i h0 s hi hg hx i hI hi2
    have := row_len1 hp (i := i) (by omega)
    change 0 ≤ (s.1 : Int) + 1 ∧ (s.1 : Int) + 1 ≤ (((rows.drop 1).getD i []).length : Int)
    omega
  · rename_i h0 s hi hg hx i hI hi2
    have := row_len1 hp (i := i) (by omega)
    change (List.take s.1 ((rows.drop 1).getD i [])).length + (List.drop (s.1 + 1) ((rows.drop 1).getD i [])).length ≤ 2147483648
    rw [List.length_take, List.length_drop]; omega
  · rename_i h0 s hi hg hx i hI hi2
    show i + 1 ≤ 2147483648
    omega
  · rename_i h0 s hi hg hx i hI hi2
    refine GHeld.mk ?_
    refine Exists.intro (i + 1) ?_
    refine And.intro (Leaf.mk ?_) ?_
    · repeat' first | exact True.intro | refine And.intro ?_ ?_
      all_goals try ((change _ = _ <;> try dsimp only) <;> try with_reducible rfl)
      all_goals try omega
      all_goals (rfl)
    exact ⟨by show i + 1 ≤ N; omega, by show N - (i + 1) < N - i; omega⟩
  · rename_i h0 s hi hg hx i hI hi2
    have hx := hr.2 s.1 (by omega)
    have hs : s.2.2 = 1 ∨ s.2.2 = -1 := hi.2.1
    change -9223372036854775808 ≤ s.2.2 * (rows.getD 0 []).getD s.1 0 ∧ s.2.2 * (rows.getD 0 []).getD s.1 0 ≤ 9223372036854775807
    rcases hs with hs | hs <;> rw [hs] <;> omega
  · rename_i h0 s hi hg hx i hI hi2
    have e : i = N := by omega
    subst e
    rw [cut_all hp]
    exact sq_drop hp (by omega)
  · rename_i h0 s hi hg hx i hI hi2
    have e : i = N := by omega
    subst e
    rw [cut_all hp]
    exact (detRound hN hp hi (by omega)).1
  · rename_i h0 s hi hg hx i hI hi2
    have e : i = N := by omega
    subst e
    rw [cut_all hp]
    exact (detRound hN hp hi (by omega)).2.1
  · omega
  · rename_i h0 s hi hg hx i hI hi2
    have e : i = N := by omega
    subst e
    have hd := detRound hN hp hi (by omega)
    rw [← cut_all hp] at hd
    refine GHeld.mk ?_
    refine Exists.intro ((s.1 + 1, s.2.1 + s.2.2 * (rows.getD 0 []).getD s.1 0 * detN i (tab (cutC rows s.1) i), -s.2.2) : Nat × Int × Int) ?_
    refine And.intro (Leaf.mk ?_) ?_
    · repeat' first | exact True.intro | refine And.intro ?_ ?_
      all_goals try ((change _ = _ <;> try dsimp only) <;> try with_reducible rfl)
      all_goals try omega
      all_goals (rfl)
    refine ⟨hd.2.2, ?_⟩
    change (rows.getD 0 []).length - (s.1 + 1) < (rows.getD 0 []).length - s.1
    omega
  · omega
  · rename_i h0 s hi hg hx
    have hd := detRound hN hp hi (by omega)
    have hx0 : (rows.getD 0 []).getD s.1 0 = 0 := hx
    rw [hx0, Int.mul_zero, Int.zero_mul, Int.add_zero] at hd
    refine GHeld.mk ?_
    refine Exists.intro ((s.1 + 1, s.2.1, -s.2.2) : Nat × Int × Int) ?_
    refine And.intro (Leaf.mk ?_) ?_
    · repeat' first | exact True.intro | refine And.intro ?_ ?_
      all_goals try ((change _ = _ <;> try dsimp only) <;> try with_reducible rfl)
      all_goals try omega
      all_goals (rfl)
    refine ⟨hd.2.2, ?_⟩
    change (rows.getD 0 []).length - (s.1 + 1) < (rows.getD 0 []).length - s.1
    omega
  · rename_i h0 s hi hg
    obtain ⟨i1, i2, i3, i4⟩ := hi
    rw [List.drop_eq_nil_of_le (by omega)] at i3
    simpa [sumD] using i3
theorem h200 : ∀ N, N ≤ 4 → Ok 200 (sDet N)
  | 0, _ => det_zero
  | N + 1, h => det_succ (by omega) (h200 N (by omega))
abbrev pDetA (m : List (List Int)) : Prop := ∃ N, N ≤ 4 ∧ sqMat N m
def detA (m : List (List Int)) : Int := detN m.length m
@[reducible] def sDetAll : Spec := { pats := [.dat MatT], res := [{ t := I64 }], pre := fun x => pDetA x.1, f := fun x => (detA x.1, ()) }
theorem hDet : Ok 200 sDetAll := ⟨fun w M x vs bs hM hA ⟨N, hN, hs⟩ => by
  have h := (h200 N hN).1 w M x vs bs hM hA hs
  have e : (sDet N).f x = sDetAll.f x := by
    simp only [sDet, sDetAll, detA]
    rw [← hs.1]
  rw [e] at h
  exact h, enters200⟩
theorem detA_le {m : List (List Int)} (h : pDetA m) : -400000000000000 ≤ detA m ∧ detA m ≤ 400000000000000 := by
  obtain ⟨N, hN, hs⟩ := h
  have h1 := detN_le N m hs
  have h2 := detB_le hN
  unfold detA
  rw [hs.1]; omega
end Go.Eng.Ar

namespace Go.Eng
set_option linter.all false
set_option maxRecDepth 100000
section
variable {P : Program} {Q : Exit → Act → World → Prop} {a : Act} {w : World} {K : Act → World → Prop}
theorem op_val {o : Oper} {v : Value} (hnd : ∀ d, o.op ≠ .defer d) (hr : (execOp a.eval o).run P w = .ok (.value v) w) (h : K (a.put o.dst v) w) : o.wpIn (Fw none) 0 P a w K Q :=
  wpIn_of_run hnd hr h
theorem op_skip {o : Oper} {w' : World} (hnd : ∀ d, o.op ≠ .defer d) (hr : (execOp a.eval o).run P w = .ok .skip w') (h : K (a.put o.dst undef) w') : o.wpIn (Fw none) 0 P a w K Q :=
  wpIn_of_run hnd hr h
theorem op_enter {o : Oper} {f : Nat} {args : Array Value} (hnd : ∀ d, o.op ≠ .defer d) (hr : (execOp a.eval o).run P w = .ok (.enter f args) w)
    (h : Calls P f args w fun e w' => ∃ v, e = .returned v ∧ K (a.put o.dst v) w') : o.wpIn (Fw none) 0 P a w K Q :=
  wpIn_of_run hnd hr ⟨fun h => (by cases h), callsFw (h.mono fun e w' ⟨v, h1, h2⟩ => by subst h1; exact h2)⟩
theorem op_round {o : Oper} {l f : Nat} {tmps : Array Value} {assign body : Code} (hnd : ∀ d, o.op ≠ .defer d) (hr : (execOp a.eval o).run P w = .ok (.round l f tmps assign body) w)
    (h : RoundIn (Fw none) 0 P l f tmps assign body w fun e w' => ∃ v, e = .returned v ∧ K (a.put o.dst v) w') : o.wpIn (Fw none) 0 P a w K Q :=
  wpIn_of_run hnd hr ⟨fun h => (by cases h), RoundIn.mono h (fun e w' ⟨v, h1, h2⟩ => by subst h1; exact h2)⟩
theorem list_nil {ops : Array Oper} (h : Q .normal a w) : wpListIn (Fw none) 0 P ops Q [] a w := h
theorem list_step {ops : Array Oper} {o : Oper} {rest : List Oper} (hg : o.guard = none) (h : o.wpIn (Fw none) 0 P a w (wpListIn (Fw none) 0 P ops Q rest) Q) : wpListIn (Fw none) 0 P ops Q (o :: rest) a w := by
  have hw : Region.wanted o (yielded ops a.tmps) = true := by simp [Region.wanted, hg]
  simp only [wpListIn, hw, if_true]
  exact h
theorem list_inv {ops : Array Oper} {o : Oper} {rest : List Oper} {v : Value} (h : wpListIn (Fw none) 0 P ops Q (o :: rest) a w) (hg : o.guard = none) (hs : o.semAt (Fw none).round a.eval = execOp a.eval o) (hr : (execOp a.eval o).run P w = .ok (.value v) w) :
    wpListIn (Fw none) 0 P ops Q rest (a.put o.dst v) w := by
  have hw : Region.wanted o (yielded ops a.tmps) = true := by simp [Region.wanted, hg]
  simp only [wpListIn, hw, if_true] at h
  unfold Oper.wpIn at h
  have h := h.2
  rw [hs, hr] at h
  simpa only [Oper.uponIn] using h
theorem list_inv_skip {ops : Array Oper} {o : Oper} {rest : List Oper} {w' : World} (h : wpListIn (Fw none) 0 P ops Q (o :: rest) a w) (hg : o.guard = none) (hs : o.semAt (Fw none).round a.eval = execOp a.eval o) (hr : (execOp a.eval o).run P w = .ok .skip w') :
    wpListIn (Fw none) 0 P ops Q rest (a.put o.dst undef) w' := by
  have hw : Region.wanted o (yielded ops a.tmps) = true := by simp [Region.wanted, hg]
  simp only [wpListIn, hw, if_true] at h
  unfold Oper.wpIn at h
  have h := h.2
  rw [hs, hr] at h
  simpa only [Oper.uponIn] using h
end
theorem oper_q {P : Program} {o : Oper} {a : Act} {w : World} {K : Act → World → Prop} {Q Q' : Exit → Act → World → Prop} (h : ∀ c a w, Q (.panic c) a w = Q' (.panic c) a w) (h2 : LetsOut Q = LetsOut Q') : o.wpIn (Fw none) 0 P a w K Q = o.wpIn (Fw none) 0 P a w K Q' := by
  have e : ∀ r, o.uponIn (Fw none) 0 P a K Q r = o.uponIn (Fw none) 0 P a K Q' r := by
    intro r
    unfold Oper.uponIn
    split <;> simp only [h, h2]
  unfold Oper.wpIn
  rw [e]
theorem list_app {P : Program} {ops : Array Oper} {Q : Exit → Act → World → Prop} {l2 : List Oper} : ∀ (l1 : List Oper) (a : Act) (w : World),
    wpListIn (Fw none) 0 P ops (fun e a w => match e with | .normal => wpListIn (Fw none) 0 P ops Q l2 a w | e => Q e a w) l1 a w → wpListIn (Fw none) 0 P ops Q (l1 ++ l2) a w
  | [], a, w, h => h
  | o :: l1, a, w, h => by
    simp only [wpListIn, List.cons_append] at h ⊢
    split
    · rename_i hw
      rw [if_pos hw] at h
      refine Oper.wpIn_mono (list_app l1) ?_
      rw [← oper_q (Q := fun e a w => match e with | .normal => wpListIn (Fw none) 0 P ops Q l2 a w | e => Q e a w) (Q' := Q) (fun _ _ _ => rfl) rfl]
      exact h
    · rename_i hw
      rw [if_neg hw] at h
      exact ⟨h.1, list_app l1 _ _ h.2⟩
theorem oper_mono2 {F : Fence} {n : Nat} {P : Program} {Q Q' : Exit → Act → World → Prop} {o : Oper} {a : Act} {w : World} {K K' : Act → World → Prop} (h : ∀ a w, K a w → K' a w) (hq : ∀ e a w, Q e a w → Q' e a w)
    (hh : o.wpIn F n P a w K Q) : o.wpIn F n P a w K' Q' := by
  unfold Oper.wpIn at *
  refine ⟨hh.1, ?_⟩
  have hh := hh.2
  generalize (o.semAt F.round a.eval).run P w = r at *
  cases r with
  | ok x w' =>
    cases x <;> simp only [Oper.uponIn] at hh ⊢ <;>
      first
        | exact h _ _ hh
        | exact ⟨hh.1, CallsIn.mono hh.2 (fun e w'' he => by cases e <;> first | exact h _ _ he | exact hq _ _ _ he | exact (let ⟨a, w, h⟩ := he; ⟨a, w, hq _ _ _ h⟩))⟩
        | exact ⟨hh.1, RowsIn.mono hh.2 (fun _ _ he => h _ _ he)⟩
        | exact ⟨hh.1, RoundIn.mono hh.2 (fun e w'' he => by cases e <;> first | exact h _ _ he | exact hq _ _ _ he | exact (let ⟨a, w, h⟩ := he; ⟨a, w, hq _ _ _ h⟩))⟩
  | halt x w' => cases x <;> simp only [Oper.uponIn] at hh ⊢ <;> first | exact hh | exact hq _ _ _ hh
theorem list_mono {F : Fence} {n : Nat} {P : Program} {ops : Array Oper} {Q Q' : Exit → Act → World → Prop} (hq : ∀ e a w, Q e a w → Q' e a w) : ∀ (l : List Oper) (a : Act) (w : World), wpListIn F n P ops Q l a w → wpListIn F n P ops Q' l a w
  | [], a, w, h => hq _ _ _ h
  | o :: r, a, w, h => by
    unfold wpListIn at h ⊢
    split
    · rename_i hw
      rw [if_pos hw] at h
      exact oper_mono2 (list_mono hq r) hq h
    · rename_i hw
      rw [if_neg hw] at h
      exact ⟨h.1, list_mono hq r _ _ h.2⟩
theorem setRow_comm (w : World) {b b' : Nat} (h : b ≠ b') (c c' : Array Value) : (w.setRow b c).setRow b' c' = (w.setRow b' c').setRow b c := by
  have : ∀ (f g : Obj → Obj), (w.heap.modify b f).modify b' g = (w.heap.modify b' g).modify b f := by
    intro f g
    refine Array.ext (by simp) fun i h1 h2 => ?_
    simp only [Array.getElem_modify]
    split <;> split <;> first | rfl | omega
  simp only [World.setRow, this]
end Go.Eng
namespace Go.Eng.Ar
open Go.Eng Go.Proofs
set_option linter.all false
set_option maxRecDepth 100000
set_option maxHeartbeats 1000000
theorem ia76 (a : Act) (w : World) (o : Oper) (x y : Operand) (ho : o.op = .indexAddr 76 x y) {b off n c : Nat} {i : Nat} (hx : a.eval x = .slice (some ⟨b, off, none⟩) n c) (hy : a.eval y = .int .i64 i) (h1 : i < n) :
    (execOp a.eval o).run Tryz.prog w = .ok (.value (.pointer (some ⟨b, off + i, none⟩))) w := by
  have hS := run_sizeOf row3 w
  have hs : i3.size = 1 := rfl
  have h2 : (i : Int) < (n : Int) := by omega
  simp [execOp, ho, hx, hy, Instr.indexAt, run_underlying Tryz.underlying76, asIntOf, hS, h2, hs, add_none]
  intro h; omega
theorem ia66 (a : Act) (w : World) (o : Oper) (x y : Operand) (ho : o.op = .indexAddr 66 x y) {b off n c : Nat} {i : Nat} (hx : a.eval x = .slice (some ⟨b, off, none⟩) n c) (hy : a.eval y = .int .i64 i) (h1 : i < n) :
    (execOp a.eval o).run Tryz.prog w = .ok (.value (.pointer (some ⟨b, off + i, none⟩))) w := by
  have hS := run_sizeOf row76 w
  have hs : i76.size = 1 := rfl
  have h2 : (i : Int) < (n : Int) := by omega
  simp [execOp, ho, hx, hy, Instr.indexAt, run_underlying Tryz.underlying66, asIntOf, hS, h2, hs, add_none]
  intro h; omega
theorem ld3 (a : Act) (w : World) (o : Oper) (x : Operand) (ho : o.op = .load 3 x) {b off el : Nat} {cur : Array Value} {f : Nat × Nat} {v : Value} (hx : a.eval x = .pointer (some ⟨b, off, none⟩)) (hb : w.heap[b]? = some (.cells cur el f)) (hv : cur[off]? = some v) :
    (execOp a.eval o).run Tryz.prog w = .ok (.value v) w := by
  have hl : (loadVar 3 ⟨b, off, none⟩).run Tryz.prog w = .ok v w := run_loadVar_one row3 rfl (by rw [cell_of hb]; exact hv)
  simp [execOp, ho, hx, Instr.loadAt, Instr.sureAddr, hl]
theorem ld76 (a : Act) (w : World) (o : Oper) (x : Operand) (ho : o.op = .load 76 x) {b off el : Nat} {cur : Array Value} {f : Nat × Nat} {v : Value} (hx : a.eval x = .pointer (some ⟨b, off, none⟩)) (hb : w.heap[b]? = some (.cells cur el f)) (hv : cur[off]? = some v) :
    (execOp a.eval o).run Tryz.prog w = .ok (.value v) w := by
  have hl : (loadVar 76 ⟨b, off, none⟩).run Tryz.prog w = .ok v w := run_loadVar_one row76 rfl (by rw [cell_of hb]; exact hv)
  simp [execOp, ho, hx, Instr.loadAt, Instr.sureAddr, hl]
theorem set_cells {cur : Array Value} {i : Nat} {v : Value} (hi : i < cur.size) : (cur.toList.take i ++ [v] ++ cur.toList.drop (i + 1)).toArray = cur.set! i v := by
  refine Array.ext' ?_
  simp only [Array.set!_eq_setIfInBounds, Array.toList_setIfInBounds]
  rw [List.set_eq_take_append_cons_drop, if_pos (by simpa using hi)]
  simp
theorem st3 (a : Act) (w : World) (o : Oper) (x y : Operand) (ho : o.op = .store 3 x y) {b off el : Nat} {cur : Array Value} {n : Int} (hx : a.eval x = .pointer (some ⟨b, off, none⟩)) (hy : a.eval y = .int .i64 n) (hb : w.heap[b]? = some (.cells cur el (0, 0))) (hi : off < cur.size) :
    (execOp a.eval o).run Tryz.prog w = .ok .skip (w.setRow b (cur.set! off (.int .i64 n))) := by
  have hst := run_storeVar_row (P := Tryz.prog) row3 (b := b) (off := off) (v := .int .i64 n) hb rfl hi (fun u hu => by
    have : u = .int .i64 n := by simpa [Value.cells] using hu
    rw [this]; rfl)
  have e : (cur.toList.take off ++ (Value.int .i64 n).cells.toList ++ cur.toList.drop (off + (Value.int .i64 n).cells.size)).toArray = cur.set! off (.int .i64 n) := set_cells hi
  rw [e] at hst
  simp [execOp, ho, hx, hy, Instr.storeAt, Instr.sureAddr, hst]
theorem st76 (a : Act) (w : World) (o : Oper) (x y : Operand) (ho : o.op = .store 76 x y) {b off el : Nat} {cur : Array Value} {ad : Option Addr} {n c : Nat} (hx : a.eval x = .pointer (some ⟨b, off, none⟩)) (hy : a.eval y = .slice ad n c) (hb : w.heap[b]? = some (.cells cur el (0, 0))) (hi : off < cur.size) :
    (execOp a.eval o).run Tryz.prog w = .ok .skip (w.setRow b (cur.set! off (.slice ad n c))) := by
  have hst := run_storeVar_row (P := Tryz.prog) row76 (b := b) (off := off) (v := .slice ad n c) hb rfl hi (fun u hu => by
    have : u = .slice ad n c := by simpa [Value.cells] using hu
    rw [this]; rfl)
  have e : (cur.toList.take off ++ (Value.slice ad n c).cells.toList ++ cur.toList.drop (off + (Value.slice ad n c).cells.size)).toArray = cur.set! off (.slice ad n c) := set_cells hi
  rw [e] at hst
  simp [execOp, ho, hx, hy, Instr.storeAt, Instr.sureAddr, hst]
theorem mvR (a : Act) (w : World) (o : Oper) (x : Operand) (ho : o.op = .move x) {v : Value} (hx : a.eval x = v) : (execOp a.eval o).run Tryz.prog w = .ok (.value v) w := by
  simp [execOp, ho, hx]
theorem v_int {V : View} {k : IntKind} {n : Int} {v : Value} (h : RepV V (.int k) n v) : v = .int k n := by
  obtain ⟨l, h1, ⟨h2, _⟩ | ⟨_, h2⟩⟩ := h
  · cases h2
  · have h1 : l = [.int k n] := h1
    rw [h1] at h2; simpa using h2.symm
theorem size_put (a : Act) (t : Nat) (v : Value) : (a.put (some t) v).tmps.size = a.tmps.size := by simp [Act.put]
theorem defers_put (a : Act) (t : Nat) (v : Value) : (a.put (some t) v).defers = a.defers := rfl
end Go.Eng.Ar

