/- The frame for the contracts of the functions of pulse: types, settings. Conditions: each contract's own. -/
import Derived.Test.YtnficfhnfpbhkaaGreatDoorL0
import GoSem.Extern.MathFloatBits
namespace Go.Eng.Pu
open Go.Eng Go.Proofs
set_option linter.all false

abbrev I64 : Ty := .int .i64
abbrev F32 : Ty := .flt .f32
abbrev C64 : Ty := .cpx .f32
abbrev C128 : Ty := .cpx .f64
abbrev Reg0 : Ty := .cons I64 (.cons (.sl I64) .nil)
abbrev Reg : Ty := .cons Reg0 .nil
abbrev PairT : Ty := .cons I64 (.cons I64 .nil)
abbrev Fld0 : Ty := .cons I64 (.cons I64 (.cons I64 .nil))
abbrev Fld : Ty := .cons Fld0 .nil
abbrev RawT : Ty := .cons F32 (.cons F32 .nil)

abbrev sI (t : Nat) (n : Int) : Fact := .slot t (.one (.d I64 n))
abbrev sB (t : Nat) (b : Bool) : Fact := .slot t (.one (.d .bool b))
abbrev cI (k off : Nat) (n : Int) : Fact := .cell k off (.d I64 n)

def OB (_ : Nat) (_ : Obj) : Prop := False

def Ok (f : Nat) (sp : Spec) : Prop := Holds Tryz.prog OB f sp ∧ Enters Tryz.prog f

def All : List (Nat × Spec) → Prop
  | [] => True
  | p :: r => Ok p.1 p.2 ∧ All r

theorem all_get : ∀ {ctr : List (Nat × Spec)} {f : Nat} {sp : Spec}, All ctr → getSpec f ctr = some sp → Ok f sp
  | [], _, _, _, h => by simp [getSpec] at h
  | (g, s) :: r, f, sp, ha, h => by
    simp only [getSpec] at h
    cases hb : Nat.beq g f with
    | true =>
      rw [hb] at h
      have := Nat.eq_of_beq_eq_true hb
      subst this
      simp only [cond_true, Option.some.injEq] at h
      subst h
      exact ha.1
    | false => rw [hb] at h; exact all_get ha.2 h

/-- What else a walk knows: iterators, closures, rounds of loops without annotation. -/
structure Xt where
  its : List (Nat × ISpec) := []
  clos : List (Nat × List Ty) := []
  fuel : Nat := 0

@[reducible] def cfg (X : Xt) (ctr : List (Nat × Spec)) (nt : Nat) : Cfg := { tt := tt, eqs := [], ctr := ctr, nt := nt, extb := [(72, .f64)], its := X.its, clos := X.clos, fuel := X.fuel }

def bodyOf (f : Func) : Code := match f.body with | some b => b | none => .skip

def Its : List (Nat × ISpec) → Prop
  | [] => True
  | p :: r => (IHolds Tryz.prog p.1 p.2 ∧ Enters Tryz.prog p.1) ∧ Its r

theorem its_get : ∀ {l : List (Nat × ISpec)} {g : Nat} {sp : ISpec}, Its l → getIt g l = some sp → IHolds Tryz.prog g sp ∧ Enters Tryz.prog g
  | [], _, _, _, h => by simp [getIt] at h
  | (g, s) :: r, f, sp, ha, h => by
    simp only [getIt] at h
    cases hb : Nat.beq g f with
    | true =>
      rw [hb] at h
      have := Nat.eq_of_beq_eq_true hb
      subst this
      simp only [cond_true, Option.some.injEq] at h
      subst h
      exact ha.1
    | false => rw [hb] at h; exact its_get ha.2 h

theorem mixed : Tryz.prog.follows .mixedOrders = true := by kernel_rfl

theorem extOk (f : Nat) (k : FloatKind) (h : getEx f [(72, .f64)] = some k) : ∃ fn F, Tryz.prog.funcs[f]? = some fn ∧ (fn.name == "runtime.NumGoroutine") = false ∧ fn.body.isNone = true ∧ Extern.findNext fn = none ∧ Extern.find fn = some F ∧
    ∀ (n : Nat) w, (F #[.float k n]).run Tryz.prog w = .ok (.int (bitK k) n) w := by
  simp only [getEx] at h
  cases h1 : Nat.beq 72 f with
  | true =>
    rw [h1] at h
    have := Nat.eq_of_beq_eq_true h1
    subst this
    simp only [cond_true, Option.some.injEq] at h
    subst h
    exact ⟨Tryz.f72, Extern.MathFloatBits.float64bits, Tryz.func72, by kernel_rfl, by kernel_rfl, by kernel_rfl, by kernel_rfl, fun n w => rfl⟩
  | false => rw [h1] at h; simp at h

theorem cfgOk {X : Xt} (hX : Its X.its) {ctr : List (Nat × Spec)} {nt : Nat} (h : All ctr) : CfgOk Tryz.prog OB (cfg X ctr nt) where
  tbl := tbl
  eqs := fun t ht => by cases ht
  ctr := fun f sp hf => all_get h hf
  ext := fun f hf => by simp [memN] at hf
  extb := extOk
  obs := fun t i hi => by simp [obOf] at hi
  its := fun g isp h => its_get hX h

theorem mkX {X : Xt} (hX : Its X.its) {ctr : List (Nat × Spec)} (hctr : All ctr) {f nt : Nat} {fn : Func} {sp : Spec} (hf : Tryz.prog.funcs[f]? = some fn) (hb : fn.body = some (bodyOf fn)) (hnt : fn.ntmps = nt) (hps : (Nat.ble sp.pats.length nt && Nat.ble nt 1000000) = true)
    (hob : Nat.ble (obCount sp.pats) 1 = true) (hd : dstOk nt (bodyOf fn) = true) (hn : (fn.name == "runtime.NumGoroutine") = false) (anns : (argTy sp.pats).Den → List (St → LoopAnn))
    (h : ∀ x, sp.pre x → bodyVC (cfg X ctr nt) (par (cfg X ctr nt)) (anns x) fn.results.toList (bodyOf fn) sp x) : Ok f sp :=
  ⟨fn_sound (cfgOk hX hctr) (par_sound mixed (cfgOk hX hctr)) hf hb hnt (Nat.le_of_ble_eq_true (Bool.and_eq_true _ _ ▸ hps : _ ∧ _).1) (Nat.le_of_ble_eq_true (Bool.and_eq_true _ _ ▸ hps : _ ∧ _).2) (Nat.le_of_ble_eq_true hob) rfl hd anns h, fn, hf, hn, by rw [hb]; rfl⟩

theorem mk {ctr : List (Nat × Spec)} (hctr : All ctr) {f nt : Nat} {fn : Func} {sp : Spec} (hf : Tryz.prog.funcs[f]? = some fn) (hb : fn.body = some (bodyOf fn)) (hnt : fn.ntmps = nt) (hps : (Nat.ble sp.pats.length nt && Nat.ble nt 1000000) = true)
    (hob : Nat.ble (obCount sp.pats) 1 = true) (hd : dstOk nt (bodyOf fn) = true) (hn : (fn.name == "runtime.NumGoroutine") = false) (anns : (argTy sp.pats).Den → List (St → LoopAnn))
    (h : ∀ x, sp.pre x → bodyVC (cfg {} ctr nt) (par (cfg {} ctr nt)) (anns x) fn.results.toList (bodyOf fn) sp x) : Ok f sp := mkX (X := {}) True.intro hctr hf hb hnt hps hob hd hn anns h

/-- No iterators; loops go round by round. -/
@[reducible] def xU : Xt := { fuel := 400 }
theorem xU_ok : Its xU.its := True.intro

end Go.Eng.Pu
