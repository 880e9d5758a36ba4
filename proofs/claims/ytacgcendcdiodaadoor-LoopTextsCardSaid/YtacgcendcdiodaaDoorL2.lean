/- The frame for the contracts of the program's functions; the contracts of the least ones. Conditions: each contract's own. -/
import Derived.Test.YtacgcendcdiodaaDoorL1
import Derived.Test.YtacgcendcdiodaaDoorP1
namespace Go.Eng.Lp
open Go.Eng Go.Proofs

/-- The units that were asked so far: those that are known are right. -/
def circ (cur : Array Value) : Prop := cur.size = 16384 ∧ ∀ a : Nat, a < 4096 → ∃ b : Bool, cur[a]? = some (.bool b) ∧
  (b = true → cur[4096 + 3 * a]? = some (.int .i64 (unitI a).1) ∧ cur[4096 + 3 * a + 1]? = some (.int .i64 (unitI a).2.1) ∧ cur[4096 + 3 * a + 2]? = some (.int .i64 (unitI a).2.2.1))

def OB (i : Nat) (o : Obj) : Prop := i = 0 ∧ ∃ cur, o = .cells cur 71 (0, 0) ∧ circ cur

def Ok (f : Nat) (sp : Spec) : Prop := Holds Tryd.prog OB f sp ∧ Enters Tryd.prog f

def All : List (Nat × Spec) → Prop
  | [] => True
  | p :: r => Ok p.1 p.2 ∧ All r

theorem all_get : ∀ {ctr : List (Nat × Spec)} {f : Nat} {sp : Spec}, All ctr → getSpec f ctr = some sp → Ok f sp
  | [], _, _, _, h => by simp [getSpec] at h
  | (g, s) :: r, f, sp, ha, h => by
    simp only [getSpec] at h
    cases hb : Nat.beq g f with
    | true =>
      rw [hb] at h
      have := Nat.eq_of_beq_eq_true hb
      subst this
      simp only [cond_true, Option.some.injEq] at h
      subst h
      exact ha.1
    | false => rw [hb] at h; exact all_get ha.2 h

/-- What else a walk knows: iterators, closures, rounds of loops without annotation, methods that write their receiver, structs handed on. -/
structure Xt where
  its : List (Nat × ISpec) := []
  clos : List (Nat × List Ty) := []
  fuel : Nat := 0
  ios : List (Nat × IoSpec) := []
  vas : List (Nat × VaSpec) := []

@[reducible] def cfg (X : Xt) (ctr : List (Nat × Spec)) (nt : Nat) : Cfg := { tt := tt, eqs := [35, 44, 23], ctr := ctr, nt := nt, ext := [97], obs := [(71, 0)], its := X.its, clos := X.clos, fuel := X.fuel, ios := X.ios, vas := X.vas }

def Its : List (Nat × ISpec) → Prop
  | [] => True
  | p :: r => (IHolds Tryd.prog p.1 p.2 ∧ Enters Tryd.prog p.1) ∧ Its r

theorem its_get : ∀ {l : List (Nat × ISpec)} {g : Nat} {sp : ISpec}, Its l → getIt g l = some sp → IHolds Tryd.prog g sp ∧ Enters Tryd.prog g
  | [], _, _, _, h => by simp [getIt] at h
  | (g, s) :: r, f, sp, ha, h => by
    simp only [getIt] at h
    cases hb : Nat.beq g f with
    | true =>
      rw [hb] at h
      have := Nat.eq_of_beq_eq_true hb
      subst this
      simp only [cond_true, Option.some.injEq] at h
      subst h
      exact ha.1
    | false => rw [hb] at h; exact its_get ha.2 h

def OkIo (f : Nat) (sp : IoSpec) : Prop := IoHolds Tryd.prog OB f sp ∧ Enters Tryd.prog f
def OkVa (f : Nat) (sp : VaSpec) : Prop := VaHolds Tryd.prog OB f sp ∧ Enters Tryd.prog f

def Ios : List (Nat × IoSpec) → Prop
  | [] => True
  | p :: r => OkIo p.1 p.2 ∧ Ios r

theorem ios_get : ∀ {l : List (Nat × IoSpec)} {g : Nat} {sp : IoSpec}, Ios l → getIo g l = some sp → OkIo g sp
  | [], _, _, _, h => by simp [getIo] at h
  | (g, s) :: r, f, sp, ha, h => by
    simp only [getIo] at h
    cases hb : Nat.beq g f with
    | true =>
      rw [hb] at h
      have := Nat.eq_of_beq_eq_true hb
      subst this
      simp only [cond_true, Option.some.injEq] at h
      subst h
      exact ha.1
    | false => rw [hb] at h; exact ios_get ha.2 h

def Vas : List (Nat × VaSpec) → Prop
  | [] => True
  | p :: r => OkVa p.1 p.2 ∧ Vas r

theorem vas_get : ∀ {l : List (Nat × VaSpec)} {g : Nat} {sp : VaSpec}, Vas l → getVa g l = some sp → OkVa g sp
  | [], _, _, _, h => by simp [getVa] at h
  | (g, s) :: r, f, sp, ha, h => by
    simp only [getVa] at h
    cases hb : Nat.beq g f with
    | true =>
      rw [hb] at h
      have := Nat.eq_of_beq_eq_true hb
      subst this
      simp only [cond_true, Option.some.injEq] at h
      subst h
      exact ha.1
    | false => rw [hb] at h; exact vas_get ha.2 h

structure XOk (X : Xt) : Prop where
  its : Its X.its
  ios : Ios X.ios
  vas : Vas X.vas

theorem x0 : XOk {} := ⟨True.intro, True.intro, True.intro⟩


def bodyOf (f : Func) : Code := match f.body with | some b => b | none => .skip

theorem zero71 : circ Tryd.zeroCells71 := by
  refine ⟨by kernel_rfl, fun a ha => ⟨false, ?_, fun h => by cases h⟩⟩
  have h : (Tryd.zeroCells71.toList.take 4096).all (fun v => match v with | .bool false => true | _ => false) = true := by kernel_rfl
  have hs : Tryd.zeroCells71.size = 16384 := by kernel_rfl
  rw [List.all_eq_true] at h
  have ha' : a < Tryd.zeroCells71.size := by omega
  have hm : Tryd.zeroCells71[a] ∈ Tryd.zeroCells71.toList.take 4096 := by
    rw [List.mem_take_iff_getElem]
    exact ⟨a, by simp [hs]; omega, by simp⟩
  have := h _ hm
  rw [Array.getElem?_eq_getElem ha']
  split at this
  · rename_i heq; rw [heq]
  · cases this

theorem ext97 : ∃ fn, Tryd.prog.funcs[97]? = some fn ∧ (fn.name == "runtime.NumGoroutine") = false ∧ fn.body.isNone = true ∧ Extern.findNext fn = none ∧ Extern.find fn = some Extern.MathSqrt.sqrt :=
  ⟨Tryd.f97, Tryd.func97, by kernel_rfl, by kernel_rfl, by kernel_rfl, by kernel_rfl⟩

theorem cfgOk {X : Xt} (hX : XOk X) {ctr : List (Nat × Spec)} {nt : Nat} (h : All ctr) : CfgOk Tryd.prog OB (cfg X ctr nt) where
  tbl := tbl
  eqs := eqsOk
  ctr := fun f sp hf => all_get h hf
  ext := fun f hf => by
    have : f = 97 := by simpa [memN_iff] using hf
    subst this
    exact ext97
  obs := fun t i hi => by
    simp only [obOf] at hi
    cases hb : Nat.beq 71 t with
    | false => rw [hb] at hi; cases hi
    | true =>
      rw [hb] at hi
      have := Nat.eq_of_beq_eq_true hb
      subst this
      simp only [cond_true, Option.some.injEq] at hi
      subst hi
      exact ⟨_, Tryd.zeroValue71, rfl, _, rfl, zero71⟩
  its := fun g isp h => its_get hX.its h
  extb := fun f k h => by simp [getEx] at h
  ios := fun g isp h => ios_get hX.ios h
  vas := fun g isp h => vas_get hX.vas h

theorem mkX {X : Xt} (hX : XOk X) {ctr : List (Nat × Spec)} (hctr : All ctr) {f nt : Nat} {fn : Func} {sp : Spec} (hf : Tryd.prog.funcs[f]? = some fn) (hb : fn.body = some (bodyOf fn)) (hnt : fn.ntmps = nt) (hps : (Nat.ble sp.pats.length nt && Nat.ble nt 1000000) = true)
    (hob : Nat.ble (obCount sp.pats) 1 = true) (hd : dstOk nt (bodyOf fn) = true) (hn : (fn.name == "runtime.NumGoroutine") = false) (anns : (argTy sp.pats).Den → List (St → LoopAnn))
    (h : ∀ x, sp.pre x → bodyVC (cfg X ctr nt) (par (cfg X ctr nt)) (anns x) fn.results.toList (bodyOf fn) sp x) : Ok f sp :=
  ⟨fn_sound (cfgOk hX hctr) (par_sound mixed (cfgOk hX hctr)) hf hb hnt (Nat.le_of_ble_eq_true (Bool.and_eq_true _ _ ▸ hps : _ ∧ _).1) (Nat.le_of_ble_eq_true (Bool.and_eq_true _ _ ▸ hps : _ ∧ _).2) (Nat.le_of_ble_eq_true hob) rfl hd anns h, fn, hf, hn, by rw [hb]; rfl⟩

theorem mk {ctr : List (Nat × Spec)} (hctr : All ctr) {f nt : Nat} {fn : Func} {sp : Spec} (hf : Tryd.prog.funcs[f]? = some fn) (hb : fn.body = some (bodyOf fn)) (hnt : fn.ntmps = nt) (hps : (Nat.ble sp.pats.length nt && Nat.ble nt 1000000) = true)
    (hob : Nat.ble (obCount sp.pats) 1 = true) (hd : dstOk nt (bodyOf fn) = true) (hn : (fn.name == "runtime.NumGoroutine") = false) (anns : (argTy sp.pats).Den → List (St → LoopAnn))
    (h : ∀ x, sp.pre x → bodyVC (cfg {} ctr nt) (par (cfg {} ctr nt)) (anns x) fn.results.toList (bodyOf fn) sp x) : Ok f sp := mkX x0 hctr hf hb hnt hps hob hd hn anns h

/-- A method that writes its receiver. -/
theorem mkIo {X : Xt} (hX : XOk X) {ctr : List (Nat × Spec)} (hctr : All ctr) {f nt : Nat} {fn : Func} {sp : IoSpec} (hf : Tryd.prog.funcs[f]? = some fn) (hb : fn.body = some (bodyOf fn)) (hnt : fn.ntmps = nt) (hps : (Nat.ble (sp.pats.length + 1) nt && Nat.ble nt 1000000) = true)
    (hob : (Nat.beq (obCount sp.pats) 0 && Nat.ble 1 sp.cs.length && Nat.ble (obKeys sp.cs 0).length 1000) = true) (hrs : fn.results.toList = []) (hd : dstOk nt (bodyOf fn) = true) (hn : (fn.name == "runtime.NumGoroutine") = false) (anns : (icTy sp.cs).Den → (argTy sp.pats).Den → List (St → LoopAnn))
    (h : ∀ x y, sp.pre x y → ioVC (cfg X ctr nt) (par (cfg X ctr nt)) (anns x y) (bodyOf fn) sp x y) : OkIo f sp := by
  simp only [Bool.and_eq_true] at hps hob
  exact ⟨io_sound (cfgOk hX hctr) (par_sound mixed (cfgOk hX hctr)) hf hb hnt (Nat.le_of_ble_eq_true hps.1) (Nat.le_of_ble_eq_true hps.2) (Nat.eq_of_beq_eq_true hob.1.1) (Nat.le_of_ble_eq_true hob.1.2) (Nat.le_of_ble_eq_true hob.2) hrs hd anns h, fn, hf, hn, by rw [hb]; rfl⟩

/-- A function that is handed a struct with slices of own memory, and hands it back. -/
theorem mkVa {X : Xt} (hX : XOk X) {ctr : List (Nat × Spec)} (hctr : All ctr) {f nt : Nat} {fn : Func} {sp : VaSpec} (hf : Tryd.prog.funcs[f]? = some fn) (hb : fn.body = some (bodyOf fn)) (hnt : fn.ntmps = nt) (hps : (Nat.ble (sp.pats.length + 1) nt && Nat.ble nt 1000000) = true)
    (hob : (Nat.beq (obCount sp.pats) 0 && noGl sp.pats) = true) (hd : dstOk nt (bodyOf fn) = true) (hn : (fn.name == "runtime.NumGoroutine") = false) (anns : (icTy sp.cs).Den → (argTy sp.pats).Den → List (St → LoopAnn))
    (h : ∀ x y, sp.pre x y → vaVC (cfg X ctr nt) (par (cfg X ctr nt)) (anns x y) fn.results.toList (bodyOf fn) sp x y) : OkVa f sp := by
  simp only [Bool.and_eq_true] at hps hob
  exact ⟨va_sound (cfgOk hX hctr) (par_sound mixed (cfgOk hX hctr)) hf hb hnt (Nat.le_of_ble_eq_true hps.1) (Nat.le_of_ble_eq_true hps.2) (Nat.eq_of_beq_eq_true hob.1) hob.2 rfl hd anns h, fn, hf, hn, by rw [hb]; rfl⟩

end Go.Eng.Lp
