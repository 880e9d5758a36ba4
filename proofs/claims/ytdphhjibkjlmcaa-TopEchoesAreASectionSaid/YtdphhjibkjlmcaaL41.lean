/- FirstOpen and Margin, walked with the generic functions and closures in place. Conditions: each contract's own. -/
import Derived.Test.YtdphhjibkjlmcaaL40
import Derived.Test.YtdphhjibkjlmcaaED
namespace Go.Eng.Lp
open Go.Eng Go.Proofs
set_option linter.all false
set_option maxRecDepth 100000
set_option maxHeartbeats 8000000

/-- What an annotation reads: any data of a slot, a closure's caught keys, a cell's number. -/
def withD (T : Ty) (t : Nat) (st : St) (K : T.Den → LoopAnn) : LoopAnn :=
  match findSlot t st with
  | some (.one s) => match s.den T with
    | some x => K x
    | none => K T.dflt
  | _ => K T.dflt
def capKey (t i : Nat) (st : St) : Nat :=
  match findSlot t st with
  | some (.one (.fn _ _ cs)) => match nth cs i with
    | some p => p.1
    | none => 0
  | _ => 0
def celKey (k i : Nat) (st : St) : Nat :=
  match findCell k 0 st with
  | some (.fn _ _ cs) => match nth cs i with
    | some p => p.1
    | none => 0
  | _ => 0

/-- A contract for each argument alone. -/
theorem ok_each {f : Nat} {sp : Spec} (h : ∀ x0, sp.pre x0 → Ok f { sp with pre := fun x => x = x0 }) (he : Enters Try.prog f) : Ok f sp :=
  ⟨fun w M x vs bs hM hA hp => (h x hp).1 w M x vs bs hM hA rfl, he⟩

/-- As mkX, for settings with functions that are walked in place. -/
theorem mkI {c : Cfg} (hC : ∀ nt, CfgOk Try.prog OB { c with nt := nt }) {f nt : Nat} {fn : Func} {sp : Spec} (hf : Try.prog.funcs[f]? = some fn) (hb : fn.body = some (bodyOf fn)) (hnt : fn.ntmps = nt) (hps : (Nat.ble sp.pats.length nt && Nat.ble nt 1000000) = true)
    (hob : Nat.ble (obCount sp.pats) 1 = true) (hd : dstOk nt (bodyOf fn) = true) (hn : (fn.name == "runtime.NumGoroutine") = false) (anns : (argTy sp.pats).Den → List (St → LoopAnn))
    (h : ∀ x, sp.pre x → bodyVC { c with nt := nt } (par { c with nt := nt }) (anns x) fn.results.toList (bodyOf fn) sp x) : Ok f sp :=
  ⟨fn_sound (hC nt) (par_sound mixed (hC nt)) hf hb hnt (Nat.le_of_ble_eq_true (Bool.and_eq_true _ _ ▸ hps : _ ∧ _).1) (Nat.le_of_ble_eq_true (Bool.and_eq_true _ _ ▸ hps : _ ∧ _).2) (Nat.le_of_ble_eq_true hob) rfl hd anns h, fn, hf, hn, by rw [hb]; rfl⟩

noncomputable def w112 (ann : St → LoopAnn) : InlF := { nt := 19, np := 2, body := bodyOf Try.f52, rs := [.tmp 4], anns := [ann] }
noncomputable def w126 : InlF := { nt := 21, np := 3, body := bodyOf Try.f50, rs := [.tmp 4], anns := [] }
noncomputable def w111 : InlF := { nt := 8, np := 2, body := bodyOf Try.f38, rs := [.tmp 3], anns := [] }
noncomputable def w110 : InlF := { nt := 9, np := 2, body := bodyOf Try.f37, rs := [.tmp 4], anns := [] }
noncomputable def w109 : InlF := { nt := 6, np := 2, body := bodyOf Try.f36, rs := [.tmp 4], anns := [] }

theorem one_ok {g : Nat} {I : InlF} {fn : Func} (hf : Try.prog.funcs[g]? = some fn) (hb : fn.body = some I.body) (hnt : fn.ntmps = I.nt) (hrs : fn.results.toList = I.rs) (hd : dstOk I.nt I.body = true) (hnr : noRange I.body = true) (hl : Nat.ble I.nt 1000000 = true)
    (hn : (fn.name == "runtime.NumGoroutine") = false) : InlOk Try.prog [(g, I)] := by
  intro g' I' h
  simp only [getInl] at h
  cases hb' : Nat.beq g g' with
  | false => rw [hb'] at h; cases h
  | true =>
    rw [hb'] at h
    have := Nat.eq_of_beq_eq_true hb'
    subst this
    simp only [cond_true, Option.some.injEq] at h
    subst h
    exact ⟨fn, hf, hb, hnt, hrs, hd, hnr, Nat.le_of_ble_eq_true hl, hn⟩

theorem two_ok {g g2 : Nat} {I I2 : InlF} (h1 : InlOk Try.prog [(g, I)]) (h2 : InlOk Try.prog [(g2, I2)]) : InlOk Try.prog [(g, I), (g2, I2)] := by
  intro g' I' h
  simp only [getInl] at h
  cases hb' : Nat.beq g g' with
  | false =>
    rw [hb'] at h
    exact h2 g' I' h
  | true =>
    rw [hb'] at h
    exact h1 g' I' (by simp only [getInl]; rw [hb']; exact h)

theorem ok112 (ann : St → LoopAnn) : InlOk Try.prog [(52, w112 ann)] := one_ok Try.func52 rfl rfl rfl (by kernel_rfl) (by kernel_rfl) rfl (by kernel_rfl)
theorem ok126 : InlOk Try.prog [(50, w126)] := one_ok Try.func50 rfl rfl rfl (by kernel_rfl) (by kernel_rfl) rfl (by kernel_rfl)
theorem ok111 : InlOk Try.prog [(38, w111)] := one_ok Try.func38 rfl rfl rfl (by kernel_rfl) (by kernel_rfl) rfl (by kernel_rfl)
theorem ok110 : InlOk Try.prog [(37, w110)] := one_ok Try.func37 rfl rfl rfl (by kernel_rfl) (by kernel_rfl) rfl (by kernel_rfl)
theorem ok109 : InlOk Try.prog [(36, w109)] := one_ok Try.func36 rfl rfl rfl (by kernel_rfl) (by kernel_rfl) rfl (by kernel_rfl)

def foErr (l : List LD) : Int := if lpErr l = 0 then (frE l).2 else lpErr l
def foVal (l : List LD) : Int := if lpErr l = 0 then (frE l).1 else 0
@[reducible] def sFirstO : Spec := { pats := [.dat (.sl LoopT)], res := [{ t := I64 }, { t := I64 }], pre := fun _ => True, f := fun x => (foVal x.1, foErr x.1, ()) }

def ixAnn (l : List LD) (p : LD → Bool) : LoopAnn := { σ := Nat, pat := fun k => [sI 8 k], inv := fun k => k ≤ l.length ∧ ∀ j, j < k → p (l.getD j ([], 0, ())) = true, meas := fun k => l.length - k }

noncomputable def foTab : St → LoopAnn := fun st => withD (.sl LoopT) 0 st fun l => ixAnn l (fun x => yesB x.1 x.2.1)

noncomputable def maTab : St → LoopAnn := fun st => withD (.sl LoopT) 0 st fun l => withC (celKey (capKey 1 0 st) 0 st) 0 st fun n => ixAnn l (fun x => nxB n x)

def maErr (l : List LD) : Int := lpErr l
def maVal (l : List LD) : Int := if lpErr l = 0 then marI l else 0
def mpAnn (l : List LD) : LoopAnn := { σ := Nat, pat := fun k => [sI 5 (100 * k)], inv := fun k => k ≤ 40 ∧ ∀ j : Nat, j < k → safeB l (100 * j + 100) = true, meas := fun k => 40 - k }
@[reducible] def sMargin : Spec := { pats := [.dat (.sl LoopT)], res := [{ t := I64 }, { t := I64 }], pre := fun _ => True, f := fun x => (maVal x.1, maErr x.1, ()) }

/-- Margin -/
theorem h71 : Ok 11 sMargin := by
  refine mkI (c := (((((cfg {} [(35, sLpErr), (42, sDec), (51, sScaledO)] 0).withInl [(50, w126)]).withInl [(38, w111)]).withInl [(52, w112 maTab)]).withInl [(37, w110), (36, w109)]))
    (withInl_ok (withInl_ok (withInl_ok (withInl_ok (fun nt => cfgOk x0 (ctr := [(35, sLpErr), (42, sDec), (51, sScaledO)]) (nt := nt) ⟨h108, h106, h100, trivial⟩) mixed ok126) mixed ok111) mixed (ok112 _)) mixed (two_ok ok110 ok109)) (nt := 26) Try.func11 rfl rfl rfl rfl (by kernel_rfl) (by kernel_rfl) (fun x => [fun _ => mpAnn x.1]) ?_
  rintro ⟨(l : List LD), _⟩ _
  repeat' (intro hzz; (try (rename Two => hq; cases hq)); (try dsimp only at hzz); (try simp only [resTy, argTy, eqD, inR, big, wantOf, Bool.not_true, Bool.not_false, Bool.true_eq, decide_eq_true_eq, decide_eq_false_iff_not, Bool.not_eq_true', Bool.not_eq_false', Bool.and_eq_true, Prod.mk.injEq, and_true, true_and, Int.not_lt, Int.not_le, gt_iff_lt, ge_iff_le] at hzz); (try simp only [resTy, argTy, eqD, inR, big, wantOf, Bool.not_true, Bool.not_false, Bool.true_eq, decide_eq_true_eq, decide_eq_false_iff_not, Bool.not_eq_true', Bool.not_eq_false', Bool.and_eq_true, Prod.mk.injEq, and_true, true_and, Int.not_lt, Int.not_le, gt_iff_lt, ge_iff_le, getD_p] at hzz); (try (revert hzz; intro _)))
  all_goals try (rename Unit => hq; clear hq)
  all_goals try ((with_reducible refine Held.mk ?_); (with_reducible (first | refine Frz.mk ?_ | refine And.intro (Frz.mk ?_) ?_ | refine And.intro ?_ (Frz.mk ?_))); repeat' first | exact True.intro | (change _ = _; with_reducible rfl) | refine And.intro ?_ ?_ | (with_reducible refine Frz.mk ?_))
  all_goals try (refine Held.mk ?_; (try dsimp only at *); (try simp only [resTy, argTy, eqD, inR, big, wantOf, Bool.not_true, Bool.not_false, Bool.true_eq, decide_eq_true_eq, decide_eq_false_iff_not, Bool.not_eq_true', Bool.not_eq_false', Bool.and_eq_true, Prod.mk.injEq, and_true, true_and, Int.not_lt, Int.not_le, gt_iff_lt, ge_iff_le] at *); (try simp only [resTy, argTy, eqD, inR, big, wantOf, Bool.not_true, Bool.not_false, Bool.true_eq, decide_eq_true_eq, decide_eq_false_iff_not, Bool.not_eq_true', Bool.not_eq_false', Bool.and_eq_true, Prod.mk.injEq, and_true, true_and, Int.not_lt, Int.not_le, gt_iff_lt, ge_iff_le, getD_p] at *))
  all_goals try omega
  · rename_i h
    simp only [maVal, maErr]; rw [if_neg h]; exact ⟨rfl, trivial⟩
  ·
    refine GHeld.mk ?_
    refine Exists.intro (0 : Nat) ?_
    refine And.intro (Leaf.mk ?_) ?_
    · repeat' first | exact True.intro | refine And.intro ?_ ?_
      all_goals try ((change _ = _ <;> try dsimp only) <;> try with_reducible rfl)
      all_goals try omega
      all_goals (rfl)
    exact ⟨Nat.zero_le _, fun j hj => absurd hj (Nat.not_lt_zero j)⟩
  · rename_i h k h2 h3
    refine GHeld.mk ?_
    refine Exists.intro (0 : Nat) ?_
    refine And.intro (Leaf.mk ?_) ?_
    · repeat' first | exact True.intro | refine And.intro ?_ ?_
      all_goals try ((change _ = _ <;> try dsimp only) <;> try with_reducible rfl)
      all_goals try omega
      all_goals (rfl)
    exact ⟨Nat.zero_le _, fun j hj => absurd hj (Nat.not_lt_zero j)⟩
  · rename_i h k h2 h3 i h4 h5
    exact ⟨(lp_good h).2.2 i (by omega), (show (0 : Int) ≤ 100 * (k : Int) + 100 by omega), (show 100 * (k : Int) + 100 ≤ 4000 by omega)⟩
  · rename_i h k h2 h3 i h4 h5 h6
    exact scaled_good ((lp_good h).2.2 i (by omega)) (by omega) h6
  · rename_i h k h2 h3 i h4 h5 h6 h7 h8
    have e : safeB l (100 * (k : Int) + 100) = false := decide_eq_false fun H => by
      have := H i (by omega)
      simp only [nxB, Bool.and_eq_true, yesB, decide_eq_true_eq] at this
      exact h7 this.2
    simp only [maVal, maErr]; rw [if_pos h, h]
    exact ⟨(marK_end h2.1 h2.2 (.inr e)).symm, rfl⟩
  · rename_i h k h2 h3 i h4 h5 h6 h7
    have := (lp_good h).2.1
    omega
  · rename_i h k h2 h3 i h4 h5 h6 h7
    refine GHeld.mk ?_
    refine Exists.intro (i + 1) ?_
    refine And.intro (Leaf.mk ?_) ?_
    · repeat' first | exact True.intro | refine And.intro ?_ ?_
      all_goals try ((change _ = _ <;> try dsimp only) <;> try with_reducible rfl)
      all_goals try omega
      all_goals (rfl)
    exact ⟨⟨(show i + 1 ≤ l.length by omega), all_step h4.2 (by simp only [nxB, Bool.and_eq_true, yesB, decide_eq_true_eq]; exact ⟨h6, h7⟩)⟩, (show l.length - (i + 1) < l.length - i by omega)⟩
  · rename_i h k h2 h3 i h4 h5 h6 h7
    have e : safeB l (100 * (k : Int) + 100) = false := decide_eq_false fun H => by
      have := H i (by omega)
      simp only [nxB, Bool.and_eq_true, decide_eq_true_eq] at this
      omega
    simp only [maVal, maErr]; rw [if_pos h, h]
    exact ⟨(marK_end h2.1 h2.2 (.inr e)).symm, rfl⟩
  · rename_i h k h2 h3 i h4 h5 h6
    have e : safeB l (100 * (k : Int) + 100) = true := decide_eq_true fun j hj => h4.2 j (by omega)
    refine GHeld.mk ?_
    refine Exists.intro (k + 1) ?_
    refine And.intro (Leaf.mk ?_) ?_
    · repeat' first | exact True.intro | refine And.intro ?_ ?_
      all_goals try ((change _ = _ <;> try dsimp only) <;> try with_reducible rfl)
      all_goals try omega
      all_goals ((show 100 * (k : Int) + 100 = 100 * ((k + 1 : Nat) : Int); omega))
    exact ⟨⟨(show k + 1 ≤ 40 by omega), all_step h2.2 e⟩, (show 40 - (k + 1) < 40 - k by omega)⟩
  · rename_i h k h2 h3
    simp only [maVal, maErr]; rw [if_pos h, h]
    exact ⟨(marK_end h2.1 h2.2 (.inl (by omega))).symm, rfl⟩

end Go.Eng.Lp
