/- From a law's contract to its given statement: its arguments read behind the call as before. Conditions: none beyond each lemma's own. -/
import Derived.Test.YtdphhjibkjlmcaaRows
import Derived.Test.YtdphhjibkjlmcaaB1
import Derived.Test.YtdphhjibkjlmcaaL2
import Derived.WalkKit
import Derived.ChangeCalls
import Derived.ProofKit
namespace Go.Eng.Lp
open Go.Eng Go.Proofs Go.ChangeShapes Go.WideShapes Go.ChangeAt Go.RowKit
set_option linter.all false
set_option maxRecDepth 100000

/-- What a law's contract says: it returns true, whatever fits. -/
@[reducible] def lawSpec (tys : List Ty) : Spec := { pats := datP tys, res := [{ t := .bool }], pre := fitsAll tys, f := fun _ => (true, ()) }

theorem own : ownKnob Try.prog.godebug = none := by kernel_rfl
theorem laidOut : laidOutB Try.prog = true := by kernel_rfl

theorem law_calls {H : Type} {enc : TypeId × Value → H} {F : Nat} {tys : List Ty} (h : Ok F (lawSpec tys)) {W : World} {args : Array Value} {ds : List (DataW H)} {ps : List MemPlace} {ts : List TypeId} {base : Nat} (hbr : brAll tt ts tys)
    (hA : DataW.TrodAll enc Try.prog W 0 (fun _ => true) true ts args.toList ds ps) (hval : ∀ (j : Nat) t v, ts[j]? = some t → args.toList[j]? = some v → Value.okWide Try.prog W .any base t v) :
    Calls Try.prog F args W fun e W' => e = .returned (.bool true) ∧ Below W.heap.size W W' := by
  obtain ⟨x, hx, hf⟩ := args_of tbl (OB := OB) hbr hA hval
  have := h.1 W (fun _ => False) x args.toList [] (fun _ h => h.elim) hx hf
  refine this.mono fun e W' ⟨rs, g, h1, h2, h3⟩ => ?_
  subst h1
  obtain ⟨v, vs', rfl, ⟨l, r1, ⟨r2, _⟩ | ⟨_, r2⟩⟩, rfl, rfl⟩ := h3
  · cases r2
  · have r1 : l = [.bool true] := r1
    rw [r1] at r2
    simp at r2
    subst r2
    exact ⟨rfl, h2.os, h2.tape, h2.output, h2.size, fun k hk => h2.keep k hk (by simp)⟩

theorem kept_of {W W' : World} (h : Below W.heap.size W W') (may : MemPlace → Prop) : W.keptBut W' may := by
  refine ⟨h.os, h.output, fun i hi => ?_⟩
  rw [h.block i hi]
  split
  · rename_i h1 h2
    rw [h1] at h2
    simp only [Option.some.injEq, Obj.cells.injEq] at h2
    obtain ⟨rfl, rfl, rfl⟩ := h2
    exact ⟨rfl, rfl, rfl, fun _ _ => rfl⟩
  · rename_i h1 h2
    rw [h1] at h2
    simp only [Option.some.injEq, Obj.map.injEq] at h2
    obtain ⟨rfl, rfl⟩ := h2
    exact .inr ⟨rfl, rfl⟩
  · rfl

def readAll (P : Program) : List TypeId → Bool
  | [] => true
  | t :: r => P.readableRec t && decide (t < P.types.size) && readAll P r

theorem trodAll_stays {P : Program} (hl : laidOutB P = true) {H : Type} {enc : TypeId × Value → H} {W W' : World} (hb : Below W.heap.size W W') : ∀ {ts : List TypeId} {vs : List Value} {ds : List (DataW H)} {ps : List MemPlace}, readAll P ts = true →
    DataW.TrodAll enc P W 0 (fun _ => true) true ts vs ds ps → DataW.TrodAll enc P W' 0 (fun b => decide (b < W.heap.size)) true ts vs ds ps
  | [], [], [], _, _, h => h
  | t :: ts, v :: vs, d :: ds, ps, hr, ⟨p, q, h1, h2, h3⟩ => by
    simp only [readAll, Bool.and_eq_true, decide_eq_true_eq] at hr
    have hlt := DataW.TrodAll.lt (show DataW.TrodAll enc P W 0 (fun _ => true) true (t :: ts) (v :: vs) (d :: ds) ps from ⟨p, q, h1, h2, h3⟩)
    subst h3
    exact ⟨p, q, Below.trod hl hr.1.1 hr.1.2 h1 hb (fun x hx => hlt x (List.mem_append.2 (.inl hx))), trodAll_stays hl hb hr.2 h2, rfl⟩

theorem law_post {H : Type} {enc : TypeId × Value → H} {f : Func} {s : ChangeSpec} {W W' : World} {args : Array Value} {ds gs : List (DataW H)} {before : List MemPlace}
    (hW : DataW.Whole enc Try.prog f.params.toList s.vars false W args.toList ds gs before) (hv : s.vars = []) (hr : f.resultTypes.toList = [4]) (hs : f.resultTypes.size = 1) (hfn : s.fn H (ds ++ gs) = { results := [.lit (.bool true)], args := ds }) (hread : readAll Try.prog f.params.toList = true)
    (hb : Below W.heap.size W W') : s.post enc Try.prog f false true false false W args (.bool true) W' := by
  have hW0 := hW
  obtain ⟨p, q, hA, hV, rfl, _, _⟩ := hW
  rw [hv] at hV
  obtain ⟨rfl, rfl⟩ := trodVars_none hV
  refine ⟨ds, [], p ++ [], [], p, [], hW0, ?_, ?_, ?_, kept_of hb _, fun h => by cases h⟩
  · rw [hfn, hr, hs]
    exact trodAll_cons_mk (shut_bool Try.underlying4 true) trodAll_mk0
  · rw [hfn]
    exact trodAll_stays laidOut hb hread hA
  · rw [hfn, hv]
    rfl

theorem law_lifted {F : Nat} {fn : Func} {s : ChangeSpec} {tys : List Ty} (h : Ok F (lawSpec tys)) (hf : Try.prog.funcs[F]? = some fn) (hinit : Try.prog.inits.idxOf? F = none) (hbr : brAll tt fn.params.toList tys) (hv : s.vars = []) (hr : fn.resultTypes.toList = [4]) (hs : fn.resultTypes.size = 1)
    (hread : readAll Try.prog fn.params.toList = true) (hfn : ∀ (H : Type) (ds : List (DataW H)), ds.length = fn.params.size → s.fn H (ds ++ []) = { results := [.lit (.bool true)], args := ds })
    (os : Os) (started : os.Started) (H : Type) (enc : TypeId × Value → H)
    (wit : ∃ (w : World) (tape : Tape) (i : Input), w.os = os ∧ (w.forCall tape i).Shaped Try.checked.prog ∧ i.vars = [] ∧ Input.okWide Try.checked.prog (w.forCall tape i) .any w.heap.size F i ∧
      s.pre6 enc Try.checked.prog fn [] false (w.forCall tape i).memory i.args ∧ ({ modest := false } : Assume).holds Try.checked.prog (lone (Frame.enter Try.checked.prog F i.args .normal) [] (w.forCall tape i))) :
    ReturnsInHanded {} Try.checked os F .any (s.pre6 enc Try.prog fn [] false) (s.post enc Try.prog fn false true false false) := by
  refine returnsInHanded_of_change (C := Try.checked) own started hinit hf wit ?_
  intro W base args ds gs before hval hW _ _
  have hW0 := hW
  obtain ⟨p, q, hA, hV, rfl, _, _⟩ := hW
  have hV' : DataW.TrodVars enc Try.prog W (fun _ => true) [] gs q := by rw [← hv]; exact hV
  obtain ⟨rfl, rfl⟩ := trodVars_none hV'
  have hlen : ds.length = fn.params.size := by
    have := (Go.trodAll_length hA).2
    simpa using this
  refine (law_calls h hbr hA (fun j t v h1 h2 => hval j t v (by simpa using h1) (by simpa using h2))).mono fun e W' ⟨he, hb⟩ => ?_
  subst he
  exact ⟨_, rfl, law_post hW0 hv hr hs (hfn H ds hlen) hread hb⟩

end Go.Eng.Lp
