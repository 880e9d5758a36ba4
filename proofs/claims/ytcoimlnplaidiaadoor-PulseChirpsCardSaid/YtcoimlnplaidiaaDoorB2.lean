/- From a law's contract to its given statement: its arguments read behind the call as before. Conditions: none beyond each lemma's own. -/
import Derived.Test.YtcoimlnplaidiaaDoorRows
import Derived.Test.YtcoimlnplaidiaaDoorB1
import Derived.Test.YtcoimlnplaidiaaDoorD0
import Derived.LaidMore
import Derived.OpenShut
import Derived.Stop.Joined
import Derived.Handed
import Derived.WalkKit
import Derived.ChangeCalls
import Derived.ProofKit
namespace Go.Eng.Pu
open Go.Eng Go.Proofs Go.ChangeShapes Go.WideShapes Go.ChangeAt Go.RowKit
set_option linter.all false
set_option maxRecDepth 100000

/-- What a law's contract says: it returns true, whatever fits, where the variable holds what its text lays. -/
@[reducible] def lawSpecG (tys : List Ty) : Spec := { pats := .gl 0 TurnT :: datP tys, res := [{ t := .bool }], pre := fun x => x.1 = turnsD ∧ fitsAll tys x.2, f := fun _ => (true, ()) }

abbrev laidG : List (String × DataW Unit) := [("shoebox/pulse.turns", Go.Proofs.YtcoimlnplaidiaaDoor.Rows.laid_shoebox_pulse_turns)]
theorem own : ownKnob Tryd.prog.godebug = none := by kernel_rfl
theorem laidOut : laidOutB Tryd.prog = true := by kernel_rfl
theorem gTurns : Tryd.prog.globalNamed "shoebox/pulse.turns" = some 0 := by kernel_rfl
theorem tTurns : (Tryd.prog.globals[0]?).map (·.type) = some 70 := by kernel_rfl
theorem c3 : Tryd.prog.cellsOf 3 = 1 := by kernel_rfl
theorem c69 : Tryd.prog.cellsOf 69 = 2 := by kernel_rfl
theorem c70 : Tryd.prog.cellsOf 70 = 8 := by kernel_rfl

theorem pair_of {H : Type} {enc : TypeId × Value → H} {W : World} {base fuel : Nat} {spare : Nat → Bool} {held : Bool} {cs : List Value} {a b : Int} {p : List MemPlace}
    (h : DataW.trod enc Tryd.prog W base spare held fuel 69 cs = some (.agg [.lit (.int .i64 a), .lit (.int .i64 b)], p)) : cs = [.int .i64 a, .int .i64 b] := by
  obtain ⟨y0, y1, n, e, hl, h0, h1⟩ := trod_struct2 Tryd.underlying69 h
  rw [c69] at hl
  rw [c3] at h0 h1
  simp only [Prod.mk.injEq, DataW.agg.injEq, List.cons.injEq, and_true] at e
  obtain ⟨⟨e0, e1⟩, _⟩ := e
  obtain ⟨k0, q0, z0, _⟩ := DataW.trod_int Tryd.underlying3 h0
  obtain ⟨k1, q1, z1, _⟩ := DataW.trod_int Tryd.underlying3 h1
  rw [z0] at e0
  rw [z1] at e1
  match cs, hl with
  | [u, v], _ =>
    simp at q0 q1 e0 e1
    rw [q0, q1, ← e0, ← e1]

theorem turns_of {W : World} (h : laidMetH Tryd.prog laidG W) : ∃ c el f, W.heap[0]? = some (.cells c el f) ∧ c.toList = [.int .i64 1, .int .i64 0, .int .i64 0, .int .i64 1, .int .i64 (-1), .int .i64 0, .int .i64 0, .int .i64 (-1)] := by
  rw [MakeChecks.laidMetH_plain _ _ _ (by kernel_rfl)] at h
  obtain ⟨ps, ⟨g0, t0, cs0, f0, p0, q0, hg0, ht0, hv0, hd0, _, _⟩, _, _⟩ := h
  obtain rfl := Option.some.inj (gTurns.symm.trans hg0)
  obtain rfl := Option.some.inj (tTurns.symm.trans ht0)
  have hheap : ∃ el f, W.heap[0]? = some (.cells cs0 el f) := by
    simp only [World.var?, gTurns, Option.bind_some] at hv0
    split at hv0
    · rename_i cs el f hh
      simp only [Option.some.injEq] at hv0
      exact ⟨el, f, by rw [hh, hv0]⟩
    · cases hv0
  obtain ⟨el, f, hheap⟩ := hheap
  refine ⟨cs0, el, f, hheap, ?_⟩
  obtain ⟨xs, m, _, hx, hlen, hn, hel⟩ := DataW.trod_array Tryd.underlying70 hd0
  rw [c70] at hlen
  simp only [Prod.mk.injEq] at hx
  obtain ⟨hx, _⟩ := hx
  have e0 := hel 0 (by decide)
  have e1 := hel 1 (by decide)
  have e2 := hel 2 (by decide)
  have e3 := hel 3 (by decide)
  rw [c69] at e0 e1 e2 e3
  match xs, hn, hx with
  | [x0, x1, x2, x3], _, hx =>
    simp only [Go.Proofs.YtcoimlnplaidiaaDoor.Rows.laid_shoebox_pulse_turns, List.map_cons, List.map_nil, DataW.agg.injEq, List.cons.injEq, and_true] at hx
    obtain ⟨z0, z1, z2, z3⟩ := hx
    obtain ⟨x0, y0⟩ := x0
    obtain ⟨x1, y1⟩ := x1
    obtain ⟨x2, y2⟩ := x2
    obtain ⟨x3, y3⟩ := x3
    simp only at z0 z1 z2 z3
    subst z0 z1 z2 z3
    have a0 := pair_of (show DataW.trod _ Tryd.prog W 0 _ false m 69 _ = some _ from e0)
    have a1 := pair_of (show DataW.trod _ Tryd.prog W 0 _ false m 69 _ = some _ from e1)
    have a2 := pair_of (show DataW.trod _ Tryd.prog W 0 _ false m 69 _ = some _ from e2)
    have a3 := pair_of (show DataW.trod _ Tryd.prog W 0 _ false m 69 _ = some _ from e3)
    match hc : cs0.toList, hlen with
    | [b0, b1, b2, b3, b4, b5, b6, b7], _ =>
      rw [hc] at a0 a1 a2 a3
      simp at a0 a1 a2 a3
      obtain ⟨rfl, rfl⟩ := a0
      obtain ⟨rfl, rfl⟩ := a1
      obtain ⟨rfl, rfl⟩ := a2
      obtain ⟨rfl, rfl⟩ := a3
      rfl

theorem turns_rep {W : World} (h : laidMetH Tryd.prog laidG W) : RepV (fun b c => ¬ False ∧ ∃ el f, W.heap[b]? = some (.cells c el f)) (.ptr TurnT) turnsD (.pointer (some ⟨0, 0, none⟩)) := by
  obtain ⟨c, el, f, h1, h2⟩ := turns_of h
  have hs : c.size = 8 := by rw [← Array.length_toList, h2]; rfl
  refine ⟨_, ⟨⟨0, 0, none⟩, c, rfl, rfl, ⟨id, el, f, h1⟩, by rw [hs]; decide, ?_⟩, .inr ⟨rfl, rfl⟩⟩
  rw [h2]
  exact ⟨[.int .i64 1, .int .i64 0], _, rfl, ⟨[_], [_], rfl, rfl, [_], [], rfl, rfl, rfl⟩, [.int .i64 0, .int .i64 1], _, rfl, ⟨[_], [_], rfl, rfl, [_], [], rfl, rfl, rfl⟩,
    [.int .i64 (-1), .int .i64 0], _, rfl, ⟨[_], [_], rfl, rfl, [_], [], rfl, rfl, rfl⟩, [.int .i64 0, .int .i64 (-1)], [], rfl, ⟨[_], [_], rfl, rfl, [_], [], rfl, rfl, rfl⟩, rfl⟩

theorem law_calls {H : Type} {enc : TypeId × Value → H} {F : Nat} {tys : List Ty} (h : Ok F (lawSpecG tys)) {W : World} (hL : laidMetH Tryd.prog laidG W) {args : Array Value} {ds : List (DataW H)} {ps : List MemPlace} {ts : List TypeId} {base : Nat} (hbr : brAll tt ts tys)
    (hA : DataW.TrodAll enc Tryd.prog W 0 (fun _ => true) true ts args.toList ds ps) (hval : ∀ (j : Nat) t v, ts[j]? = some t → args.toList[j]? = some v → Value.okWide Tryd.prog W .any base t v) :
    Calls Tryd.prog F args W fun e W' => e = .returned (.bool true) ∧ Below W.heap.size W W' := by
  obtain ⟨x, hx, hf⟩ := args_of tbl (OB := OB) hbr hA hval
  have := h.1 W (fun _ => False) (turnsD, x) args.toList [] (fun _ h => h.elim) ⟨turns_rep hL, hx⟩ ⟨rfl, hf⟩
  refine this.mono fun e W' ⟨rs, g, h1, h2, h3⟩ => ?_
  subst h1
  obtain ⟨v, vs', rfl, ⟨l, r1, ⟨r2, _⟩ | ⟨_, r2⟩⟩, rfl, rfl⟩ := h3
  · cases r2
  · have r1 : l = [.bool true] := r1
    rw [r1] at r2
    simp at r2
    subst r2
    exact ⟨rfl, h2.os, h2.tape, h2.output, h2.size, fun k hk => h2.keep k hk (by simp)⟩

theorem kept_of {W W' : World} (h : Below W.heap.size W W') (may : MemPlace → Prop) : W.keptBut W' may := by
  refine ⟨h.os, h.output, fun i hi => ?_⟩
  rw [h.block i hi]
  split
  · rename_i h1 h2
    rw [h1] at h2
    simp only [Option.some.injEq, Obj.cells.injEq] at h2
    obtain ⟨rfl, rfl, rfl⟩ := h2
    exact ⟨rfl, rfl, rfl, fun _ _ => rfl⟩
  · rename_i h1 h2
    rw [h1] at h2
    simp only [Option.some.injEq, Obj.map.injEq] at h2
    obtain ⟨rfl, rfl⟩ := h2
    exact .inr ⟨rfl, rfl⟩
  · rfl

def readAll (P : Program) : List TypeId → Bool
  | [] => true
  | t :: r => P.readableRec t && decide (t < P.types.size) && readAll P r

theorem trodAll_stays {P : Program} (hl : laidOutB P = true) {H : Type} {enc : TypeId × Value → H} {W W' : World} (hb : Below W.heap.size W W') : ∀ {ts : List TypeId} {vs : List Value} {ds : List (DataW H)} {ps : List MemPlace}, readAll P ts = true →
    DataW.TrodAll enc P W 0 (fun _ => true) true ts vs ds ps → DataW.TrodAll enc P W' 0 (fun b => decide (b < W.heap.size)) true ts vs ds ps
  | [], [], [], _, _, h => h
  | t :: ts, v :: vs, d :: ds, ps, hr, ⟨p, q, h1, h2, h3⟩ => by
    simp only [readAll, Bool.and_eq_true, decide_eq_true_eq] at hr
    have hlt := DataW.TrodAll.lt (show DataW.TrodAll enc P W 0 (fun _ => true) true (t :: ts) (v :: vs) (d :: ds) ps from ⟨p, q, h1, h2, h3⟩)
    subst h3
    exact ⟨p, q, Below.trod hl hr.1.1 hr.1.2 h1 hb (fun x hx => hlt x (List.mem_append.2 (.inl hx))), trodAll_stays hl hb hr.2 h2, rfl⟩

theorem law_post {H : Type} {enc : TypeId × Value → H} {f : Func} {s : ChangeSpec} {W W' : World} {args : Array Value} {ds gs : List (DataW H)} {before : List MemPlace}
    (hW : DataW.Whole enc Tryd.prog f.params.toList s.vars false W args.toList ds gs before) (hv : s.vars = []) (hr : f.resultTypes.toList = [4]) (hs : f.resultTypes.size = 1) (hfn : s.fn H (ds ++ gs) = { results := [.lit (.bool true)], args := ds }) (hread : readAll Tryd.prog f.params.toList = true)
    (hb : Below W.heap.size W W') : s.post enc Tryd.prog f false true false false W args (.bool true) W' := by
  have hW0 := hW
  obtain ⟨p, q, hA, hV, rfl, _, _⟩ := hW
  rw [hv] at hV
  obtain ⟨rfl, rfl⟩ := trodVars_none hV
  refine ⟨ds, [], p ++ [], [], p, [], hW0, ?_, ?_, ?_, kept_of hb _, fun h => by cases h⟩
  · rw [hfn, hr, hs]
    exact trodAll_cons_mk (shut_bool Tryd.underlying4 true) trodAll_mk0
  · rw [hfn]
    exact trodAll_stays laidOut hb hread hA
  · rw [hfn, hv]
    rfl

/-- The door's own heap meets the condition. -/
theorem door_met (os : Os) (args : Array Value) : laidMetH Tryd.prog laidG ((World.doorLaid Tryd.prog 400 os).forCall (fun _ _ => 0) ⟨#[], args, []⟩).memory :=
  laidMetH_of_parts3 (fuel := 8) (laidMet_of_run' 8 (by kernel_rfl) (by kernel_rfl)) (by kernel_rfl) (by kernel_rfl)

theorem law_lifted {F : Nat} {fn : Func} {s : ChangeSpec} {tys : List Ty} (h : Ok F (lawSpecG tys)) (hf : Tryd.prog.funcs[F]? = some fn) (hinit : Tryd.prog.inits.idxOf? F = none) (hbr : brAll tt fn.params.toList tys) (hv : s.vars = []) (hr : fn.resultTypes.toList = [4]) (hs : fn.resultTypes.size = 1)
    (hread : readAll Tryd.prog fn.params.toList = true) (hfn : ∀ (H : Type) (ds : List (DataW H)), ds.length = fn.params.size → s.fn H (ds ++ []) = { results := [.lit (.bool true)], args := ds })
    (os : Os) (started : os.Started) (H : Type) (enc : TypeId × Value → H)
    (wit : ∃ (w : World) (tape : Tape) (i : Input), w.os = os ∧ (w.forCall tape i).Shaped Tryd.checked.prog ∧ i.vars = [] ∧ Input.okWide Tryd.checked.prog (w.forCall tape i) .any w.heap.size F i ∧
      ((s.pre enc Tryd.checked.prog fn [] false (w.forCall tape i).memory i.args ∧ laidMetH Tryd.prog laidG (w.forCall tape i).memory) ∧ sizedMet enc Tryd.checked.prog fn (OpenSpec.ofChange s) false (w.forCall tape i).memory i.args) ∧ ({} : Assume).holds Tryd.checked.prog (lone (Frame.enter Tryd.checked.prog F i.args .normal) [] (w.forCall tape i))) :
    ReturnsInHanded {} Tryd.checked os F .any (fun w args => (s.pre enc Tryd.prog fn [] false w args ∧ laidMetH Tryd.prog laidG w) ∧ sizedMet enc Tryd.prog fn (OpenSpec.ofChange s) false w args) (s.post enc Tryd.prog fn false true false false) := by
  refine returnsInHanded_of_change_and (C := Tryd.checked) (X := fun w _ => laidMetH Tryd.prog laidG w) (fun _ _ _ hh h => h.of_heap hh) own started hinit hf wit ?_
  intro W base args ds gs before hval hW _ _ hL _
  have hW0 := hW
  obtain ⟨p, q, hA, hV, rfl, _, _⟩ := hW
  have hV' : DataW.TrodVars enc Tryd.prog W (fun _ => true) [] gs q := by rw [← hv]; exact hV
  obtain ⟨rfl, rfl⟩ := trodVars_none hV'
  have hlen : ds.length = fn.params.size := by
    have := (Go.trodAll_length hA).2
    simpa using this
  refine (law_calls h hL hbr hA (fun j t v h1 h2 => hval j t v (by simpa using h1) (by simpa using h2))).mono fun e W' ⟨he, hb⟩ => ?_
  subst he
  exact ⟨_, rfl, law_post hW0 hv hr hs (hfn H ds hlen) hread hb⟩

end Go.Eng.Pu
