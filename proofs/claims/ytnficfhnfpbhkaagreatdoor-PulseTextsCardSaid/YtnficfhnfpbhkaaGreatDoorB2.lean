/- From the law's contract to its given statement: arguments and laid tables read behind the call as before. Conditions: none beyond each lemma's own. -/
import Derived.Test.YtnficfhnfpbhkaaGreatDoorRows
import Derived.Test.YtnficfhnfpbhkaaGreatDoorB1
import Derived.Test.YtnficfhnfpbhkaaGreatDoorX1
import Derived.LaidMore
import Derived.LaidLaws
import Derived.Lay
import Derived.Stop.LaidErr
import Derived.Shelf.Vars
import Derived.OpenShut
import Derived.Stop.Joined
import Derived.Handed
import Derived.WalkKit
import Derived.ChangeCalls
import Derived.ProofKit
namespace Go.Eng.Pu
open Go.Eng Go.Proofs Go.ChangeShapes Go.WideShapes Go.ChangeAt Go.RowKit
set_option linter.all false
set_option maxRecDepth 100000

abbrev laidG : List (String × DataW Unit) := Go.Proofs.YtnficfhnfpbhkaaGreatDoor.Rows.pulseTextsRow.laid
theorem own : ownKnob Tryz.prog.godebug = none := by kernel_rfl
theorem laidOut : laidOutB Tryz.prog = true := by kernel_rfl
theorem gSyn : Tryz.prog.globalNamed "strconv.ErrSyntax" = some 1 := by kernel_rfl
theorem tSyn : (Tryz.prog.globals[1]?).map (·.type) = some 62 := by kernel_rfl
theorem gRng : Tryz.prog.globalNamed "strconv.ErrRange" = some 2 := by kernel_rfl
theorem tRng : (Tryz.prog.globals[2]?).map (·.type) = some 62 := by kernel_rfl
theorem gPow : Tryz.prog.globalNamed "internal/strconv.uint64pow10" = some 3 := by kernel_rfl
theorem tPow : (Tryz.prog.globals[3]?).map (·.type) = some 154 := by kernel_rfl
theorem uPow : ∃ e, Tryz.prog.underlying 154 = some (.array 20 e) ∧ Tryz.prog.underlying e = some (.int .u64) ∧ Tryz.prog.cellsOf e = 1 ∧ Tryz.prog.cellsOf 154 = 20 := ⟨_, Tryz.underlying154, by kernel_rfl, by kernel_rfl, by kernel_rfl⟩

section
variable {P : Program} {W : World}

theorem var_heap {n : String} {g : Nat} {cs : Array Value} (hg : P.globalNamed n = some g) (hv : W.var? P n = some cs) : ∃ el f, W.heap[g]? = some (.cells cs el f) := by
  simp only [World.var?, hg, Option.bind_some] at hv
  split at hv
  · rename_i c el f hh
    simp only [Option.some.injEq] at hv
    exact ⟨el, f, by rw [hh, hv]⟩
  · cases hv

/-- A laid interface value: its block holds one value that is not nil. -/
theorem err_of {n nm : String} {d : DataW Unit} {r : List (String × DataW Unit)} {g : Nat} {ti : TypeId} {ms : Array (String × TypeId)}
    (h : laidMet P ((n, .iface nm d) :: r) W) (hg : P.globalNamed n = some g) (ht : (P.globals[g]?).map (·.type) = some ti) (hi : P.underlying ti = some (.interface ms)) :
    ∃ c el f, W.heap[g]? = some (.cells c el f) ∧ c.size = 1 ∧ ∃ u v, c.toList = [.iface u v] := by
  obtain ⟨ps, ⟨g0, t0, cs0, f0, p0, q0, hg0, ht0, hv0, hd0, _, _⟩, _, _⟩ := h
  obtain rfl := Option.some.inj (hg.symm.trans hg0)
  obtain rfl := Option.some.inj (ht.symm.trans ht0)
  obtain ⟨el, f, hh⟩ := var_heap hg hv0
  obtain ⟨f1, u, v, e, _, _⟩ := iface_of_trod hi hd0
  exact ⟨cs0, el, f, hh, by rw [← Array.length_toList, e]; rfl, u, v, e⟩

/-- A laid table of whole numbers: its block holds just them. -/
theorem ints_of {n : String} {k : IntKind} {l : List Int} {r : List (String × DataW Unit)} {g : Nat} {t e : TypeId} {m : Nat}
    (h : laidMet P ((n, .agg (l.map fun a => .lit (.int k a))) :: r) W) (hg : P.globalNamed n = some g) (ht : (P.globals[g]?).map (·.type) = some t)
    (hu : P.underlying t = some (.array m e)) (he : P.underlying e = some (.int k)) (hc : P.cellsOf e = 1) (hct : P.cellsOf t = m) (hl : l.length = m) :
    ∃ c el f, W.heap[g]? = some (.cells c el f) ∧ c.toList = l.map (Value.int k) := by
  obtain ⟨ps, ⟨g0, t0, cs0, f0, p0, q0, hg0, ht0, hv0, hd0, _, _⟩, _, _⟩ := h
  obtain rfl := Option.some.inj (hg.symm.trans hg0)
  obtain rfl := Option.some.inj (ht.symm.trans ht0)
  obtain ⟨el, f, hh⟩ := var_heap hg hv0
  refine ⟨cs0, el, f, hh, ?_⟩
  obtain ⟨xs, n', _, hx, hlen, hn, hel⟩ := DataW.trod_array hu hd0
  rw [hct] at hlen
  simp only [Prod.mk.injEq, DataW.agg.injEq] at hx
  obtain ⟨hx, _⟩ := hx
  refine List.ext_getElem? fun i => ?_
  rcases Nat.lt_or_ge i m with hi | hi
  · have hE := hel i hi
    rw [hc] at hE
    have hxi : xs[i]? = some xs[i] := List.getElem?_eq_getElem (by omega)
    rw [hxi] at hE
    obtain ⟨a, e1, e2, _⟩ := DataW.trod_int he hE
    have hd : xs[i].1 = .lit (.int k a) := by rw [e2]
    have h1 : (xs.map (·.1))[i]? = some (.lit (.int k a)) := by rw [List.getElem?_map, hxi, Option.map_some, hd]
    rw [← hx, List.getElem?_map] at h1
    have h2 : l[i]? = some a := by
      cases hq : l[i]? with
      | none => rw [hq] at h1; cases h1
      | some b =>
        rw [hq] at h1
        simp only [Option.map_some, Option.some.injEq, DataW.lit.injEq, Lit.int.injEq, true_and] at h1
        rw [h1]
    rw [List.getElem?_map, h2]
    have h3 : ((cs0.toList.drop (i * 1)).take 1)[0]? = some (.int k a) := by rw [e1]; rfl
    rw [List.getElem?_take, if_pos (by decide), List.getElem?_drop] at h3
    simpa using h3
  · rw [List.getElem?_eq_none (by rw [hlen]; exact hi), List.getElem?_eq_none (by rw [List.length_map, hl]; exact hi)]
end

theorem rep_chain {V : View} {k : IntKind} : ∀ (n : Nat) (x : (chain (List.replicate n (.int k))).Den), Rep V (chain (List.replicate n (.int k))) x ((chL (.int k) n x).map (Value.int k))
  | 0, _ => rfl
  | n + 1, x => ⟨[.int k x.1], _, rfl, rfl, rep_chain n x.2⟩

/-- What the walk reads of the package-level variables. -/
def Globs (W : World) : Prop := ∃ b0 b1, ArgsOK OB W (fun _ => False) [.gw 1 .err, .gw 2 .err, .gw 3 PowT] (b0, b1, powD, ()) [] []

theorem globs_of {W : World} (h : laidMetH Tryz.prog laidG W) (hs : W.ShapedOpen Tryz.prog) : Globs W := by
  rw [MakeChecks.laidMetH_plain _ _ _ (by kernel_rfl)] at h
  have hp := h.tail.tail
  obtain ⟨e, u1, u2, u3, u4⟩ := uPow
  obtain ⟨c2, el2, f2, hh2, hl2⟩ := ints_of (l := [1, 10, 100, 1000, 10000, 100000, 1000000, 10000000, 100000000, 1000000000, 10000000000, 100000000000, 1000000000000, 10000000000000, 100000000000000, 1000000000000000, 10000000000000000, 100000000000000000, 1000000000000000000, 10000000000000000000]) (k := .u64) hp gPow tPow u1 u2 u3 u4 rfl
  obtain ⟨ms, u62⟩ : ∃ ms, Tryz.prog.underlying 62 = some (.interface ms) := ⟨_, Tryz.underlying62⟩
  obtain ⟨c1, el1, f1, hh1, hn1, t1, v1, hl1⟩ := err_of hp.tail.tail gRng tRng u62
  obtain ⟨c0, el0, f0, hh0, hn0, t0, v0, hl0⟩ := err_of hp.tail.tail.tail gSyn tSyn u62
  refine ⟨true, true, ⟨c0, el0, f0, hh0, id, hn0, ?_⟩, ⟨c1, el1, f1, hh1, id, hn1, ?_⟩, ⟨c2, el2, f2, hh2, id, ?_, ?_⟩, rfl, rfl⟩
  · exact .inr ⟨rfl, t0, v0, hl0⟩
  · exact .inr ⟨rfl, t1, v1, hl1⟩
  · rw [← Array.length_toList, hl2]; rfl
  · have : Rep (fun b c => ¬ False ∧ ∃ el f, W.heap[b]? = some (.cells c el f)) PowT powD _ := rep_chain 20 powD
    rw [hl2]
    have e : chL (.int .u64) 20 powD = [1, 10, 100, 1000, 10000, 100000, 1000000, 10000000, 100000000, 1000000000, 10000000000, 100000000000, 1000000000000, 10000000000000, 100000000000000, 1000000000000000, 10000000000000000, 100000000000000000, 1000000000000000000, 10000000000000000000] := by decide +kernel
    rw [e] at this
    exact this

theorem kept_of {W W' : World} (h : Below W.heap.size W W') (may : MemPlace → Prop) : W.keptBut W' may := by
  refine ⟨h.os, h.output, fun i hi => ?_⟩
  rw [h.block i hi]
  split
  · rename_i h1 h2
    rw [h1] at h2
    simp only [Option.some.injEq, Obj.cells.injEq] at h2
    obtain ⟨rfl, rfl, rfl⟩ := h2
    exact ⟨rfl, rfl, rfl, fun _ _ => rfl⟩
  · rename_i h1 h2
    rw [h1] at h2
    simp only [Option.some.injEq, Obj.map.injEq] at h2
    obtain ⟨rfl, rfl⟩ := h2
    exact .inr ⟨rfl, rfl⟩
  · rfl

def readAll (P : Program) : List TypeId → Bool
  | [] => true
  | t :: r => P.readableRec t && decide (t < P.types.size) && readAll P r

theorem trodAll_stays {P : Program} (hl : laidOutB P = true) {H : Type} {enc : TypeId × Value → H} {W W' : World} (hb : Below W.heap.size W W') : ∀ {ts : List TypeId} {vs : List Value} {ds : List (DataW H)} {ps : List MemPlace}, readAll P ts = true →
    DataW.TrodAll enc P W 0 (fun _ => true) true ts vs ds ps → DataW.TrodAll enc P W' 0 (fun b => decide (b < W.heap.size)) true ts vs ds ps
  | [], [], [], _, _, h => h
  | t :: ts, v :: vs, d :: ds, ps, hr, ⟨p, q, h1, h2, h3⟩ => by
    simp only [readAll, Bool.and_eq_true, decide_eq_true_eq] at hr
    have hlt := DataW.TrodAll.lt (show DataW.TrodAll enc P W 0 (fun _ => true) true (t :: ts) (v :: vs) (d :: ds) ps from ⟨p, q, h1, h2, h3⟩)
    subst h3
    exact ⟨p, q, Below.trod hl hr.1.1 hr.1.2 h1 hb (fun x hx => hlt x (List.mem_append.2 (.inl hx))), trodAll_stays hl hb hr.2 h2, rfl⟩

theorem law_post {H : Type} {enc : TypeId × Value → H} {f : Func} {s : ChangeSpec} {W W' : World} {args : Array Value} {ds gs : List (DataW H)} {before : List MemPlace}
    (hW : DataW.Whole enc Tryz.prog f.params.toList s.vars false W args.toList ds gs before) (hv : s.vars = []) (hr : f.resultTypes.toList = [4]) (hs : f.resultTypes.size = 1) (hfn : s.fn H (ds ++ gs) = { results := [.lit (.bool true)], args := ds }) (hread : readAll Tryz.prog f.params.toList = true)
    (hb : Below W.heap.size W W') : s.post enc Tryz.prog f false true false false W args (.bool true) W' := by
  have hW0 := hW
  obtain ⟨p, q, hA, hV, rfl, _, _⟩ := hW
  rw [hv] at hV
  obtain ⟨rfl, rfl⟩ := trodVars_none hV
  refine ⟨ds, [], p ++ [], [], p, [], hW0, ?_, ?_, ?_, kept_of hb _, fun h => by cases h⟩
  · rw [hfn, hr, hs]
    exact trodAll_cons_mk (shut_bool Tryz.underlying4 true) trodAll_mk0
  · rw [hfn]
    exact trodAll_stays laidOut hb hread hA
  · rw [hfn, hv]
    rfl

/-- The laid world meets the condition. -/
theorem door_met (os : Os) (args : Array Value) : laidMetH Tryz.prog laidG ((World.laidAll Tryz.prog os laidG).forCall (fun _ _ => 0) ⟨#[], args, []⟩).memory := by
  rw [MakeChecks.laidMetH_plain _ _ _ (by kernel_rfl)]; exact laidMet_laidAll _ (by kernel_rfl) (by kernel_rfl)

theorem law_lifted {F : Nat} {fn : Func} {s : ChangeSpec} (h : ∀ (H : Type) (enc : TypeId × Value → H) (W : World) (args : Array Value) (ds : List (DataW H)) (ps : List MemPlace) (base : Nat), Globs W → DataW.TrodAll enc Tryz.prog W 0 (fun _ => true) true fn.params.toList args.toList ds ps → (∀ (j : Nat) t v, fn.params.toList[j]? = some t → args.toList[j]? = some v → Value.okWide Tryz.prog W .any base t v) →
      Calls Tryz.prog F args W fun e W' => e = .returned (.bool true) ∧ Below W.heap.size W W')
    (hf : Tryz.prog.funcs[F]? = some fn) (hinit : Tryz.prog.inits.idxOf? F = none) (hv : s.vars = []) (hr : fn.resultTypes.toList = [4]) (hs : fn.resultTypes.size = 1)
    (hread : readAll Tryz.prog fn.params.toList = true) (hfn : ∀ (H : Type) (ds : List (DataW H)), ds.length = fn.params.size → s.fn H (ds ++ []) = { results := [.lit (.bool true)], args := ds })
    (os : Os) (started : os.Started) (H : Type) (enc : TypeId × Value → H)
    (wit : ∃ (w : World) (tape : Tape) (i : Input), w.os = os ∧ (w.forCall tape i).Shaped Tryz.checked.prog ∧ i.vars = [] ∧ Input.okWide Tryz.checked.prog (w.forCall tape i) .any w.heap.size F i ∧
      ((s.pre enc Tryz.checked.prog fn [] false (w.forCall tape i).memory i.args ∧ laidMetH Tryz.prog laidG (w.forCall tape i).memory) ∧ sizedMet enc Tryz.checked.prog fn (OpenSpec.ofChange s) false (w.forCall tape i).memory i.args) ∧ ({} : Assume).holds Tryz.checked.prog (lone (Frame.enter Tryz.checked.prog F i.args .normal) [] (w.forCall tape i))) :
    ReturnsInHanded {} Tryz.checked os F .any (fun w args => (s.pre enc Tryz.prog fn [] false w args ∧ laidMetH Tryz.prog laidG w) ∧ sizedMet enc Tryz.prog fn (OpenSpec.ofChange s) false w args) (s.post enc Tryz.prog fn false true false false) := by
  refine returnsInHanded_of_calls (C := Tryz.checked) own started hinit wit ?_
  intro w tape i _ hsh _ hok hpre hholds
  obtain ⟨_, _, _, fn', hfn', _, _, _, _, hval⟩ := hok
  have e : fn' = fn := Option.some.inj (hfn'.symm.trans hf)
  subst e
  obtain ⟨⟨⟨ds, gs, before, hw, hc⟩, hx⟩, hz⟩ := hpre
  have hW0 := DataW.Whole.of_heap (w' := w.forCall tape i) (by rfl) hw
  have hL : laidMetH Tryz.prog laidG (w.forCall tape i) := hx.of_heap (by rfl)
  have hW := hW0
  obtain ⟨p, q, hA, hV, rfl, _, _⟩ := hW
  have hV' : DataW.TrodVars enc Tryz.prog (w.forCall tape i) (fun _ => true) [] gs q := by rw [← hv]; exact hV
  obtain ⟨rfl, rfl⟩ := trodVars_none hV'
  have hlen : ds.length = fn'.params.size := by
    have := (Go.trodAll_length hA).2
    simpa using this
  refine (h _ _ _ _ _ _ _ (globs_of hL hsh) hA (fun j t v h1 h2 => hval j t v (by simpa using h1) (by simpa using h2))).mono fun e W' ⟨he, hb⟩ => ?_
  subst he
  exact ChangeSpec.post_blind (law_post hW0 hv hr hs (hfn H ds hlen) hread hb)

end Go.Eng.Pu
