/- Texts C13 C14 C15 C16 C17 C18 X2 A12 A13 A14 SR R7 A16 A15 A17 A18 A19 W3, as far as they are used. Conditions: each lemma's own. -/
import Derived.Test.YtjgfbifggolibaaGreatDoorKC5
import Derived.WalkKit
namespace Go.Eng.Ar
open Go.Eng Go.Proofs Go
set_option linter.all false
set_option maxRecDepth 100000
set_option maxHeartbeats 2000000
theorem info202 : Tryz.prog.info? 202 = some Tryz.t202 := by kernel_rfl
theorem size202 : Tryz.t202.size = 1 := by kernel_rfl
theorem zero202 : Tryz.t202.zero = some .nilFunc := by kernel_rfl
theorem info234 : Tryz.prog.info? 234 = some Tryz.t234 := by kernel_rfl
theorem size234 : Tryz.t234.size = 1 := by kernel_rfl
theorem bx234 (a : Act) (w : World) (o : Oper) (x : Operand) (ho : o.op = .box 234 x) {fn : Fn} {p q : Array Value} (hx : a.eval x = .func fn p q) : (execOp a.eval o).run Tryz.prog w = .ok (.value (.pointer (some ⟨w.heap.size, 0, none⟩))) (w.alloc (.cells #[.func fn p q] 234 (0, 0))) := by
  simp [execOp, ho, hx, Instr.box, sizeOf, typeInfo, info234, size234, newVar, agg234, newRow, Value.cells]
theorem al76 (a : Act) (w : World) (o : Oper) (ho : o.op = .alloc 76) : (execOp a.eval o).run Tryz.prog w = .ok (.value (.pointer (some ⟨w.heap.size, 0, none⟩))) (w.alloc (.cells #[.slice none 0 0] 76 (0, 0))) := by
  have hz := run_zeroValue row76 w
  simp [execOp, ho, hz, newRow, Value.cells]
  try rfl
theorem al202 (a : Act) (w : World) (o : Oper) (ho : o.op = .alloc 202) : (execOp a.eval o).run Tryz.prog w = .ok (.value (.pointer (some ⟨w.heap.size, 0, none⟩))) (w.alloc (.cells #[.nilFunc] 202 (0, 0))) := by
  simp [execOp, ho, Instr.alloc, newRow, Value.cells, zeroValue, typeInfo, info202, zero202, newVar, agg202]
theorem mfR (a : Act) (w : World) (o : Oper) (ho : o.op = .makeFunc (.func 179) #[] #[.tmp 4, .tmp 1, .tmp 3, .tmp 2, .tmp 5]) {v1 v2 v3 v4 v5 : Value} (h4 : a.eval (.tmp 4) = v1) (h1 : a.eval (.tmp 1) = v2) (h3 : a.eval (.tmp 3) = v3) (h2 : a.eval (.tmp 2) = v4) (h5 : a.eval (.tmp 5) = v5) :
    (execOp a.eval o).run Tryz.prog w = .ok (.value (.func (.func 179) #[] #[v1, v2, v3, v4, v5])) w := by
  simp [execOp, ho, h1, h2, h3, h4, h5, Instr.makeFunc]
theorem st202 (a : Act) (w : World) (o : Oper) (x y : Operand) (ho : o.op = .store 202 x y) {b el : Nat} {u : Value} {fn : Fn} {p q : Array Value} (hx : a.eval x = .pointer (some ⟨b, 0, none⟩)) (hy : a.eval y = .func fn p q) (hb : w.heap[b]? = some (.cells #[u] el (0, 0))) :
    (execOp a.eval o).run Tryz.prog w = .ok .skip (w.setRow b #[.func fn p q]) := by
  have h1 := run_storeCells_at Tryz.prog b 0 el [.func fn p q] 0 #[u] w hb (by simp) (by simp [Value.oneCell'])
  have hst : (storeVar 202 ⟨b, 0, none⟩ (.func fn p q)).run Tryz.prog w = .ok () (w.setRow b #[.func fn p q]) := by
    simp only [storeVar, Value.cells]
    simp [sizeOf, typeInfo, info202, size202]
    rw [h1]; simp
  simp [execOp, ho, hx, hy, Instr.storeAt, Instr.sureAddr, hst]
noncomputable def b178 : Code := bodyOf Tryz.f178
noncomputable def C0 : Code := match b178 with | .seq x _ => x | c => c
noncomputable def C1 : Code := match b178 with | .seq _ (.seq x _) => x | c => c
noncomputable def C2 : Code := match b178 with | .seq _ (.seq _ (.seq x _)) => x | c => c
noncomputable def C3 : Code := match b178 with | .seq _ (.seq _ (.seq _ (.seq x _))) => x | c => c
noncomputable def C4 : Code := match b178 with | .seq _ (.seq _ (.seq _ (.seq _ x))) => x | c => c
theorem body178 : (Tryz.f178.body : Option Code) = some (.seq C0 (.seq C1 (.seq C2 (.seq C3 C4)))) := rfl
theorem init178 {n : Nat} (hn : n = 9) {x0 x1 x2 : Value} {a0 : Act} (ha : a0 = { tmps := (#[x0] ++ #[x1, x2]) ++ Array.replicate (n - (#[x0] ++ #[x1, x2]).size) undef, defers := [] }) : a0.tmps.size = 9 ∧ a0.defers = [] ∧ a0.tmps.getD 0 undef = x0 ∧ a0.tmps.getD 1 undef = x1 ∧ a0.tmps.getD 2 undef = x2 := by
  subst hn
  have e : (#[x0] ++ #[x1, x2]) ++ Array.replicate (9 - (#[x0] ++ #[x1, x2]).size) undef = #[x0, x1, x2] ++ Array.replicate 6 undef := rfl
  rw [e] at ha
  rw [ha]
  refine ⟨by simp, rfl, ?_, ?_, ?_⟩ <;> simp
theorem heap_new {w : World} {o : Obj} {B : Nat} (h : B = w.heap.size) : (w.alloc o).heap[B]? = some o := by
  subst h; show (w.heap.push o)[w.heap.size]? = _; simp
theorem heap_old {w : World} {o p : Obj} {b : Nat} (h : w.heap[b]? = some p) : (w.alloc o).heap[b]? = some p := by
  show (w.heap.push o)[b]? = _
  rw [Array.getElem?_push, if_neg (Nat.ne_of_lt (lt_of_heap h))]; exact h
theorem size_new {w : World} {o : Obj} : (w.alloc o).heap.size = w.heap.size + 1 := by
  show (w.heap.push o).size = _
  rw [Array.size_push]
theorem chosen1_in {l B bc bn count numbers : Nat} {J : List (List Int) → World → Prop} {Jx : World → Prop} (hY : Yld l B bc bn count numbers J Jx) (hcn : count ≤ 100 ∧ 0 < count) (hnn : numbers ≤ 100) (hbc : bc < B ∧ bn < B) (W : World) (hB : B = W.heap.size) (hJ : J (combs count 0 numbers) W) :
    CallsIn (Fw none) 0 Tryz.prog 178 (#[Value.func (.yield l) #[] #[]] ++ #[Value.pointer (some ⟨bc, 0, none⟩), Value.pointer (some ⟨bn, 0, none⟩)]) W fun e W' => (∃ v, e = .returned v) ∧ (J [] W' ∨ Jx W') := by
  refine callsIn_of_wp (F := Fw none) (n := 0) (fn := Tryz.f178) Tryz.func178 body178 trivial ?_
  obtain ⟨a0, ha0⟩ : ∃ a0 : Act, a0 = { tmps := (#[Value.func (.yield l) #[] #[]] ++ #[Value.pointer (some ⟨bc, 0, none⟩), Value.pointer (some ⟨bn, 0, none⟩)]) ++ Array.replicate (Tryz.f178.ntmps - (#[Value.func (.yield l) #[] #[]] ++ #[Value.pointer (some ⟨bc, 0, none⟩), Value.pointer (some ⟨bn, 0, none⟩)]).size) undef, defers := [] } := ⟨_, rfl⟩
  rw [← ha0]
  obtain ⟨za0, da0, g0, g1, g2⟩ := init178 rfl ha0
  clear ha0
  refine wpIn_seq (wpIn_region_list ?_)
  obtain ⟨W1, hW1⟩ : ∃ x, x = W.alloc (.cells #[.func (.yield l) #[] #[]] 234 (0, 0)) := ⟨_, rfl⟩
  refine list_step rfl (op_bs (by intro d h; cases h) (bx234 a0 W _ (.tmp 0) rfl g0) ?_)
  rw [← hW1]
  obtain ⟨a1, qa1⟩ : ∃ x, x = a0.put (some 3) (.pointer (some ⟨W.heap.size, 0, none⟩)) := ⟨_, rfl⟩
  have za1 : a1.tmps.size = 9 := by rw [qa1, size_put]; exact za0
  have da1 : a1.defers = [] := by rw [qa1, defers_put]; exact da0
  have ga1_0 : a1.tmps.getD 0 undef = (.func (.yield l) #[] #[]) := by rw [qa1]; exact (getD_put_ne (by decide)).trans g0
  have ga1_1 : a1.tmps.getD 1 undef = (.pointer (some ⟨bc, 0, none⟩)) := by rw [qa1]; exact (getD_put_ne (by decide)).trans g1
  have ga1_2 : a1.tmps.getD 2 undef = (.pointer (some ⟨bn, 0, none⟩)) := by rw [qa1]; exact (getD_put_ne (by decide)).trans g2
  have ga1_3 : a1.tmps.getD 3 undef = (.pointer (some ⟨W.heap.size, 0, none⟩)) := by rw [qa1]; exact getD_put_eq (by rw [za0]; decide)
  change wpListIn (Fw none) 0 Tryz.prog _ _ _ (a0.put (some 3) (.pointer (some ⟨W.heap.size, 0, none⟩))) W1
  rw [← qa1]
  have eW1 : W.heap.size = B := by exact hB.symm
  rw [eW1] at ga1_3
  refine list_nil (wpIn_seq (wpIn_region_list ?_))
  obtain ⟨W2, hW2⟩ : ∃ x, x = W1.alloc (.cells #[.slice none 0 0] 76 (0, 0)) := ⟨_, rfl⟩
  refine list_step rfl (op_bs (by intro d h; cases h) (al76 a1 W1 _ rfl) ?_)
  rw [← hW2]
  obtain ⟨a2, qa2⟩ : ∃ x, x = a1.put (some 4) (.pointer (some ⟨W1.heap.size, 0, none⟩)) := ⟨_, rfl⟩
  have za2 : a2.tmps.size = 9 := by rw [qa2, size_put]; exact za1
  have da2 : a2.defers = [] := by rw [qa2, defers_put]; exact da1
  have ga2_0 : a2.tmps.getD 0 undef = (.func (.yield l) #[] #[]) := by rw [qa2]; exact (getD_put_ne (by decide)).trans ga1_0
  have ga2_1 : a2.tmps.getD 1 undef = (.pointer (some ⟨bc, 0, none⟩)) := by rw [qa2]; exact (getD_put_ne (by decide)).trans ga1_1
  have ga2_2 : a2.tmps.getD 2 undef = (.pointer (some ⟨bn, 0, none⟩)) := by rw [qa2]; exact (getD_put_ne (by decide)).trans ga1_2
  have ga2_3 : a2.tmps.getD 3 undef = (.pointer (some ⟨B, 0, none⟩)) := by rw [qa2]; exact (getD_put_ne (by decide)).trans ga1_3
  have ga2_4 : a2.tmps.getD 4 undef = (.pointer (some ⟨W1.heap.size, 0, none⟩)) := by rw [qa2]; exact getD_put_eq (by rw [za1]; decide)
  change wpListIn (Fw none) 0 Tryz.prog _ _ _ (a1.put (some 4) (.pointer (some ⟨W1.heap.size, 0, none⟩))) W2
  rw [← qa2]
  have eW2 : W1.heap.size = (B + 1) := by rw [hW1, size_new, eW1]
  rw [eW2] at ga2_4
  refine list_nil (wpIn_seq (wpIn_region_list ?_))
  obtain ⟨W3, hW3⟩ : ∃ x, x = W2.alloc (.cells #[.nilFunc] 202 (0, 0)) := ⟨_, rfl⟩
  refine list_step rfl (op_bs (by intro d h; cases h) (al202 a2 W2 _ rfl) ?_)
  rw [← hW3]
  obtain ⟨a3, qa3⟩ : ∃ x, x = a2.put (some 5) (.pointer (some ⟨W2.heap.size, 0, none⟩)) := ⟨_, rfl⟩
  have za3 : a3.tmps.size = 9 := by rw [qa3, size_put]; exact za2
  have da3 : a3.defers = [] := by rw [qa3, defers_put]; exact da2
  have ga3_0 : a3.tmps.getD 0 undef = (.func (.yield l) #[] #[]) := by rw [qa3]; exact (getD_put_ne (by decide)).trans ga2_0
  have ga3_1 : a3.tmps.getD 1 undef = (.pointer (some ⟨bc, 0, none⟩)) := by rw [qa3]; exact (getD_put_ne (by decide)).trans ga2_1
  have ga3_2 : a3.tmps.getD 2 undef = (.pointer (some ⟨bn, 0, none⟩)) := by rw [qa3]; exact (getD_put_ne (by decide)).trans ga2_2
  have ga3_3 : a3.tmps.getD 3 undef = (.pointer (some ⟨B, 0, none⟩)) := by rw [qa3]; exact (getD_put_ne (by decide)).trans ga2_3
  have ga3_4 : a3.tmps.getD 4 undef = (.pointer (some ⟨(B + 1), 0, none⟩)) := by rw [qa3]; exact (getD_put_ne (by decide)).trans ga2_4
  have ga3_5 : a3.tmps.getD 5 undef = (.pointer (some ⟨W2.heap.size, 0, none⟩)) := by rw [qa3]; exact getD_put_eq (by rw [za2]; decide)
  change wpListIn (Fw none) 0 Tryz.prog _ _ _ (a2.put (some 5) (.pointer (some ⟨W2.heap.size, 0, none⟩))) W3
  rw [← qa3]
  have eW3 : W2.heap.size = (B + 2) := by rw [hW2, size_new, eW2]
  rw [eW3] at ga3_5
  refine list_nil (wpIn_seq (wpIn_region_list ?_))
  refine list_step rfl (op_val (by intro d h; cases h) (mfR a3 W3 _ rfl ga3_4 ga3_1 ga3_3 ga3_2 ga3_5) ?_)
  obtain ⟨a4, qa4⟩ : ∃ x, x = a3.put (some 6) (.func (.func 179) #[] (capt B bc bn)) := ⟨_, rfl⟩
  have za4 : a4.tmps.size = 9 := by rw [qa4, size_put]; exact za3
  have da4 : a4.defers = [] := by rw [qa4, defers_put]; exact da3
  have ga4_0 : a4.tmps.getD 0 undef = (.func (.yield l) #[] #[]) := by rw [qa4]; exact (getD_put_ne (by decide)).trans ga3_0
  have ga4_1 : a4.tmps.getD 1 undef = (.pointer (some ⟨bc, 0, none⟩)) := by rw [qa4]; exact (getD_put_ne (by decide)).trans ga3_1
  have ga4_2 : a4.tmps.getD 2 undef = (.pointer (some ⟨bn, 0, none⟩)) := by rw [qa4]; exact (getD_put_ne (by decide)).trans ga3_2
  have ga4_3 : a4.tmps.getD 3 undef = (.pointer (some ⟨B, 0, none⟩)) := by rw [qa4]; exact (getD_put_ne (by decide)).trans ga3_3
  have ga4_4 : a4.tmps.getD 4 undef = (.pointer (some ⟨(B + 1), 0, none⟩)) := by rw [qa4]; exact (getD_put_ne (by decide)).trans ga3_4
  have ga4_5 : a4.tmps.getD 5 undef = (.pointer (some ⟨(B + 2), 0, none⟩)) := by rw [qa4]; exact (getD_put_ne (by decide)).trans ga3_5
  have ga4_6 : a4.tmps.getD 6 undef = (.func (.func 179) #[] (capt B bc bn)) := by rw [qa4]; exact getD_put_eq (by rw [za3]; decide)
  change wpListIn (Fw none) 0 Tryz.prog _ _ _ (a3.put (some 6) (.func (.func 179) #[] (capt B bc bn))) W3
  rw [← qa4]
  have x1 : W1.heap[B]? = some (.cells #[.func (.yield l) #[] #[]] 234 (0, 0)) := by rw [hW1]; exact heap_new eW1.symm
  have x2 : W2.heap[B + 1]? = some (.cells #[.slice none 0 0] 76 (0, 0)) := by rw [hW2]; exact heap_new eW2.symm
  have x3 : W3.heap[B + 2]? = some (.cells #[.nilFunc] 202 (0, 0)) := by rw [hW3]; exact heap_new eW3.symm
  have x13 : W3.heap[B]? = some (.cells #[.func (.yield l) #[] #[]] 234 (0, 0)) := by rw [hW3]; exact heap_old (by rw [hW2]; exact heap_old x1)
  have x23 : W3.heap[B + 1]? = some (.cells #[.slice none 0 0] 76 (0, 0)) := by rw [hW3]; exact heap_old x2
  refine list_step rfl (op_skip (by intro d h; cases h) (st202 a4 W3 _ (.tmp 5) (.tmp 6) rfl ga4_5 ga4_6 x3) ?_)
  obtain ⟨W4, hW4⟩ : ∃ x, x = W3.setRow (B + 2) #[.func (.func 179) #[] (capt B bc bn)] := ⟨_, rfl⟩
  change wpListIn (Fw none) 0 Tryz.prog _ _ _ a4 (W3.setRow (B + 2) #[.func (.func 179) #[] (capt B bc bn)])
  rw [← hW4]
  have H : HC B bc bn (.func (.yield l) #[] #[]) W4 (.slice none 0 0) [] := by
    rw [hW4]
    exact ⟨(setRow_other W3 (B + 2) B _ (by omega)).trans x13, (setRow_other W3 (B + 2) (B + 1) _ (by omega)).trans x23, setRow_heap W3 (B + 2) _ _ 202 (0, 0) x3, .inl ⟨rfl, rfl⟩⟩
  have hbel : Bel B W W4 := by
    rw [hW4, hW3, hW2, hW1]
    exact ((bel_alloc.trans bel_alloc).trans bel_alloc).trans (bel_setRow (by omega))
  have hJ4 : J ((combs count 0 numbers).map ([] ++ ·) ++ []) W4 := by simpa using hY.below _ _ _ hJ hbel
  refine list_nil ?_
  change Code.wpIn (Fw none) 0 Tryz.prog C4 _ a4 W4
  refine wpIn_region_list ?_
  refine list_step rfl (op_val (by intro d h; cases h) (ldF agg202 a4 W4 _ (.tmp 5) rfl ga4_5 H.hm rfl) ?_)
  obtain ⟨a5, qa5⟩ : ∃ x, x = a4.put (some 7) (.func (.func 179) #[] (capt B bc bn)) := ⟨_, rfl⟩
  have za5 : a5.tmps.size = 9 := by rw [qa5, size_put]; exact za4
  have da5 : a5.defers = [] := by rw [qa5, defers_put]; exact da4
  have ga5_0 : a5.tmps.getD 0 undef = (.func (.yield l) #[] #[]) := by rw [qa5]; exact (getD_put_ne (by decide)).trans ga4_0
  have ga5_1 : a5.tmps.getD 1 undef = (.pointer (some ⟨bc, 0, none⟩)) := by rw [qa5]; exact (getD_put_ne (by decide)).trans ga4_1
  have ga5_2 : a5.tmps.getD 2 undef = (.pointer (some ⟨bn, 0, none⟩)) := by rw [qa5]; exact (getD_put_ne (by decide)).trans ga4_2
  have ga5_3 : a5.tmps.getD 3 undef = (.pointer (some ⟨B, 0, none⟩)) := by rw [qa5]; exact (getD_put_ne (by decide)).trans ga4_3
  have ga5_4 : a5.tmps.getD 4 undef = (.pointer (some ⟨(B + 1), 0, none⟩)) := by rw [qa5]; exact (getD_put_ne (by decide)).trans ga4_4
  have ga5_5 : a5.tmps.getD 5 undef = (.pointer (some ⟨(B + 2), 0, none⟩)) := by rw [qa5]; exact (getD_put_ne (by decide)).trans ga4_5
  have ga5_6 : a5.tmps.getD 6 undef = (.func (.func 179) #[] (capt B bc bn)) := by rw [qa5]; exact (getD_put_ne (by decide)).trans ga4_6
  have ga5_7 : a5.tmps.getD 7 undef = (.func (.func 179) #[] (capt B bc bn)) := by rw [qa5]; exact getD_put_eq (by rw [za4]; decide)
  change wpListIn (Fw none) 0 Tryz.prog _ _ _ (a4.put (some 7) (.func (.func 179) #[] (capt B bc bn))) W4
  rw [← qa5]
  have hc := more_in hY hcn hnn hbc count 0 numbers [] [] W4 (.slice none 0 0) (by rw [List.length_nil]; omega) (by omega) H hJ4
  obtain ⟨args, hargs⟩ : ∃ x, x = (#[.int .i64 ((0 : Nat) : Int)] ++ capt B bc bn : Array Value) := ⟨_, rfl⟩
  rw [← hargs] at hc
  refine list_step rfl ?_
  refine op_enterIn (f := 179) (args := args) ?_ ?_ (hc.mono ?_)
  · intro d h; cases h
  · obtain ⟨fn, e1, e2, e3⟩ : Enters Tryz.prog 179 := ⟨Tryz.f179, Tryz.func179, by kernel_rfl, by kernel_rfl⟩
    have e2' : ¬ fn.name = "runtime.NumGoroutine" := by simpa using e2
    have e3' : ¬ fn.body = none := by intro hn; rw [hn] at e3; cases e3
    rw [hargs]
    have evc : ∀ (a : Act) (v : Value), a.eval (.const v) = v := fun a v => rfl
    simp [execOp, resolve, Deferred.ofValue, ev, evc, ga5_7, invoke, callFunc, e1, e2', e3', capt]
  have fin : ∀ (v : Value) (W' : World), (J [] W' ∨ Jx W') → bodyPost Tryz.prog Tryz.f178 (fun e W' => (∃ v, e = .returned v) ∧ (J [] W' ∨ Jx W')) .normal (a5.put (some 8) v) W' := by
    intro v W' h
    refine ⟨by rw [defers_put]; exact da5, .tuple #[], results_run (P := Tryz.prog) (fn := Tryz.f178) (vs := []) rfl, ⟨_, rfl⟩, h⟩
  rintro e we (⟨rfl, hJ3, _⟩ | ⟨rfl, hJx⟩)
  · exact ⟨.bool true, rfl, list_nil (fin _ _ (.inl hJ3))⟩
  · exact ⟨.bool false, rfl, list_nil (fin _ _ (.inr hJx))⟩
end Go.Eng.Ar

namespace Go.Eng.Ar
open Go.Eng Go.Proofs Go
set_option linter.all false
set_option maxRecDepth 100000
set_option maxHeartbeats 2000000
theorem chosen_calls (c n : Int) (w : World) : Calls Tryz.prog 163 #[.int .i64 c, .int .i64 n] w fun e w' => e = .returned (.func (.func 178) #[] #[.pointer (some ⟨w.heap.size, 0, none⟩), .pointer (some ⟨w.heap.size + 1, 0, none⟩)]) ∧ w' = (w.alloc (.cells #[.int .i64 c] 3 (0, 0))).alloc (.cells #[.int .i64 n] 3 (0, 0)) := by
  have mixed := mixed
  have t3 := Tryz.underlying3
  have hn : Tryz.f163.ntmps = 6 := rfl
  go_enter Tryz.func163, hn
  go_wp2
  go_ret
  exact ⟨rfl, rfl⟩
def bestL (b : List BndD) : List (List Int) → Option CornD
  | [] => none
  | c :: r => if (atR b c).2.1 = true then some (atR b c).1 else bestL b r
def bestR (b : List BndD) (n : Nat) : Option CornD := bestL b (combs (n + 1) 0 b.length)
noncomputable def b143 : Code := bodyOf Tryz.f143
noncomputable def B0 : Code := match b143 with | .seq x _ => x | c => c
noncomputable def B1 : Code := match b143 with | .seq _ (.seq (.seq x _) _) => x | c => c
noncomputable def B2 : Code := match b143 with | .seq _ (.seq (.seq _ (.block _ (.rangeFunc _ _ x _))) _) => x | c => c
noncomputable def BB : Code := match b143 with | .seq _ (.seq (.seq _ (.block _ (.rangeFunc _ _ _ x))) _) => x | c => c
noncomputable def BT : Code := match b143 with | .seq _ (.seq _ x) => x | c => c
noncomputable def opsB1 : List Oper := match B1 with | .region _ x _ => x.toList | _ => []
theorem body143 : (Tryz.f143.body : Option Code) = some (.seq B0 (.seq (.seq B1 (.block 0 (.rangeFunc (.tmp 12) #[13] B2 BB))) BT)) := rfl
abbrev cAt : List (Nat × Spec) := [(164, sAt)]
theorem cAt_ok : All cAt := ⟨h164, trivial⟩
@[reducible] def cfB : Cfg := cfg {} cAt 23
theorem cB_ok : CfgOk Tryz.prog OB cfB := cfgOk (X := {}) trivial cAt_ok
abbrev ProgD : Type := ProgT.Den
@[reducible] def sBest : Spec := { pats := [.dat ProgT], res := [{ t := CornerT }], pre := fun x => ∃ n : Nat, x.1.2.1 = (n : Int) ∧ n ≤ 3 ∧ (bestR x.1.2.2.1 n).isSome = true ∧ (List.length (α := BndD) x.1.2.2.1 ≤ 100) ∧ ∀ c ∈ combs (n + 1) 0 (List.length (α := BndD) x.1.2.2.1), goodA x.1.2.2.1 c, f := fun x => ((bestR x.1.2.2.1 x.1.2.1.toNat).getD cornZ, ()) }
@[reducible] def stB0 (p : ProgD) : St := [.slot 1 (.one (.p 1 0)), .cell 1 0 (.d I64 p.1), .cell 1 1 (.d I64 p.2.1), .cell 1 2 (.d (.sl BoundT) p.2.2.1), .slot 2 (.one (.p 2 0)), .cell 2 0 (.v (.slice none 0 0)), .cell 2 1 (.d I64 0), .cell 2 2 (.v (.slice none 0 0)), .cell 2 3 (.d I64 0)]
theorem vB0 (p : ProgD) : vc cfB (par cfB) [] B0 0 [.slot 0 (.one (.d ProgT p))] (fun e st => match e with | .normal => Goal (∃ _ : Unit, ent st (stB0 p) ∧ True) | .ret => False | _ => False) := by
  repeat' (intro hzz; (try (rename Two => hq; cases hq)); (try dsimp only at hzz); (try simp only [resTy, argTy, eqD, inR, big, wantOf, zB] at hzz); (try (revert hzz; intro _)))
  all_goals try (rename Unit => hq; clear hq)
  all_goals try ((with_reducible refine Held.mk ?_); (with_reducible (first | refine Frz.mk ?_ | refine And.intro (Frz.mk ?_) ?_ | refine And.intro ?_ (Frz.mk ?_))); repeat' first | exact True.intro | (change _ = _; with_reducible rfl) | refine And.intro ?_ ?_ | (with_reducible refine Frz.mk ?_))
  all_goals try (refine Held.mk ?_; (try dsimp only at *); (try simp only [resTy, argTy, eqD, inR, big, wantOf, zB] at *))
  all_goals try omega
  ·
    refine GHeld.mk ?_
    refine Exists.intro () ?_
    refine And.intro (Leaf.mk ?_) ?_
    · repeat' first | exact True.intro | refine And.intro ?_ ?_
      all_goals try ((change _ = _ <;> try dsimp only) <;> try with_reducible rfl)
      all_goals try omega
      all_goals (rfl)
    trivial
theorem vB1 (p : ProgD) (n : Nat) (hn : p.2.1 = (n : Int)) (hn3 : n ≤ 3) : runOps cfB opsB1.toArray (opsB1.take 6) (stB0 p) (fun st => Goal (∃ _ : Unit, ent st (sI 8 ((n + 1 : Nat) : Int) :: sI 11 ((List.length (α := BndD) p.2.2.1 : Nat) : Int) :: stB0 p) ∧ True)) := by
  have e : p.2.1 + 1 = ((n + 1 : Nat) : Int) := by rw [hn]; rfl
  repeat' (intro hzz; (try (rename Two => hq; cases hq)); (try dsimp only at hzz); (try simp only [resTy, argTy, eqD, inR, big, wantOf, zB] at hzz); (try (revert hzz; intro _)))
  all_goals try (rename Unit => hq; clear hq)
  all_goals try ((with_reducible refine Held.mk ?_); (with_reducible (first | refine Frz.mk ?_ | refine And.intro (Frz.mk ?_) ?_ | refine And.intro ?_ (Frz.mk ?_))); repeat' first | exact True.intro | (change _ = _; with_reducible rfl) | refine And.intro ?_ ?_ | (with_reducible refine Frz.mk ?_))
  all_goals try (refine Held.mk ?_; (try dsimp only at *); (try simp only [resTy, argTy, eqD, inR, big, wantOf, zB] at *))
  · have hn : p.2.1 = (n : Int) := hn
    rw [hn]; omega
  ·
    refine GHeld.mk ?_
    refine Exists.intro () ?_
    refine And.intro (Leaf.mk ?_) ?_
    · repeat' first | exact True.intro | refine And.intro ?_ ?_
      all_goals try ((change _ = _ <;> try dsimp only) <;> try with_reducible rfl)
      all_goals try omega
      all_goals (first | rfl | exact e)
    trivial
@[reducible] def stR (p : ProgD) (c : List Int) : St := [.slot 1 (.one (.pd ProgT p)), .slot 3 (.one (.d (.sl I64) c)), .slot 2 (.one (.p 2 0)), .cell 2 0 .u, .cell 2 1 .u, .cell 2 2 .u, .cell 2 3 .u]
@[reducible] def stC (x : CornD) : St := [.slot 2 (.one (.p 2 0)), .cell 2 0 (.d (.sl I64) x.1), .cell 2 1 (.d I64 x.2.1), .cell 2 2 (.d (.sl I64) x.2.2.1), .cell 2 3 (.d I64 x.2.2.2.1)]
@[reducible] def stUp : St := [.slot 2 (.one (.p 2 0)), .cell 2 0 .u, .cell 2 1 .u, .cell 2 2 .u, .cell 2 3 .u]
theorem vBB (p : ProgD) (c : List Int) (hg : goodA p.2.2.1 c) : vc cfB (par cfB) [] BB 0 (stR p c) (fun e st => match e with | .normal => Goal (∃ _ : Unit, ent st stUp ∧ (atR p.2.2.1 c).2.1 = false) | .ret => Goal (∃ _ : Unit, ent st (stC (atR p.2.2.1 c).1) ∧ (atR p.2.2.1 c).2.1 = true) | _ => False) := by
  repeat' (intro hzz; (try (rename Two => hq; cases hq)); (try dsimp only at hzz); (try simp only [resTy, argTy, eqD, inR, big, wantOf, zB] at hzz); (try (revert hzz; intro _)))
  all_goals try (rename Unit => hq; clear hq)
  all_goals try ((with_reducible refine Held.mk ?_); (with_reducible (first | refine Frz.mk ?_ | refine And.intro (Frz.mk ?_) ?_ | refine And.intro ?_ (Frz.mk ?_))); repeat' first | exact True.intro | (change _ = _; with_reducible rfl) | refine And.intro ?_ ?_ | (with_reducible refine Frz.mk ?_))
  all_goals try (refine Held.mk ?_; (try dsimp only at *); (try simp only [resTy, argTy, eqD, inR, big, wantOf, zB] at *))
  · exact hg
  · rename_i h
    refine GHeld.mk ?_
    refine Exists.intro () ?_
    refine And.intro (Leaf.mk ?_) ?_
    · repeat' first | exact True.intro | refine And.intro ?_ ?_
      all_goals try ((change _ = _ <;> try dsimp only) <;> try with_reducible rfl)
      all_goals try omega
      all_goals (rfl)
    exact h
  · rename_i h
    refine GHeld.mk ?_
    refine Exists.intro () ?_
    refine And.intro (Leaf.mk ?_) ?_
    · repeat' first | exact True.intro | refine And.intro ?_ ?_
      all_goals try ((change _ = _ <;> try dsimp only) <;> try with_reducible rfl)
      all_goals try omega
      all_goals (rfl)
    exact h
theorem rel_raw {E : Env} {nt : Nat} {st : St} {a : Act} {w : World} {t : Nat} {s : SV} (hR : RelS E nt st a w) (h : Fact.slot t s ∈ st) (ht : t < 1000000) : ∃ η, (∀ f ∈ st, Fact.holds E η a w f) ∧ holdsV (vw E η w) η s (a.tmps.getD t undef) := by
  obtain ⟨η, g, H⟩ := hR
  have h1 := H _ h
  simp only [Fact.holds] at h1
  rw [sval_lt ht] at h1
  exact ⟨η, H, h1⟩
structure RawB (M : Nat → Prop) (w : World) (p : ProgD) (b1 b2 : Nat) (cur1 : Array Value) (e1 : Nat) (f1 : Nat × Nat) (cur2 : Array Value) (V : View) : Prop where
  h1 : w.heap[b1]? = some (.cells cur1 e1 f1)
  h2 : ∃ e2, w.heap[b2]? = some (.cells cur2 e2 (0, 0))
  v1 : ¬ M b1
  n12 : b1 ≠ b2
  z1 : 3 ≤ cur1.size
  rep : Rep V ProgT p (cur1.toList.take 3)
  hV : ∀ b c, V b c → ¬ M b ∧ b ≠ b2 ∧ ∃ el f, w.heap[b]? = some (.cells c el f)
  one : ∀ j, j < 4 → ∃ v, cur2[j]? = some v ∧ v.oneCell' = true
theorem raw_b {M : Nat → Prop} {bs : List Nat} {w0 w : World} {a : Act} {p : ProgD} {st : St} (hR : RelS (EH M bs w0 true) 23 (st ++ stB0 p) a w) : ∃ b1 b2 cur1 e1 f1 cur2 V, RawB M w p b1 b2 cur1 e1 f1 cur2 V ∧ a.tmps.getD 1 undef = .pointer (some ⟨b1, 0, none⟩) ∧ a.tmps.getD 2 undef = .pointer (some ⟨b2, 0, none⟩) ∧ w0.heap.size ≤ b2 := by
  obtain ⟨η, g, H⟩ := hR
  have m : ∀ f, f ∈ stB0 p → f ∈ st ++ stB0 p := fun f h => List.mem_append.2 (.inr h)
  have s1 := H (.slot 1 (.one (.p 1 0))) (m _ (by simp))
  have s2 := H (.slot 2 (.one (.p 2 0))) (m _ (by simp))
  have k10 := H (.cell 1 0 (.d I64 p.1)) (m _ (by simp))
  have k11 := H (.cell 1 1 (.d I64 p.2.1)) (m _ (by simp))
  have k12 := H (.cell 1 2 (.d (.sl BoundT) p.2.2.1)) (m _ (by simp))
  have k20 := H (.cell 2 0 (.v (.slice none 0 0))) (m _ (by simp))
  have k21 := H (.cell 2 1 (.d I64 0)) (m _ (by simp))
  have k22 := H (.cell 2 2 (.v (.slice none 0 0))) (m _ (by simp))
  have k23 := H (.cell 2 3 (.d I64 0)) (m _ (by simp))
  simp only [Fact.holds, holdsV, holds1] at s1 s2 k10 k11 k12 k20 k21 k22 k23
  rw [sval_lt (by decide)] at s1 s2
  obtain ⟨b1, c1, y1, s1⟩ := s1
  obtain ⟨b2, c2, y2, s2⟩ := s2
  obtain ⟨q1, q2, cur1, e1, v10, l1, q3, h1, g10, o10, r10⟩ := k10
  rw [y1] at q3; cases q3
  obtain ⟨q1, q2, cur1', e1', v11, _, q3, h1', g11, o11, r11⟩ := k11
  rw [y1] at q3; cases q3
  rw [h1] at h1'; cases h1'
  obtain ⟨q1, q2, cur1', e1', v12, _, q3, h1', g12, o12, r12⟩ := k12
  rw [y1] at q3; cases q3
  rw [h1] at h1'; cases h1'
  obtain ⟨q1, q2, cur2, e2, v20, l2, q3, h2, g20, o20, _⟩ := k20
  rw [y2] at q3; cases q3
  obtain ⟨q1, q2, cur2', e2', v21, _, q3, h2', g21, o21, _⟩ := k21
  rw [y2] at q3; cases q3
  rw [h2] at h2'; cases h2'
  obtain ⟨q1, q2, cur2', e2', v22, _, q3, h2', g22, o22, _⟩ := k22
  rw [y2] at q3; cases q3
  rw [h2] at h2'; cases h2'
  obtain ⟨q1, q2, cur2', e2', v23, _, q3, h2', g23, o23, _⟩ := k23
  rw [y2] at q3; cases q3
  rw [h2] at h2'; cases h2'
  have hlow : ∀ b, (EH M bs w0 true).low b → w0.heap.size ≤ b := fun b h => h.elim id (fun h => h.elim)
  have hne : b1 ≠ b2 := fun e => by
    subst e
    have := g.inj _ _ _ _ _ y1 y2
    cases this
  have hM : ∀ b, M b → ¬ w0.heap.size ≤ b := fun b hb h => g.old b hb (.inl h)
  have hsz : 3 ≤ cur1.size := by
    have := (Array.getElem?_eq_some_iff.1 g12).1; omega
  have e10 : v10 = .int .i64 p.1 := v_int r10
  have e11 : v11 = .int .i64 p.2.1 := v_int r11
  refine ⟨b1, b2, cur1, e1, (0, 0), cur2, vw (EH M bs w0 true) η w, ⟨h1, ⟨e2, h2⟩, fun h => hM b1 h (hlow b1 l1), hne, hsz, ?_, ?_, ?_⟩, s1, s2, hlow b2 l2⟩
  · obtain ⟨l, hl, ⟨hf, _⟩ | ⟨_, hv⟩⟩ := r12
    · cases hf
    subst hv
    have ht : cur1.toList.take 3 = [v10, v11, v12] := by
      have hl3 : (cur1.toList.take 3).length = 3 := by rw [List.length_take]; simp; omega
      obtain ⟨x, y, z, h3⟩ := len3 hl3
      have f : ∀ j, j < 3 → (cur1.toList.take 3)[j]? = cur1[j]? := fun j hj => by simp [List.getElem?_take, hj]
      have f0 := f 0 (by decide); have f1 := f 1 (by decide); have f2 := f 2 (by decide)
      rw [h3, g10] at f0; rw [h3, g11] at f1; rw [h3, g12] at f2
      simp at f0 f1 f2
      rw [h3, f0, f1, f2]
    rw [ht, e10, e11]
    exact ⟨[_], _, rfl, rfl, [_], _, rfl, rfl, [_], [], rfl, hl, rfl⟩
  · intro b c ⟨h3, h4, h5⟩
    exact ⟨fun h => h3 (.inl h), fun e => h4 2 c2 (by rw [e]; exact y2), h5⟩
  · intro j hj
    have : j = 0 ∨ j = 1 ∨ j = 2 ∨ j = 3 := by omega
    rcases this with rfl | rfl | rfl | rfl
    · exact ⟨_, g20, o20⟩
    · exact ⟨_, g21, o21⟩
    · exact ⟨_, g22, o22⟩
    · exact ⟨_, g23, o23⟩
@[reducible] noncomputable def ER (M : Nat → Prop) (b2 : Nat) (w : World) : Env := { P := Tryz.prog, M := M, mu := fun _ => False, w0 := w, OB := OB, x := { mw := fun b => b = b2, nd := true } }
theorem round_rel {M : Nat → Prop} {w : World} {p : ProgD} {b1 b2 : Nat} {cur1 : Array Value} {e1 : Nat} {f1 : Nat × Nat} {cur2 : Array Value} {V : View} (r : RawB M w p b1 b2 cur1 e1 f1 cur2 V) (hM : ∀ b, M b → b < w.heap.size) (hM2 : ¬ M b2) {a : Act} (hsz : a.tmps.size = 23) (hd : a.defers = []) (s1 : a.tmps.getD 1 undef = .pointer (some ⟨b1, 0, none⟩)) (s2 : a.tmps.getD 2 undef = .pointer (some ⟨b2, 0, none⟩))
    {c : List Int} {ls cap : Nat} {cur : Array Value} (s3 : a.tmps.getD 3 undef = .slice (some ⟨ls, 0, none⟩) c.length cap) (hls : w.heap[ls]? = some (.cells cur 3 (0, 0))) (hrow : rowI c cap cur) (hl2 : ls ≠ b2) (hlM : ¬ M ls) : RelS (ER M b2 w) 23 (stR p c) a w := by
  obtain ⟨e2, h2⟩ := r.h2
  refine ⟨fun k => if k = 2 then some (b2, 4) else none, {
    size := hsz, lim := by decide, defers := ⟨⟨[], hd, List.nodup_nil, fun _ h => by cases h⟩, fun _ h => by cases h⟩, os := rfl, tape := rfl, output := rfl, grow := Nat.le_refl _, keep := fun _ _ _ _ => rfl,
    own := fun k b n hk => ?_, dis := fun b hb => hb.elim, inj := fun k k' b n n' hk hk' => ?_, old := fun b hb h => ?_, obkeep := fun b i o _ h => h.elim, nd := fun _ => hd }, fun f hf => ?_⟩
  · split at hk
    · cases hk; exact ⟨lt_of_heap h2, .inl (.inr rfl)⟩
    · cases hk
  · split at hk
    · split at hk'
      · omega
      · cases hk'
    · cases hk
  · rcases h with h | h
    · exact absurd (hM b hb) (Nat.not_lt_of_le h)
    · have h : b = b2 := h
      subst h; exact hM2 hb
  · have hv : ∀ b c el f, ¬ M b → b ≠ b2 → w.heap[b]? = some (.cells c el f) → vw (ER M b2 w) (fun k => if k = 2 then some (b2, 4) else none) w b c := fun b c el f hm hn hb => ⟨fun h => h.elim hm (fun ⟨_, h⟩ => (by cases h)), (fun k n hk => by
      have hk : (if k = 2 then some (b2, 4) else none) = some (b, n) := hk
      split at hk
      · cases hk; exact hn rfl
      · cases hk), el, f, hb⟩
    have hcell : ∀ j, j < 4 → Fact.holds (ER M b2 w) (fun k => if k = 2 then some (b2, 4) else none) a w (.cell 2 j .u) := fun j hj => by
      obtain ⟨v, hv1, hv2⟩ := r.one j hj
      exact ⟨b2, 4, cur2, e2, v, .inr rfl, rfl, h2, hv1, hv2, trivial⟩
    simp only [stR, List.mem_cons, List.not_mem_nil, or_false] at hf
    rcases hf with rfl | rfl | rfl | rfl | rfl | rfl | rfl
    · simp only [Fact.holds, holdsV, holds1]; rw [sval_lt (by decide), s1]
      refine ⟨⟨b1, 0, none⟩, cur1, rfl, rfl, hv b1 cur1 e1 f1 r.v1 r.n12 r.h1, by show 0 + 3 ≤ cur1.size; have := r.z1; omega, ?_⟩
      show Rep _ ProgT p ((cur1.toList.drop 0).take 3)
      rw [List.drop_zero]
      exact Rep.mono (fun b c h => by obtain ⟨q1, q2, el, f, q3⟩ := r.hV b c h; exact hv b c el f q1 q2 q3) _ _ _ r.rep
    · simp only [Fact.holds, holdsV, holds1]; rw [sval_lt (by decide), s3]
      refine ⟨_, ⟨some ⟨ls, 0, none⟩, cap, rfl, hrow.2.1, hrow.2.2.1, (fun h => (by cases h)), fun ad had hne => ?_⟩, .inr ⟨rfl, rfl⟩⟩
      cases had
      have hin := rowI_in (V := vw (ER M b2 w) (fun k => if k = 2 then some (b2, 4) else none) w) hrow
      refine ⟨rfl, cur, hv ls cur 3 (0, 0) hlM hl2 hls, by show 0 + c.length * 1 ≤ cur.size; have h1 := hrow.1; have h2 := hrow.2.1; omega, fun i x hx => ?_⟩
      have := hin.2.2.2 i x hx
      show Rep _ I64 x ((cur.toList.drop (0 + i * 1)).take 1)
      rw [Nat.zero_add]; exact this
    · simp only [Fact.holds, holdsV, holds1]; rw [sval_lt (by decide), s2]
      exact ⟨b2, 4, rfl, rfl⟩
    · exact hcell 0 (by decide)
    · exact hcell 1 (by decide)
    · exact hcell 2 (by decide)
    · exact hcell 3 (by decide)
end Go.Eng.Ar

namespace Go.Eng.Ar
open Go.Eng Go.Proofs Go
set_option linter.all false
set_option maxRecDepth 100000
set_option maxHeartbeats 2000000
theorem pieceB {b : Code} {st0 target : St} {a : Act} {M : Nat → Prop} {bs : List Nat} {w0 w : World} {Q : Exit → Act → World → Prop} (hR : RelS (EH M bs w0 true) 23 st0 a w) (hd : dstOk 23 b = true) (hnr : noRange b = true)
    (hvc : vc cfB (par cfB) [] b 0 st0 (fun e st => match e with | .normal => Goal (∃ s : Unit, ent st target ∧ True) | .ret => False | _ => False))
    (hQ : ∀ a' w', RelS (EH M bs w0 true) 23 target a' w' → Q .normal a' w') : b.wpIn (Fw none) 0 Tryz.prog Q a w := by
  refine wpIn_mono (vc_sound cB_ok (par_sound mixed cB_ok) b 0 st0 _ a w (EH M bs w0 true) none rfl rfl (.inr hnr) hd hvc hR) ?_
  rintro e a' w' ⟨⟨xe, st', h1, h2, h3⟩, hag⟩
  subst h1
  cases xe with
  | normal =>
    obtain ⟨_, h4, h5⟩ := h2.out
    exact hQ a' w' (ent_sound h4 h3)
  | exit id => exact h2.elim
  | ret => exact h2.elim
theorem lpieceB {ops : Array Oper} {l : List Oper} {st0 target : St} {a : Act} {M : Nat → Prop} {bs : List Nat} {w0 w : World} {Q : Exit → Act → World → Prop} (hR : RelS (EH M bs w0 true) 23 st0 a w)
    (hsub : ∀ o ∈ l, o ∈ ops.toList) (hdst : ∀ o ∈ ops.toList, ∀ t, o.dst = some t → t < 23)
    (hvc : runOps cfB ops l st0 (fun st => Goal (∃ s : Unit, ent st target ∧ True)))
    (hQ : ∀ a' w', RelS (EH M bs w0 true) 23 target a' w' → Q .normal a' w') : wpListIn (Fw none) 0 Tryz.prog ops Q l a w := by
  refine list_mono ?_ l a w (runOps_sound (E := EH M bs w0 true) (c := cfB) (ro := none) (q := 0) cB_ok (ops := ops) (Q := fun e a' w' => e = .normal ∧ RelS (EH M bs w0 true) 23 target a' w') hdst l hsub st0 _ a w hvc hR ?_)
  · rintro e a' w' ⟨rfl, h1⟩
    exact hQ a' w' h1
  · intro st' a' w' h1 h2
    obtain ⟨_, h4, _⟩ := h1.out
    exact ⟨rfl, ent_sound h4 h2⟩
theorem vRet0 (x : CornD) : vc cfB (par cfB) [] .ret 0 (stC x) (fun e st => match e with | .ret | .normal => retVC cfB Tryz.f143.results.toList sBest.res (x, ()) st | _ => False) := by
  repeat' (intro hzz; (try (rename Two => hq; cases hq)); (try dsimp only at hzz); (try simp only [resTy, argTy, eqD, inR, big, wantOf, zB] at hzz); (try (revert hzz; intro _)))
  all_goals try (rename Unit => hq; clear hq)
  all_goals try ((with_reducible refine Held.mk ?_); (with_reducible (first | refine Frz.mk ?_ | refine And.intro (Frz.mk ?_) ?_ | refine And.intro ?_ (Frz.mk ?_))); repeat' first | exact True.intro | (change _ = _; with_reducible rfl) | refine And.intro ?_ ?_ | (with_reducible refine Frz.mk ?_))
  all_goals try (refine Held.mk ?_; (try dsimp only at *); (try simp only [resTy, argTy, eqD, inR, big, wantOf, zB] at *))
  all_goals first | exact ⟨rfl, rfl, rfl, rfl⟩ | trace_state
theorem vRet (x : CornD) : retVC cfB Tryz.f143.results.toList sBest.res (x, ()) (stC x) := vRet0 x
def CB (M : Nat → Prop) (b2 : Nat) (x : CornD) (w : World) : Prop :=
  ∃ cur el v0 v2, w.heap[b2]? = some (.cells cur el (0, 0)) ∧ cur[0]? = some v0 ∧ RepV (fun b c => ¬ M b ∧ b ≠ b2 ∧ ∃ el f, w.heap[b]? = some (.cells c el f)) (.sl I64) x.1 v0 ∧ cur[1]? = some (.int .i64 x.2.1) ∧
    cur[2]? = some v2 ∧ RepV (fun b c => ¬ M b ∧ b ≠ b2 ∧ ∃ el f, w.heap[b]? = some (.cells c el f)) (.sl I64) x.2.2.1 v2 ∧ cur[3]? = some (.int .i64 x.2.2.2.1)
theorem cb_of {M : Nat → Prop} {b2 : Nat} {w w' : World} {a : Act} {x : CornD} (hR : RelS (ER M b2 w) 23 (stC x) a w') (h2 : a.tmps.getD 2 undef = .pointer (some ⟨b2, 0, none⟩)) : CB M b2 x w' := by
  obtain ⟨η, g, H⟩ := hR
  have s2 := H (.slot 2 (.one (.p 2 0))) (by simp)
  have k0 := H (.cell 2 0 (.d (.sl I64) x.1)) (by simp)
  have k1 := H (.cell 2 1 (.d I64 x.2.1)) (by simp)
  have k2 := H (.cell 2 2 (.d (.sl I64) x.2.2.1)) (by simp)
  have k3 := H (.cell 2 3 (.d I64 x.2.2.2.1)) (by simp)
  simp only [Fact.holds, holdsV, holds1] at s2 k0 k1 k2 k3
  rw [sval_lt (by decide), h2] at s2
  obtain ⟨b, c, y, s2⟩ := s2
  have hb : b2 = b := by
    have := s2; simp at this; exact this
  subst hb
  obtain ⟨q1, q2, cur, el, v0, _, q3, h, g0, _, r0⟩ := k0
  rw [y] at q3; cases q3
  obtain ⟨q1, q2, cur', el', v1, _, q3, h', g1, _, r1⟩ := k1
  rw [y] at q3; cases q3
  rw [h] at h'; cases h'
  obtain ⟨q1, q2, cur', el', v2, _, q3, h', g2, _, r2⟩ := k2
  rw [y] at q3; cases q3
  rw [h] at h'; cases h'
  obtain ⟨q1, q2, cur', el', v3, _, q3, h', g3, _, r3⟩ := k3
  rw [y] at q3; cases q3
  rw [h] at h'; cases h'
  have hv : ∀ b' c', vw (ER M b2 w) η w' b' c' → ¬ M b' ∧ b' ≠ b2 ∧ ∃ el f, w'.heap[b']? = some (.cells c' el f) := fun b' c' ⟨h1, h2, h3⟩ => ⟨fun hm => h1 (.inl hm), fun e => h2 2 c (by rw [e]; exact y), h3⟩
  rw [v_int r1] at g1
  rw [v_int r3] at g3
  exact ⟨cur, el, v0, v2, h, g0, r0.mono hv, g1, g2, r2.mono hv, g3⟩
theorem cu_of {M : Nat → Prop} {b2 : Nat} {w w' : World} {a : Act} (hR : RelS (ER M b2 w) 23 stUp a w') (h2 : a.tmps.getD 2 undef = .pointer (some ⟨b2, 0, none⟩)) : ∃ cur el, w'.heap[b2]? = some (.cells cur el (0, 0)) ∧ ∀ j, j < 4 → ∃ v, cur[j]? = some v ∧ v.oneCell' = true := by
  obtain ⟨η, g, H⟩ := hR
  have s2 := H (.slot 2 (.one (.p 2 0))) (by simp)
  have k0 := H (.cell 2 0 .u) (by simp)
  have k1 := H (.cell 2 1 .u) (by simp)
  have k2 := H (.cell 2 2 .u) (by simp)
  have k3 := H (.cell 2 3 .u) (by simp)
  simp only [Fact.holds, holdsV, holds1] at s2 k0 k1 k2 k3
  rw [sval_lt (by decide), h2] at s2
  obtain ⟨b, c, y, s2⟩ := s2
  have hb : b2 = b := by
    have := s2; simp at this; exact this
  subst hb
  obtain ⟨q1, q2, cur, el, v0, _, q3, h, g0, r0, _⟩ := k0
  rw [y] at q3; cases q3
  obtain ⟨q1, q2, cur', el', v1, _, q3, h', g1, r1, _⟩ := k1
  rw [y] at q3; cases q3
  rw [h] at h'; cases h'
  obtain ⟨q1, q2, cur', el', v2, _, q3, h', g2, r2, _⟩ := k2
  rw [y] at q3; cases q3
  rw [h] at h'; cases h'
  obtain ⟨q1, q2, cur', el', v3, _, q3, h', g3, r3, _⟩ := k3
  rw [y] at q3; cases q3
  rw [h] at h'; cases h'
  refine ⟨cur, el, h, fun j hj => ?_⟩
  have : j = 0 ∨ j = 1 ∨ j = 2 ∨ j = 3 := by omega
  rcases this with rfl | rfl | rfl | rfl
  · exact ⟨_, g0, r0⟩
  · exact ⟨_, g1, r1⟩
  · exact ⟨_, g2, r2⟩
  · exact ⟨_, g3, r3⟩
theorem cb_put {M : Nat → Prop} {b2 l : Nat} {x : CornD} {w : World} {o : Obj} {r : Loop} (h : CB M b2 x w) (hl : w.heap[l]? = some (.loop r)) : CB M b2 x (w.putObj l o) := by
  obtain ⟨cur, el, v0, v2, h1, h2, h3, h4, h5, h6, h7⟩ := h
  have hne : ∀ b c el f, w.heap[b]? = some (.cells c el f) → b ≠ l := fun b c el f hb e => by subst e; rw [hl] at hb; cases hb
  have hv : ∀ b c, (¬ M b ∧ b ≠ b2 ∧ ∃ el f, w.heap[b]? = some (.cells c el f)) → ¬ M b ∧ b ≠ b2 ∧ ∃ el f, (w.putObj l o).heap[b]? = some (.cells c el f) := fun b c ⟨q1, q2, el, f, q3⟩ => ⟨q1, q2, el, f, (World.putObj_heap_other (hne b c el f q3)).trans q3⟩
  exact ⟨cur, el, v0, v2, (World.putObj_heap_other (hne b2 cur el _ h1)).trans h1, h2, h3.mono hv, h4, h5, h6.mono hv, h7⟩
theorem final_rel {M : Nat → Prop} {bs : List Nat} {w0 w : World} {b2 D : Nat} {x : CornD} {a : Act} (hM : ∀ b, M b → b < w0.heap.size) (hbs : ∀ b, b ∈ bs → b < w0.heap.size) (hobk : ∀ b i o, b < w0.heap.size → b ∈ bs → w0.heap[b]? = some o → OB i o → ∃ o', w.heap[b]? = some o' ∧ OB i o') (hsz : a.tmps.size = 23) (hd : a.defers = [mkD D]) (s2 : a.tmps.getD 2 undef = .pointer (some ⟨b2, 0, none⟩)) (hb2 : w0.heap.size ≤ b2) (hD : w0.heap.size ≤ D) (hDo : w.heap[D]? = some (.deferred (some [])))
    (hos : w.os = w0.os) (htape : w.tape = w0.tape) (hout : w.output = w0.output) (hsize : w0.heap.size ≤ w.heap.size) (hkeep : ∀ b, b < w0.heap.size → b ∉ bs → w.heap[b]? = w0.heap[b]?) (hc : CB M b2 x w) : RelS (EH M bs w0 false) 23 (stC x) a w := by
  obtain ⟨cur, el, v0, v2, h1, h2, h3, h4, h5, h6, h7⟩ := hc
  have hDb : D ≠ b2 := fun e => by subst e; rw [h1] at hDo; cases hDo
  refine ⟨fun k => if k = 2 then some (b2, 4) else none, {
    size := hsz, lim := by decide, defers := ⟨⟨[D], hd, by simp, fun D' hD' => ?_⟩, fun _ h => by cases h⟩, os := hos, tape := htape, output := hout, grow := hsize, keep := fun b hb hm _ => hkeep b hb hm,
    own := fun k b n hk => ?_, dis := fun b hb h => ?_, inj := fun k k' b n n' hk hk' => ?_, old := fun b hb h => ?_, obkeep := fun b i o hb hm h1 h2 => hobk b i o hb hm h1 h2, nd := fun h => by cases h }, fun f hf => ?_⟩
  · have e : D' = D := List.mem_singleton.1 hD'
    subst e
    refine ⟨hD, hDo, fun k c hk => ?_⟩
    have hk : (if k = 2 then some (b2, 4) else none) = some (D', c) := hk
    split at hk
    · cases hk; exact hDb rfl
    · cases hk
  · have hk : (if k = 2 then some (b2, 4) else none) = some (b, n) := hk
    split at hk
    · cases hk; exact ⟨lt_of_heap h1, .inl (.inl hb2)⟩
    · cases hk
  · exact h.elim (fun h => absurd (hbs b hb) (Nat.not_lt_of_le h)) (fun h => h)
  · have hk : (if k = 2 then some (b2, 4) else none) = some (b, n) := hk
    have hk' : (if k' = 2 then some (b2, 4) else none) = some (b, n') := hk'
    split at hk
    · split at hk'
      · omega
      · cases hk'
    · cases hk
  · exact h.elim (fun h => absurd (hM b hb) (Nat.not_lt_of_le h)) (fun h => h)
  · have hv : ∀ b c, (¬ M b ∧ b ≠ b2 ∧ ∃ el f, w.heap[b]? = some (.cells c el f)) → vw (EH M bs w0 false) (fun k => if k = 2 then some (b2, 4) else none) w b c := fun b c ⟨q1, q2, q3⟩ => ⟨fun h => h.elim q1 (fun ⟨_, h⟩ => (by cases h)), (fun k n hk => by
      have hk : (if k = 2 then some (b2, 4) else none) = some (b, n) := hk
      split at hk
      · cases hk; exact q2 rfl
      · cases hk), q3⟩
    have hone : ∀ (t : Ty) (y : t.Den) (v : Value) (V : View), t.agg = false → RepV V t y v → v.oneCell' = true := fun t y v V ht ⟨l, q1, q2⟩ => by
      rcases q2 with ⟨h, _⟩ | ⟨_, h⟩
      · rw [ht] at h; cases h
      · subst h; exact Rep.oneCell _ _ _ q1 v (by simp)
    simp only [stC, List.mem_cons, List.not_mem_nil, or_false] at hf
    rcases hf with rfl | rfl | rfl | rfl | rfl
    · simp only [Fact.holds, holdsV, holds1]; rw [sval_lt (by decide), s2]
      exact ⟨b2, 4, rfl, rfl⟩
    · exact ⟨b2, 4, cur, el, v0, .inl hb2, rfl, h1, h2, hone _ _ _ _ rfl h3, h3.mono hv⟩
    · exact ⟨b2, 4, cur, el, _, .inl hb2, rfl, h1, h4, rfl, RepV.mk1 rfl rfl⟩
    · exact ⟨b2, 4, cur, el, v2, .inl hb2, rfl, h1, h5, hone _ _ _ _ rfl h6, h6.mono hv⟩
    · exact ⟨b2, 4, cur, el, _, .inl hb2, rfl, h1, h7, rfl, RepV.mk1 rfl rfl⟩
end Go.Eng.Ar

namespace Go.Eng.Ar
open Go.Eng Go.Proofs Go
set_option linter.all false
set_option maxRecDepth 100000
set_option maxHeartbeats 2000000
structure JB (w1 : World) (base l b2 : Nat) (o : Obj) (W : World) : Prop where
  os : W.os = w1.os
  tape : W.tape = w1.tape
  output : W.output = w1.output
  size : base ≤ W.heap.size
  keep : ∀ b, b < base → b ≠ l → b ≠ b2 → W.heap[b]? = w1.heap[b]?
  loop : W.heap[l]? = some o
  two : ∃ cur el, W.heap[b2]? = some (.cells cur el (0, 0)) ∧ ∀ j, j < 4 → ∃ v, cur[j]? = some v ∧ v.oneCell' = true
structure JX (M : Nat → Prop) (w1 : World) (base l b2 : Nat) (o : Obj) (x : CornD) (W : World) : Prop where
  os : W.os = w1.os
  tape : W.tape = w1.tape
  output : W.output = w1.output
  size : base ≤ W.heap.size
  keep : ∀ b, b < base → b ≠ l → b ≠ b2 → W.heap[b]? = w1.heap[b]?
  loop : W.heap[l]? = some o
  cb : CB M b2 x W
theorem yields_b {M : Nat → Prop} {w0s : Nat} {w1 : World} {p : ProgD} {b1 b2 : Nat} {cur1 : Array Value} {e1 : Nat} {f1 : Nat × Nat} {cur2 : Array Value} {V : View} (rb : RawB M w1 p b1 b2 cur1 e1 f1 cur2 V) (hM : ∀ b, M b → b < w0s) (hb2 : w0s ≤ b2) {base l D : Nat} (hl : l < base) (hlb : l ≠ b1 ∧ l ≠ b2) (hw0 : w0s ≤ base) (hbase : base = w1.heap.size)
    {fn : FuncId} {a3 : Act} (hsz : a3.tmps.size = 23) (s1 : a3.tmps.getD 1 undef = .pointer (some ⟨b1, 0, none⟩)) (s2 : a3.tmps.getD 2 undef = .pointer (some ⟨b2, 0, none⟩)) (rc : LoopState → Option Code → Loop) (hrc : rc = fun st pe => { state := st, pending := pe, fn, tmps := a3.tmps, params := #[13], assign := B2, body := BB, defers := D })
    (hl1 : ∃ o, w1.heap[l]? = some (.loop o)) {x : CornD}
    {c : List Int} {rest : List (List Int)} {W : World} {ls cap : Nat} {cur : Array Value} (hJ : JB w1 base l b2 (.loop (rc .ready none)) W) (hx : bestL p.2.2.1 (c :: rest) = some x) (hg : goodA p.2.2.1 c) (hls : base ≤ ls) (hcur : W.heap[ls]? = some (.cells cur 3 (0, 0))) (hrow : rowI c cap cur) :
    YieldAt (Fw none) 0 Tryz.prog l #[.slice (some ⟨ls, 0, none⟩) c.length cap] W fun e w' => (∀ b, base ≤ b → b < W.heap.size → w'.heap[b]? = W.heap[b]?) ∧ ((e = .returned (.bool true) ∧ (JB w1 base l b2 (.loop (rc .ready none)) w' ∧ bestL p.2.2.1 rest = some x)) ∨ (e = .returned (.bool false) ∧ JX M w1 base l b2 (.loop (rc .done (some .ret))) x w')) := by
  obtain ⟨sl, hsl⟩ : ∃ sl, sl = Value.slice (some ⟨ls, 0, none⟩) c.length cap := ⟨_, rfl⟩
  have hloop := hJ.loop
  have hy := run_yield (P := Tryz.prog) (args := #[sl]) hloop (by rw [hrc]; rfl)
  have htm : ((rc .ready none).params.zip #[sl]).foldl (fun tmps (t, a) => tmps.setIfInBounds t a) (rc .ready none).tmps = a3.tmps.setIfInBounds 13 sl := by rw [hrc]; simp
  rw [htm] at hy
  rw [← hsl]
  have e1' : (rc .ready none).fn = fn := by rw [hrc]
  have e2' : (rc .ready none).assign = B2 := by rw [hrc]
  have e3' : (rc .ready none).body = BB := by rw [hrc]
  rw [e1', e2', e3'] at hy
  refine ⟨fn, _, B2, BB, hy, roundIn_of_wpIn trivial ?_⟩
  obtain ⟨a4, ha4⟩ : ∃ a4 : Act, a4 = { tmps := a3.tmps.setIfInBounds 13 sl, defers := [] } := ⟨_, rfl⟩
  rw [← ha4]
  have hap : a4 = ({ tmps := a3.tmps, defers := [] } : Act).put (some 13) sl := ha4
  have z4 : a4.tmps.size = 23 := by rw [hap, size_put]; exact hsz
  have g13 : a4.tmps.getD 13 undef = sl := by rw [hap]; exact getD_put_eq (by show 13 < a3.tmps.size; omega)
  have g1 : a4.tmps.getD 1 undef = .pointer (some ⟨b1, 0, none⟩) := by rw [hap]; exact (getD_put_ne (by decide)).trans s1
  have g2 : a4.tmps.getD 2 undef = .pointer (some ⟨b2, 0, none⟩) := by rw [hap]; exact (getD_put_ne (by decide)).trans s2
  have d4 : a4.defers = [] := by rw [ha4]
  clear ha4 hap
  refine wpIn_region_list ?_
  have hstep : ∀ {o : Oper} {ops : Array Oper} {rest : List Oper} {Q : Exit → Act → World → Prop}, o.guard = none → o.wpIn (Fw (some l)) 0 Tryz.prog a4 W (wpListIn (Fw (some l)) 0 Tryz.prog ops Q rest) Q → wpListIn (Fw (some l)) 0 Tryz.prog ops Q (o :: rest) a4 W := by
    intro o ops rest Q hg h
    have hw : Region.wanted o (yielded ops a4.tmps) = true := by simp [Region.wanted, hg]
    simp only [wpListIn, hw, if_true]
    exact h
  refine hstep rfl (wpIn_of_run (r := .ok (.value sl) W) (by intro d h; cases h) (asR a4 W _ (.tmp 13) rfl g13) ?_)
  obtain ⟨a5, ha5⟩ : ∃ a5, a5 = a4.put (some 3) sl := ⟨_, rfl⟩
  have z5 : a5.tmps.size = 23 := by rw [ha5, size_put]; exact z4
  have d5 : a5.defers = [] := by rw [ha5, defers_put]; exact d4
  have k1 : a5.tmps.getD 1 undef = .pointer (some ⟨b1, 0, none⟩) := by rw [ha5]; exact (getD_put_ne (by decide)).trans g1
  have k2 : a5.tmps.getD 2 undef = .pointer (some ⟨b2, 0, none⟩) := by rw [ha5]; exact (getD_put_ne (by decide)).trans g2
  have k3 : a5.tmps.getD 3 undef = sl := by rw [ha5]; exact getD_put_eq (by rw [z4]; decide)
  refine (show Exit.then (fun a₁ w₁ => ∃ w₂, (Instr.beginRound l).run Tryz.prog w₁ = .ok () w₂ ∧ BB.wpIn (Fw (some l)) 0 Tryz.prog (roundPost Tryz.prog l _) a₁ w₂) (fun _ _ _ => False) .normal (a4.put (some 3) sl) W from ?_)
  rw [← ha5]
  refine ⟨_, run_beginRound hloop (by rw [hrc]), ?_⟩
  obtain ⟨W2, hW2⟩ : ∃ W2, W2 = W.putObj l (.loop { rc .ready none with state := .busy }) := ⟨_, rfl⟩
  rw [← hW2]
  have s2z : W2.heap.size = W.heap.size := by rw [hW2]; exact World.putObj_size
  have o2 : ∀ b, b ≠ l → W2.heap[b]? = W.heap[b]? := fun b h => by rw [hW2]; exact World.putObj_heap_other h
  have l2 : W2.heap[l]? = some (.loop { rc .ready none with state := .busy }) := by rw [hW2]; exact World.putObj_heap_same (lt_of_heap hloop)
  have old : ∀ b, b < base → b ≠ l → b ≠ b2 → W2.heap[b]? = w1.heap[b]? := fun b h1 h2 h3 => (o2 b h2).trans (hJ.keep b h1 h2 h3)
  have notl : ∀ b c el f, w1.heap[b]? = some (.cells c el f) → b ≠ l := fun b c el f h e => by
    obtain ⟨o, ho⟩ := hl1
    subst e; rw [ho] at h; cases h
  obtain ⟨e2, hb2h⟩ := rb.h2
  have b2b : b2 < base := by rw [hbase]; exact lt_of_heap hb2h
  obtain ⟨curU, elU, hU, hU4⟩ := hJ.two
  have rb2 : RawB M W2 p b1 b2 cur1 e1 f1 curU V := ⟨(old b1 (by rw [hbase]; exact lt_of_heap rb.h1) hlb.1.symm rb.n12).trans rb.h1, ⟨elU, (o2 b2 hlb.2.symm).trans hU⟩, rb.v1, rb.n12, rb.z1, rb.rep, fun b c h => by
    obtain ⟨q1, q2, el, f, q3⟩ := rb.hV b c h
    exact ⟨q1, q2, el, f, (old b (by rw [hbase]; exact lt_of_heap q3) (notl b c el f q3) q2).trans q3⟩, hU4⟩
  have hrel := round_rel rb2 (fun b hb => by have := hM b hb; have := hJ.size; omega) (fun h => by have := hM b2 h; omega) z5 d5 k1 k2 (c := c) (ls := ls) (cap := cap) (cur := cur) (k3.trans hsl) ((o2 ls (by omega)).trans hcur) hrow (by omega) (fun h => by have := hM ls h; omega)
  refine wpIn_mono (vc_sound cB_ok (par_sound mixed cB_ok) BB 0 (stR p c) _ a5 W2 (ER M b2 W2) (some l) rfl rfl (.inr (by kernel_rfl)) (by kernel_rfl) (vBB p c hg) hrel) ?_
  rintro e a6 W3 ⟨⟨xe, st', q1, q2, q3⟩, hag⟩
  subst q1
  have hkeep : ∀ b, b < W2.heap.size → b ≠ b2 → W3.heap[b]? = W2.heap[b]? := fun b h1 h2 => by
    obtain ⟨η, g, _⟩ := q3
    exact g.keep b h1 (fun h => h) h2
  have hs3 : W2.heap.size ≤ W3.heap.size := by obtain ⟨η, g, _⟩ := q3; exact g.grow
  have hst : W3.os = W2.os ∧ W3.tape = W2.tape ∧ W3.output = W2.output := by obtain ⟨η, g, _⟩ := q3; exact ⟨g.os, g.tape, g.output⟩
  have hw2 : W2.os = W.os ∧ W2.tape = W.tape ∧ W2.output = W.output := by rw [hW2]; exact ⟨rfl, rfl, rfl⟩
  have l3 : W3.heap[l]? = some (.loop { rc .ready none with state := .busy }) := (hkeep l (by rw [s2z]; have := hJ.size; omega) hlb.2).trans l2
  have hJs := hJ.size
  have up : ∀ (o : Obj) b, base ≤ b → b < W.heap.size → (W3.putObj l o).heap[b]? = W.heap[b]? := fun o b h1 h2 => (World.putObj_heap_other (by omega)).trans ((hkeep b (by omega) (by omega)).trans (o2 b (by omega)))
  cases xe with
  | normal =>
    obtain ⟨_, hent, hat⟩ := q2.out
    obtain ⟨curN, elN, hN, hN4⟩ := cu_of (ent_sound hent q3) ((hag (by intro h; cases h) 2 (by decide)).trans k2)
    refine ⟨_, _, run_endRound none l3, up _, .inl ⟨rfl, ?_, ?_⟩⟩
    · have e4 : (Obj.loop { ({ rc .ready none with state := .busy } : Loop) with state := if (none : Option Code).isNone = true then .ready else .done, pending := none }) = .loop (rc .ready none) := by rw [hrc]; rfl
      refine ⟨hst.1.trans (hw2.1.trans hJ.os), hst.2.1.trans (hw2.2.1.trans hJ.tape), hst.2.2.trans (hw2.2.2.trans hJ.output), ?_, fun b h1 h2 h3 => ?_, ?_, curN, elN, (World.putObj_heap_other hlb.2.symm).trans hN, hN4⟩
      · rw [World.putObj_size]; omega
      · exact (World.putObj_heap_other h2).trans ((hkeep b (by omega) h3).trans (old b h1 h2 h3))
      · refine (World.putObj_heap_same (lt_of_heap l3)).trans ?_
        exact congrArg some e4
    · simp only [bestL, hat] at hx
      simpa using hx
  | exit id => exact q2.elim
  | ret =>
    obtain ⟨_, hent, hat⟩ := q2.out
    have hcb := cb_of (ent_sound hent q3) ((hag (by intro h; cases h) 2 (by decide)).trans k2)
    refine ⟨_, _, run_endRound (some .ret) l3, up _, .inr ⟨rfl, ?_⟩⟩
    have hx : (atR p.2.2.1 c).1 = x := by
      simp only [bestL, hat, if_true] at hx
      exact Option.some.inj hx
    rw [hx] at hcb
    have e4 : (Obj.loop { ({ rc .ready none with state := .busy } : Loop) with state := if (some Code.ret).isNone = true then .ready else .done, pending := some .ret }) = .loop (rc .done (some .ret)) := by rw [hrc]; rfl
    refine ⟨hst.1.trans (hw2.1.trans hJ.os), hst.2.1.trans (hw2.2.1.trans hJ.tape), hst.2.2.trans (hw2.2.2.trans hJ.output), ?_, fun b h1 h2 h3 => ?_, ?_, ?_⟩
    · rw [World.putObj_size]; omega
    · exact (World.putObj_heap_other h2).trans ((hkeep b (by omega) h3).trans (old b h1 h2 h3))
    · exact (World.putObj_heap_same (lt_of_heap l3)).trans (congrArg some e4)
    · exact cb_put hcb l3
end Go.Eng.Ar

namespace Go.Eng.Ar
open Go.Eng Go.Proofs Go
set_option linter.all false
set_option maxRecDepth 100000
set_option maxHeartbeats 2000000
theorem enters178 : Enters Tryz.prog 178 := ⟨Tryz.f178, Tryz.func178, by kernel_rfl, by kernel_rfl⟩
theorem enters163 : Enters Tryz.prog 163 := ⟨Tryz.f163, Tryz.func163, by kernel_rfl, by kernel_rfl⟩
theorem hBest : Ok 143 sBest := by
  refine ⟨fn_hand (c := cfB) cB_ok Tryz.func143 body143 rfl (by decide) (by decide) (by decide) rfl ?_, Tryz.f143, Tryz.func143, by kernel_rfl, by kernel_rfl⟩
  rintro ⟨(p : ProgD), _⟩ ⟨n, (hn : p.2.1 = (n : Int)), hn3, (hsome : (bestR p.2.2.1 n).isSome = true), (hbl : List.length (α := BndD) p.2.2.1 ≤ 100), (hgood : ∀ c ∈ combs (n + 1) 0 (List.length (α := BndD) p.2.2.1), goodA p.2.2.1 c)⟩ M bs w0 a hd hR
  obtain ⟨x, hx⟩ := Option.isSome_iff_exists.1 hsome
  have hfin : sBest.f (p, ()) = (x, ()) := by
    show ((bestR p.2.2.1 p.2.1.toNat).getD cornZ, ()) = (x, ())
    rw [hn, show ((n : Int)).toNat = n from rfl, hx]; rfl
  have hR0 := hR
  have hMlt : ∀ b, M b → b < w0.heap.size := fun b hb => by
    obtain ⟨η, g, _⟩ := hR0
    exact Nat.lt_of_not_le fun h => g.old b hb (.inl h)
  have hbslt : ∀ b, b ∈ bs → b < w0.heap.size := fun b hb => by
    obtain ⟨η, g, _⟩ := hR0
    exact Nat.lt_of_not_le fun h => g.dis b hb (.inl h)
  have hR : RelS (EH M bs w0 true) 23 [.slot 0 (.one (.d ProgT p))] a w0 := nd_on hR hd
  have evt : ∀ (a : Act) (t : Nat), a.eval (.tmp t) = a.tmps.getD t undef := fun a t => rfl
  refine wpIn_seq (pieceB hR (by kernel_rfl) (by kernel_rfl) (vB0 p) fun a1 w1 hR1 => ?_)
  refine wpIn_seq (wpIn_seq (wpIn_region_list ?_))
  change wpListIn (Fw none) 0 Tryz.prog _ _ (opsB1.take 6 ++ opsB1.drop 6) a1 w1
  refine list_app _ _ _ (lpieceB hR1 ?_ ?_ (vB1 p n hn hn3) fun a2 w2 hR2 => ?_)
  · exact fun o ho => by
      change o ∈ opsB1
      exact List.mem_of_mem_take ho
  · intro o ho t ht
    change o ∈ opsB1 at ho
    have hall : (opsB1.all fun o => match o.dst with | some t => Nat.blt t 23 | none => true) = true := by kernel_rfl
    have := List.all_eq_true.1 hall o ho
    rw [ht] at this
    exact Nat.le_of_ble_eq_true this
  have hR2' : RelS (EH M bs w0 true) 23 ([sI 8 ((n + 1 : Nat) : Int), sI 11 ((List.length (α := BndD) p.2.2.1 : Nat) : Int)] ++ stB0 p) a2 w2 := hR2
  obtain ⟨b1, b2, cur1, e1, f1, cur2, V, rb, s1, s2, hb2⟩ := raw_b hR2'
  have z2 : a2.tmps.size = 23 := by obtain ⟨η, g, _⟩ := hR2; exact g.size
  have d2 : a2.defers = [] := (nd_off hR2).2
  have g8 : a2.tmps.getD 8 undef = .int .i64 ((n + 1 : Nat) : Int) := by
    obtain ⟨η, H, h⟩ := rel_raw hR2 (t := 8) (s := .one (.d I64 ((n + 1 : Nat) : Int))) (by simp) (by decide)
    exact v_int h
  have g11 : a2.tmps.getD 11 undef = .int .i64 ((List.length (α := BndD) p.2.2.1 : Nat) : Int) := by
    obtain ⟨η, H, h⟩ := rel_raw hR2 (t := 11) (s := .one (.d I64 ((List.length (α := BndD) p.2.2.1 : Nat) : Int))) (by simp) (by decide)
    exact v_int h
  obtain ⟨gos, gtape, gout, ggrow, gkeep, gobk⟩ : w2.os = w0.os ∧ w2.tape = w0.tape ∧ w2.output = w0.output ∧ w0.heap.size ≤ w2.heap.size ∧ (∀ b, b < w0.heap.size → b ∉ bs → w2.heap[b]? = w0.heap[b]?) ∧ (∀ b i o, b < w0.heap.size → b ∈ bs → w0.heap[b]? = some o → OB i o → ∃ o', w2.heap[b]? = some o' ∧ OB i o') := by
    obtain ⟨η, g, _⟩ := hR2
    exact ⟨g.os, g.tape, g.output, g.grow, fun b h1 h2 => g.keep b h1 h2 (fun h => h), fun b i o h1 h2 h3 h4 => g.obkeep b i o h1 h2 h3 h4⟩
  -- the call of chosen
  refine list_step rfl (op_enter (f := 163) (args := #[.int .i64 ((n + 1 : Nat) : Int), .int .i64 ((List.length (α := BndD) p.2.2.1 : Nat) : Int)]) (by intro d h; cases h) ?_ ?_)
  · obtain ⟨fn, e1, e2, e3⟩ := enters163
    have e2' : ¬ fn.name = "runtime.NumGoroutine" := by simpa using e2
    have e3' : ¬ fn.body = none := by intro hn; rw [hn] at e3; cases e3
    have evf : ∀ (a : Act) (t : Nat), a.eval (.func t) = .func (.func t) #[] #[] := fun a t => rfl
    simp [execOp, resolve, Deferred.ofValue, evt, evf, g8, g11, invoke, callFunc, e1, e2', e3']
  refine (chosen_calls _ _ w2).mono ?_
  rintro e w3 ⟨rfl, hw3⟩
  refine ⟨_, rfl, list_nil ?_⟩
  obtain ⟨bc, hbc⟩ : ∃ bc, bc = w2.heap.size := ⟨_, rfl⟩
  rw [← hbc]
  obtain ⟨cv, hcv⟩ : ∃ cv : Array Value, cv = #[Value.pointer (some ⟨bc, 0, none⟩), Value.pointer (some ⟨bc + 1, 0, none⟩)] := ⟨_, rfl⟩
  rw [← hcv]
  obtain ⟨a3, ha3⟩ : ∃ a3, a3 = a2.put (some 12) (.func (.func 178) #[] cv) := ⟨_, rfl⟩
  have z3 : a3.tmps.size = 23 := by rw [ha3, size_put]; exact z2
  have d3 : a3.defers = [] := by rw [ha3, defers_put]; exact d2
  have t1 : a3.tmps.getD 1 undef = .pointer (some ⟨b1, 0, none⟩) := by rw [ha3]; exact (getD_put_ne (by decide)).trans s1
  have t2 : a3.tmps.getD 2 undef = .pointer (some ⟨b2, 0, none⟩) := by rw [ha3]; exact (getD_put_ne (by decide)).trans s2
  have t12 : a3.tmps.getD 12 undef = .func (.func 178) #[] cv := by rw [ha3]; exact getD_put_eq (by rw [z2]; decide)
  change Code.wpIn (Fw none) 0 Tryz.prog (.block 0 (.rangeFunc (.tmp 12) #[13] B2 BB)) _ (a2.put (some 12) (.func (.func 178) #[] cv)) w3
  rw [← ha3]
  have z3w : w3.heap.size = bc + 2 := by rw [hw3, size_new, size_new, hbc]
  have c1 : w3.heap[bc]? = some (.cells #[.int .i64 ((n + 1 : Nat) : Int)] 3 (0, 0)) := by rw [hw3]; exact heap_old (heap_new hbc)
  have c2 : w3.heap[bc + 1]? = some (.cells #[.int .i64 ((List.length (α := BndD) p.2.2.1 : Nat) : Int)] 3 (0, 0)) := by rw [hw3]; exact heap_new (by rw [size_new, hbc])
  have o3 : ∀ b, b < w2.heap.size → w3.heap[b]? = w2.heap[b]? := fun b hb => by
    obtain ⟨o, ho⟩ : ∃ o, w2.heap[b]? = some o := ⟨_, Array.getElem?_eq_getElem hb⟩
    rw [ho, hw3]; exact heap_old (heap_old ho)
  have st3 : w3.os = w2.os ∧ w3.tape = w2.tape ∧ w3.output = w2.output := by rw [hw3]; exact ⟨rfl, rfl, rfl⟩
  refine wpIn_block (wpIn_rangeFunc fun fn hfn => ?_)
  obtain ⟨D, hD⟩ : ∃ D, D = w3.heap.size := ⟨_, rfl⟩
  obtain ⟨rc, hrc⟩ : ∃ rc : LoopState → Option Code → Loop, rc = fun st pe => { state := st, pending := pe, fn, tmps := a3.tmps, params := #[13], assign := B2, body := BB, defers := D } := ⟨_, rfl⟩
  obtain ⟨W1, hW1⟩ : ∃ W1, W1 = (w3.alloc (.deferred (some []))).alloc (.loop (rc .ready none)) := ⟨_, rfl⟩
  have zW1 : W1.heap.size = D + 2 := by rw [hW1, size_new, size_new, hD]
  have oW1 : ∀ b, b < D → W1.heap[b]? = w3.heap[b]? := fun b hb => by
    obtain ⟨o, ho⟩ : ∃ o, w3.heap[b]? = some o := ⟨_, Array.getElem?_eq_getElem (by omega)⟩
    rw [ho, hW1]; exact heap_old (heap_old ho)
  have hDo : W1.heap[D]? = some (.deferred (some [])) := by rw [hW1]; exact heap_old (heap_new hD)
  have hlo : W1.heap[D + 1]? = some (.loop (rc .ready none)) := by rw [hW1]; exact heap_new (by rw [size_new, hD])
  have stW1 : W1.os = w2.os ∧ W1.tape = w2.tape ∧ W1.output = w2.output := by rw [hW1]; exact st3
  have hfe : a3.eval (.tmp 12) = .func (.func 178) #[] cv := t12
  obtain ⟨e2', h2h⟩ := rb.h2
  have lt1 : b1 < bc := by rw [hbc]; exact lt_of_heap rb.h1
  have lt2 : b2 < bc := by rw [hbc]; exact lt_of_heap h2h
  have down : ∀ b, b < bc → W1.heap[b]? = w2.heap[b]? := fun b hb => (oW1 b (by omega)).trans (o3 b (by omega))
  have rb1 : RawB M W1 p b1 b2 cur1 e1 f1 cur2 V := ⟨(down b1 lt1).trans rb.h1, ⟨e2', (down b2 lt2).trans h2h⟩, rb.v1, rb.n12, rb.z1, rb.rep, fun b c h => by
    obtain ⟨q1, q2, el, f, q3⟩ := rb.hV b c h
    exact ⟨q1, q2, el, f, (down b (by rw [hbc]; exact lt_of_heap q3)).trans q3⟩, rb.one⟩
  refine ⟨D + 1, [mkD D], W1, { target := .fn (.func 178) cv, args := #[] ++ #[.func (.yield (D + 1)) #[] #[]] }, W1, 178, #[] ++ #[.func (.yield (D + 1)) #[] #[]] ++ cv, W1, ?_, ?_, ?_, ?_, fun h => (by cases h), ?_⟩
  · rw [hW1, hrc, hD]; exact run_enterLoop_outer _ _ _ _ _
  · simp only [resolve, hfe]
    simp [go_sem, Deferred.ofValue]
  · intro f' _; trivial
  · obtain ⟨fn', e1, e2, e3⟩ := enters178
    have e2' : ¬ fn'.name = "runtime.NumGoroutine" := by simpa using e2
    have e3' : ¬ fn'.body = none := by intro hn; rw [hn] at e3; cases e3
    simp [invoke, callFunc, e1, e2', e3']
  · have hY : Yld (D + 1) (D + 2) bc (bc + 1) (n + 1) (List.length (α := BndD) p.2.2.1) (fun rest W => (JB W1 (D + 2) (D + 1) b2 (.loop (rc .ready none)) W ∧ bestL p.2.2.1 rest = some x) ∧ ∀ c ∈ rest, goodA p.2.2.1 c) (JX M W1 (D + 2) (D + 1) b2 (.loop (rc .done (some .ret))) x) := by
      refine ⟨?_, ?_, ?_, ?_⟩
      · rintro rest w w' ⟨⟨h, h2⟩, h3⟩ hb
        have hk : ∀ b, b < D + 2 → w'.heap[b]? = w.heap[b]? := fun b h1 => hb.keep b h1 (Nat.lt_of_lt_of_le h1 h.size)
        obtain ⟨cu, el, q1, q2⟩ := h.two
        exact ⟨⟨⟨hb.os.trans h.os, hb.tape.trans h.tape, hb.output.trans h.output, Nat.le_trans h.size hb.size, fun b h1 h2 h3 => (hk b h1).trans (h.keep b h1 h2 h3), (hk _ (by omega)).trans h.loop, cu, el, (hk b2 (by omega)).trans q1, q2⟩, h2⟩, h3⟩
      · rintro rest w ⟨⟨h, _⟩, _⟩
        exact h.size
      · rintro rest w ⟨⟨h, _⟩, _⟩
        exact ⟨(h.keep bc (by omega) (by omega) (by omega)).trans ((oW1 bc (by omega)).trans c1), (h.keep (bc + 1) (by omega) (by omega) (by omega)).trans ((oW1 (bc + 1) (by omega)).trans c2)⟩
      · rintro c rest w ls cap cur ⟨⟨h, h2⟩, h3⟩ hls hcur hrow
        have hy := yields_b (w0s := w0.heap.size) rb1 hMlt hb2 (base := D + 2) (l := D + 1) (D := D) (by omega) ⟨by omega, by omega⟩ (by omega) zW1.symm (fn := fn) (a3 := a3) z3 t1 t2 rc hrc ⟨_, hlo⟩ (x := x) h h2 (h3 c List.mem_cons_self) hls hcur hrow
        obtain ⟨q1, q2, q3, q4, q5, q6⟩ := hy
        refine ⟨q1, q2, q3, q4, q5, RoundIn.mono q6 ?_⟩
        rintro e w' ⟨k1, ⟨k2, k3⟩ | ⟨k2, k3⟩⟩
        · exact ⟨k1, .inl ⟨k2, k3, fun c hc => h3 c (List.mem_cons_of_mem _ hc)⟩⟩
        · exact ⟨k1, .inr ⟨k2, k3⟩⟩
    have hJ0 : (JB W1 (D + 2) (D + 1) b2 (.loop (rc .ready none)) W1 ∧ bestL p.2.2.1 (combs (n + 1) 0 (List.length (α := BndD) p.2.2.1)) = some x) ∧ ∀ c ∈ combs (n + 1) 0 (List.length (α := BndD) p.2.2.1), goodA p.2.2.1 c := by
      refine ⟨⟨⟨rfl, rfl, rfl, by omega, fun _ _ _ _ => rfl, hlo, cur2, e2', (down b2 lt2).trans h2h, rb.one⟩, hx⟩, hgood⟩
    have hc := chosen1_in hY ⟨by omega, by omega⟩ hbl ⟨by omega, by omega⟩ W1 zW1.symm hJ0
    rw [← hcv] at hc
    have hargs : (#[] ++ #[Value.func (.yield (D + 1)) #[] #[]] ++ cv : Array Value) = #[Value.func (.yield (D + 1)) #[] #[]] ++ cv := by simp
    rw [hargs]
    refine hc.mono ?_
    rintro e W2 ⟨⟨v, rfl⟩, ⟨⟨_, h2⟩, _⟩ | h⟩
    · cases h2
    · refine ⟨_, _, run_endLoop h.loop (by rw [hrc]; simp), ?_⟩
      have hpd : (rc .done (some .ret)).pending = some .ret := by rw [hrc]
      rw [hpd]
      refine wpIn_ret ⟨.ret, stC x, rfl, ?_, ?_⟩
      · show retVC cfB Tryz.f143.results.toList sBest.res (sBest.f (p, ())) (stC x)
        rw [hfin]; exact vRet x
      · have keepW : ∀ b, b < bc → b ≠ b2 → W2.heap[b]? = w2.heap[b]? := fun b h1 h2 => (h.keep b (by omega) (by omega) h2).trans (down b h1)
        have nl : ∀ (o : Obj) b, b ≠ D + 1 → (W2.putObj (D + 1) o).heap[b]? = W2.heap[b]? := fun o b hb => World.putObj_heap_other hb
        refine final_rel (D := D) (b2 := b2) hMlt hbslt (fun b i o h1 h2 h3 h4 => ?_) z3 (by show mkD D :: a3.defers = _; rw [d3]) t2 hb2 (by omega) ((nl _ D (by omega)).trans ((h.keep D (by omega) (by omega) (by omega)).trans hDo)) (h.os.trans (stW1.1.trans gos)) (h.tape.trans (stW1.2.1.trans gtape)) (h.output.trans (stW1.2.2.trans gout)) (by rw [World.putObj_size]; have := h.size; omega) (fun b h1 h2 => ?_) (cb_put h.cb h.loop)
        · obtain ⟨o', q1, q2⟩ := gobk b i o h1 h2 h3 h4
          exact ⟨o', (nl _ b (by omega)).trans ((keepW b (by omega) (by omega)).trans q1), q2⟩
        · exact (nl _ b (by omega)).trans ((keepW b (by omega) (by omega)).trans (gkeep b h1 h2))
end Go.Eng.Ar

namespace Go.Eng.Ar
open Go.Eng Go.Proofs
set_option linter.all false
set_option maxRecDepth 100000
set_option maxHeartbeats 8000000
theorem combs_mem : ∀ (k f r : Nat) (c : List Int), c ∈ combs k f r → c.length = k ∧ ∀ x ∈ c, (f : Int) ≤ x ∧ x < (f : Int) + r
  | 0, f, r, c, h => by
    simp only [combs, List.mem_singleton] at h
    subst h; exact ⟨rfl, fun x hx => by cases hx⟩
  | k + 1, f, 0, c, h => by simp [combs] at h
  | k + 1, f, r + 1, c, h => by
    simp only [combs, List.mem_append, List.mem_map] at h
    rcases h with ⟨d, hd, rfl⟩ | h
    · obtain ⟨h1, h2⟩ := combs_mem k (f + 1) r d hd
      refine ⟨by simp [h1], fun x hx => ?_⟩
      rcases List.mem_cons.1 hx with rfl | hx
      · omega
      · have := h2 x hx; omega
    · obtain ⟨h1, h2⟩ := combs_mem (k + 1) (f + 1) r c h
      exact ⟨h1, fun x hx => by have := h2 x hx; omega⟩
def okBd (N : Nat) (d : BndD) : Prop := d.1.length = N ∧ (∀ x ∈ d.1, (-1000 : Int) ≤ x ∧ x ≤ (1000 : Int)) ∧ (0 : Int) ≤ d.2.1 ∧ d.2.1 ≤ (1000 : Int)
theorem bnds_len {t : List (List Int)} {cap : Int} {k : Nat} : (bndsT t cap k).length = t.length + t.length + ncol t + k := by
  simp only [bndsT, opensT, highsT, lowsT, List.length_append, tab_len]
theorem unit_mem {n : Nat} {k : Nat} {v x : Int} (h : x ∈ unitL (n : Int) (k : Int) v) : x = v ∨ x = 0 := by
  unfold unitL at h
  rcases List.mem_or_eq_of_mem_set h with h | h
  · rw [repl_eq] at h
    exact .inr (List.eq_of_mem_replicate h)
  · exact .inl h
theorem okI {x : Int} (h : -1000 ≤ x ∧ x ≤ 1000) : ((-1000 : Int) ≤ x ∧ x ≤ (1000 : Int)) := h
theorem bnds_ok {t : List (List Int)} {cap : Int} (h : goodT t cap) : ∀ d ∈ bndsT t cap (ncol t), okBd (ncol t + 1) d := by
  intro d hd
  have hr : ∀ i, i < t.length → ∀ x ∈ rowN t i, 0 ≤ x ∧ x ≤ 100 := fun i hi x hx => by
    obtain ⟨j, hj, rfl⟩ := mem_vI hx
    exact h.vals i j hi (by rw [← h.rows i hi]; exact hj)
  simp only [bndsT, opensT, highsT, lowsT, List.mem_append] at hd
  rcases hd with ((hd | hd) | hd) | hd
  · obtain ⟨i, hi, rfl⟩ := tab_mem hd
    refine ⟨by show (tab (fun j => -vI (rowN t i) j) (rowN t i).length ++ [1]).length = _; rw [List.length_append, tab_len, h.rows i hi]; rfl, fun x hx => ?_, Int.le_refl _, by show (0 : Int) ≤ 1000; decide⟩
    have hx : x ∈ tab (fun j => -vI (rowN t i) j) (rowN t i).length ++ [1] := hx
    rcases List.mem_append.1 hx with hx | hx
    · obtain ⟨j, hj, rfl⟩ := tab_mem hx
      exact okI (by have := hr i hi _ (vI_mem hj); omega)
    · rw [List.mem_singleton.1 hx]; exact ⟨by decide, by decide⟩
  · obtain ⟨i, hi, rfl⟩ := tab_mem hd
    refine ⟨by show (rowN t i ++ [0]).length = _; rw [List.length_append, h.rows i hi]; rfl, fun x hx => ?_, h.cap0.1, h.cap0.2⟩
    have hx : x ∈ rowN t i ++ [0] := hx
    rcases List.mem_append.1 hx with hx | hx
    · exact okI (by have := hr i hi _ hx; omega)
    · rw [List.mem_singleton.1 hx]; exact ⟨by decide, by decide⟩
  · obtain ⟨j, hj, rfl⟩ := tab_mem hd
    refine ⟨by show (unitL ((ncol t : Int) + 1) (j : Int) 1).length = _; rw [unit_len]; omega, fun x hx => ?_, by show (0 : Int) ≤ 1; decide, by show (1 : Int) ≤ 1000; decide⟩
    rcases unit_mem (n := ncol t + 1) (show x ∈ unitL ((ncol t + 1 : Nat) : Int) (j : Int) 1 from hx) with rfl | rfl <;> decide
  · obtain ⟨j, hj, rfl⟩ := tab_mem hd
    refine ⟨by show (unitL ((ncol t : Int) + 1) (j : Int) (-1)).length = _; rw [unit_len]; omega, fun x hx => ?_, Int.le_refl _, by show (0 : Int) ≤ 1000; decide⟩
    rcases unit_mem (n := ncol t + 1) (show x ∈ unitL ((ncol t + 1 : Nat) : Int) (j : Int) (-1) from hx) with rfl | rfl <;> decide
theorem bd_mem {b : List BndD} {k : Nat} (h : k < b.length) : bdN b k ∈ b := by
  have : bdN b k = b[k] := by simp [bdN, List.getD, List.getElem?_eq_getElem h]
  rw [this]; exact List.getElem_mem h
theorem good_comb {t : List (List Int)} {cap : Int} (h : goodT t cap) : ∀ c ∈ combs (ncol t + 1) 0 (bndsT t cap (ncol t)).length, goodA (bndsT t cap (ncol t)) c := by
  intro c hc
  obtain ⟨h1, h2⟩ := combs_mem _ _ _ c hc
  have hl := @bnds_len t cap (ncol t)
  have g1 := h.le
  have g2 := h.cle
  refine ⟨by omega, by omega, by omega, fun i hi => ?_, fun k hk => ?_, fun k j hk hj => ?_, fun k hk => ?_⟩
  · have := h2 _ (vI_mem hi); omega
  · rw [h1]; exact (bnds_ok h _ (bd_mem hk)).1
  · have hb := bnds_ok h _ (bd_mem hk)
    exact hb.2.1 _ (vI_mem (by rw [hb.1, ← h1]; exact hj))
  · exact (bnds_ok h _ (bd_mem hk)).2.2
structure cornOK (n s : Nat) (x : CornD) : Prop where
  l1 : List.length (α := Int) x.1 = n
  v1 : ∀ i, i < n → (vI x.1 i).natAbs ≤ 400000000000000
  d1 : (0 : Int) < x.2.1 ∧ x.2.1 ≤ (400000000000000 : Int)
  l2 : List.length (α := Int) x.2.2.1 = s
  v2 : ∀ i, i < s → (vI x.2.2.1 i).natAbs ≤ 400000000000000
  d2 : (0 : Int) < x.2.2.2.1 ∧ x.2.2.2.1 ≤ (400000000000000 : Int)
theorem ws_bd {b : Nat} {l y : List Int} {m : Nat} (hy : ∀ i, i < m → (vI y i).natAbs ≤ 400000000000000) : ∀ k, k ≤ m → ∀ x ∈ wsP b l y k, x.natAbs ≤ 400000000000000
  | 0, _, x, hx => by
    simp only [wsP, repl_eq] at hx
    rw [List.eq_of_mem_replicate hx]; decide
  | k + 1, hk, x, hx => by
    simp only [wsP] at hx
    rcases List.mem_or_eq_of_mem_set hx with hx | rfl
    · exact ws_bd hy k (by omega) x hx
    · exact hy k (by omega)
theorem at_props {b : List BndD} {c : List Int} (hg : goodA b c) (h : (atR b c).2.1 = true) : cornOK c.length b.length (atR b c).1 := by
  have hx : (atX b c).2.2.1 = true := by
    cases e : (atX b c).2.2.1 with
    | true => rfl
    | false => rw [at_1 e] at h; cases h
  have ho : okAll b (atX b c).1 (atX b c).2.1 b.length = true := by
    cases e : okAll b (atX b c).1 (atX b c).2.1 b.length with
    | true => rfl
    | false => rw [at_2 hx e] at h; cases h
  by_cases hm : mn (atY b c).1 (c.length - 1) < 0
  · rw [at_3 hx ho hm] at h; cases h
  · rw [at_4 hx ho hm]
    have b1 := fun i hi => solve_bd (pX hg) (x_det hx) (i := i) (by rw [rows_len]; exact hi)
    have b2 := fun i hi => solve_bd (pY hg) (y_det hg hx) (i := i) (by rw [tr_len, rows_len]; exact hi)
    refine ⟨x_len hx, fun i hi => ?_, solve_den (pX hg) (x_det hx), ws_len _, fun i hi => ?_, solve_den (pY hg) (y_det hg hx)⟩
    · have := b1 i hi
      show (vI (solveR (rowsP b c c.length) (rhsP b c c.length)).1 i).natAbs ≤ _
      omega
    · refine ws_bd (m := c.length) (fun i hi => ?_) c.length (Nat.le_refl _) _ (vI_mem (by rw [ws_len]; exact hi))
      have := b2 i hi
      show (vI (solveR (trM (rowsP b c c.length)) (unitL (c.length : Int) ((c.length : Int) - 1) 1)).1 i).natAbs ≤ _
      omega
theorem best_some {b : List BndD} {x : CornD} : ∀ {l : List (List Int)}, bestL b l = some x → ∃ c ∈ l, (atR b c).2.1 = true ∧ (atR b c).1 = x
  | [], h => by cases h
  | c :: r, h => by
    simp only [bestL] at h
    split at h
    · exact ⟨c, List.mem_cons_self, by assumption, Option.some.inj h⟩
    · obtain ⟨d, h1, h2⟩ := best_some h
      exact ⟨d, List.mem_cons_of_mem _ h1, h2⟩
def bestX (t : List (List Int)) (cap : Int) : Option CornD := bestR (bndsT t cap (ncol t)) (ncol t)
theorem best_ok {t : List (List Int)} {cap : Int} {x : CornD} (h : goodT t cap) (hx : bestX t cap = some x) : cornOK (ncol t + 1) (t.length + t.length + ncol t + ncol t) x := by
  obtain ⟨c, hc, h1, rfl⟩ := best_some hx
  have hg := good_comb h c hc
  have := at_props hg h1
  rw [(combs_mem _ _ _ c hc).1, bnds_len] at this
  exact this
abbrev OpenD : Type := OpenT.Den
abbrev WgtD : Type := WeightsT.Den
def bO (x : CornD) (n : Nat) : OpenD := ((redL (List.take n x.1) x.2.1).2, (redL (List.take n x.1) x.2.1).1, ())
def bWl (x : CornD) (s n : Nat) : List Int := (redL (List.take (2 * s + n) x.2.2.1) x.2.2.2.1).1
def bW (x : CornD) (s n : Nat) : WgtD := ((redL (List.take (2 * s + n) x.2.2.1) x.2.2.2.1).2, (bWl x s n).take s, ((bWl x s n).take (2 * s)).drop s, (bWl x s n).drop (2 * s), ())
def bV (x : CornD) (n : Nat) : PairT.Den := (Int.tdiv (vI x.1 n) (gcd2 (vI x.1 n) x.2.1), Int.tdiv x.2.1 (gcd2 (vI x.1 n) x.2.1), ())
def pBO (t : List (List Int)) (cap : Int) : Prop := goodT t cap ∧ (bestX t cap).isSome = true
abbrev bX (t : List (List Int)) (cap : Int) : CornD := (bestX t cap).getD cornZ
@[reducible] def sRedD : Spec := { sRed with res := [{ t := .sl I64 }, { t := I64 }] }
theorem h144d : Ok 144 sRedD := by
  refine mk (ctr := [(145, sClone), (148, sDiv)]) ⟨h145, h148, trivial⟩ (nt := 33) Tryz.func144 rfl rfl rfl rfl (by kernel_rfl) (by kernel_rfl) (fun x => [fun _ => redAnn x.1 x.2.1]) ?_
  rintro ⟨(l : List Int), (d : Int), _⟩ ⟨(h1 : l.length ≤ 1000), (h2 : ∀ i, i < l.length → (vI l i).natAbs ≤ 9000000000000000000), (h3 : d.natAbs ≤ 9000000000000000000), (h4 : d ≠ 0)⟩
  have e : (gf (l ++ [d]) (l ++ [d]).length : Int) = redG l d := rfl
  have g1 : vI (l ++ [d]) l.length = d := by simp [vI]
  have g2 : (l ++ [d]).length = l.length + 1 := by simp
  have e2 : redG l d ≠ 0 := by
    have := gf_pos (xs := l ++ [d]) (k := l.length) (by rw [g1]; exact h4)
    rw [← e, g2]; exact this
  have hd : pDiv (l ++ [d]) := ⟨by show ((l ++ [d]).length : Int) ≤ 4611686018427387904; rw [g2]; omega, fun i hi => by
    by_cases hl : i < l.length
    · have : vI (l ++ [d]) i = vI l i := by simp [vI, List.getElem?_append_left hl]
      rw [this]; exact h2 i hl
    · have : i = l.length := by omega
      subst this
      rw [g1]; exact h3⟩
  repeat' (intro hzz; (try (rename Two => hq; cases hq)); (try dsimp only at hzz); (try simp only [resTy, argTy, eqD, inR, big, wantOf, zB] at hzz); (try simp only [resTy, argTy, eqD, inR, big, wantOf, zB, getD_i, tab_len, e] at hzz); (try (revert hzz; intro _)))
  all_goals try (rename Unit => hq; clear hq)
  all_goals try ((with_reducible refine Held.mk ?_); (with_reducible (first | refine Frz.mk ?_ | refine And.intro (Frz.mk ?_) ?_ | refine And.intro ?_ (Frz.mk ?_))); repeat' first | exact True.intro | (change _ = _; with_reducible rfl) | refine And.intro ?_ ?_ | (with_reducible refine Frz.mk ?_))
  all_goals try (refine Held.mk ?_; (try dsimp only at *); (try simp only [resTy, argTy, eqD, inR, big, wantOf, zB] at *); (try simp only [resTy, argTy, eqD, inR, big, wantOf, zB, getD_i, tab_len, e] at *))
  · show l.length ≤ 2000000000; omega
  · show l.length + 1 ≤ 2147483648; omega
  · exact hd
  ·
    refine GHeld.mk ?_
    refine Exists.intro 0 ?_
    refine And.intro (Leaf.mk ?_) ?_
    · repeat' first | exact True.intro | refine And.intro ?_ ?_
      all_goals try ((change _ = _ <;> try dsimp only) <;> try with_reducible rfl)
      all_goals try omega
      all_goals (rfl)
    exact Nat.zero_le _
  · omega
  · rename_i k hk hg
    exact ⟨e2, td_in (h2 k (by omega))⟩
  · rename_i k hk hg
    show k + 1 ≤ 2147483648; omega
  · omega
  · rename_i k hk hg
    refine GHeld.mk ?_
    refine Exists.intro (k + 1) ?_
    refine And.intro (Leaf.mk ?_) ?_
    · repeat' first | exact True.intro | refine And.intro ?_ ?_
      all_goals try ((change _ = _ <;> try dsimp only) <;> try with_reducible rfl)
      all_goals try omega
      all_goals (rfl)
    exact ⟨by show k + 1 ≤ l.length; omega, by show l.length - (k + 1) < l.length - k; omega⟩
  · exact ⟨e2, td_in h3⟩
  · rename_i k hk hg
    rw [show k = l.length by omega]; exact ⟨rfl, rfl⟩
theorem natA {n : Int} (h1 : 0 < n) (h2 : n ≤ 400000000000000) : n.natAbs ≤ 9000000000000000000 ∧ n ≠ 0 := by omega
@[reducible] def sBestOf : Spec := { pats := [.dat TaskT], res := [{ t := OpenT }, { t := WeightsT }, { t := PairT }], pre := fun x => pBO x.1.1 x.1.2.1, f := fun x => (bO (bX x.1.1 x.1.2.1) (ncol x.1.1), bW (bX x.1.1 x.1.2.1) (List.length (α := List Int) x.1.1) (ncol x.1.1), bV (bX x.1.1 x.1.2.1) (ncol x.1.1), ()) }
theorem h102 : Ok 102 sBestOf := by
  refine mk (ctr := [(107, sLow), (142, sProg), (143, sBest), (144, sRedD), (145, sClone)]) ⟨h107, h142, hBest, h144d, h145, trivial⟩ (nt := 76) Tryz.func102 rfl rfl rfl rfl (by kernel_rfl) (by kernel_rfl) (fun _ => []) ?_
  rintro ⟨⟨(t : List (List Int)), (cap : Int), _⟩, _⟩ h
  have h' : goodT t cap ∧ (bestX t cap).isSome = true := h
  obtain ⟨hg, hs⟩ := h'
  obtain ⟨x, hx⟩ := Option.isSome_iff_exists.1 hs
  have eX : (bestR (bndsT t cap (ncol t)) (ncol t)).getD cornZ = x := by
    rw [show bestR (bndsT t cap (ncol t)) (ncol t) = some x from hx]; rfl
  have hc := best_ok hg hx
  obtain ⟨l1, v1, d1, l2, v2, d2⟩ := hc
  have g1 := hg.le
  have g2 := hg.cle
  have e2 : (2 * (t.length : Int)).toNat = 2 * t.length := by omega
  have e3 : (2 * (t.length : Int) + (ncol t : Int)).toNat = 2 * t.length + ncol t := by omega
  have r1 : (redL (List.take (ncol t) x.1) x.2.1).1.length = ncol t := by
    show (tab _ (List.take (ncol t) x.1).length).length = _
    rw [tab_len, List.length_take, l1]; exact Nat.min_eq_left (Nat.le_succ _)
  have r2 : (redL (List.take (2 * t.length + ncol t) x.2.2.1) x.2.2.2.1).1.length = 2 * t.length + ncol t := by
    show (tab _ (List.take (2 * t.length + ncol t) x.2.2.1).length).length = _
    rw [tab_len, List.length_take, l2]; exact Nat.min_eq_left (by omega)
  have w1 : ∀ i, i < ncol t → vI (List.take (ncol t) x.1) i = vI x.1 i := fun i hi => by simp [vI, List.getD, List.getElem?_take, hi]
  have w2 : ∀ i, i < 2 * t.length + ncol t → vI (List.take (2 * t.length + ncol t) x.2.2.1) i = vI x.2.2.1 i := fun i hi => by simp [vI, List.getD, List.getElem?_take, hi]
  have p1 : pRed (List.take (ncol t) x.1) x.2.1 := by
    refine ⟨by rw [List.length_take]; omega, fun i hi => ?_, (natA d1.1 d1.2).1, (natA d1.1 d1.2).2⟩
    have hi' : i < ncol t := by rw [List.length_take] at hi; omega
    rw [w1 i hi']; have := v1 i (by omega); omega
  have p2 : pRed (List.take (2 * t.length + ncol t) x.2.2.1) x.2.2.2.1 := by
    refine ⟨by rw [List.length_take]; omega, fun i hi => ?_, (natA d2.1 d2.2).1, (natA d2.1 d2.2).2⟩
    have hi' : i < 2 * t.length + ncol t := by rw [List.length_take] at hi; omega
    rw [w2 i hi']; have := v2 i (by omega); omega
  have p3 : pLow (vI x.1 (ncol t)) x.2.1 := ⟨by have := v1 (ncol t) (by omega); omega, (natA d1.1 d1.2).1, (natA d1.1 d1.2).2⟩
  have eb : bX t cap = x := by show (bestX t cap).getD cornZ = x; rw [hx]; rfl
  repeat' (intro hzz; (try (rename Two => hq; cases hq)); (try dsimp only at hzz); (try simp only [resTy, argTy, eqD, inR, big, wantOf, zB] at hzz); (try simp only [resTy, argTy, eqD, inR, big, wantOf, zB, getD_l, getD_i, getD_0, getD_l2, getD_i2, Int.toNat_natCast, eX, e2, e3] at hzz); (try (revert hzz; intro _)))
  all_goals try (rename Unit => hq; clear hq)
  all_goals try ((with_reducible refine Held.mk ?_); (with_reducible (first | refine Frz.mk ?_ | refine And.intro (Frz.mk ?_) ?_ | refine And.intro ?_ (Frz.mk ?_))); repeat' first | exact True.intro | (change _ = _; with_reducible rfl) | refine And.intro ?_ ?_ | (with_reducible refine Frz.mk ?_))
  all_goals try (refine Held.mk ?_; (try dsimp only at *); (try simp only [resTy, argTy, eqD, inR, big, wantOf, zB] at *); (try simp only [resTy, argTy, eqD, inR, big, wantOf, zB, getD_l, getD_i, getD_0, getD_l2, getD_i2, Int.toNat_natCast, eX, e2, e3] at *))
  · exact hg
  · exact ⟨ncol t, rfl, g2, hs, by rw [bnds_len]; omega, good_comb hg⟩
  all_goals try (first | exact p1 | exact p2 | exact p3)
  · rw [l1]; omega
  · omega
  · omega
  · rw [l2]; omega
  · rw [r2]; omega
  · rw [List.length_take]; omega
  · omega
  · rw [r2]; omega
  · rw [List.length_drop, List.length_take]; omega
  · omega
  · rw [r2]; omega
  · rw [List.length_drop]; omega
  · rw [l1]; omega
  · rw [eb]; exact ⟨⟨rfl, rfl⟩, ⟨rfl, rfl, rfl, rfl⟩, rfl, rfl⟩
abbrev pBOpen (t : List (List Int)) (cap : Int) : Prop := chkT t cap = 0 → (bestX t cap).isSome = true
def bOpenR (t : List (List Int)) (cap : Int) : OpenD × WgtD × PairT.Den × Int × Unit :=
  if chkT t cap = 0 then (bO (bX t cap) (ncol t), bW (bX t cap) t.length (ncol t), bV (bX t cap) (ncol t), 0, ()) else ((0, [], ()), (0, [], [], [], ()), (0, 0, ()), chkT t cap, ())
@[reducible] def sBestOpen : Spec := { pats := [.dat TaskT], res := [{ t := OpenT }, { t := WeightsT }, { t := PairT }, { t := I64 }], pre := fun x => pBOpen x.1.1 x.1.2.1, f := fun x => bOpenR x.1.1 x.1.2.1 }
theorem h41 : Ok 41 sBestOpen := by
  refine mk (ctr := [(65, sTask), (102, sBestOf)]) ⟨h65, h102, trivial⟩ (nt := 27) Tryz.func41 rfl rfl rfl rfl (by kernel_rfl) (by kernel_rfl) (fun _ => []) ?_
  rintro ⟨⟨(t : List (List Int)), (cap : Int), _⟩, _⟩ h
  have h' : chkT t cap = 0 → (bestX t cap).isSome = true := h
  repeat' (intro hzz; (try (rename Two => hq; cases hq)); (try dsimp only at hzz); (try simp only [resTy, argTy, eqD, inR, big, wantOf, zB] at hzz); (try (revert hzz; intro _)))
  all_goals try (rename Unit => hq; clear hq)
  all_goals try ((with_reducible refine Held.mk ?_); (with_reducible (first | refine Frz.mk ?_ | refine And.intro (Frz.mk ?_) ?_ | refine And.intro ?_ (Frz.mk ?_))); repeat' first | exact True.intro | (change _ = _; with_reducible rfl) | refine And.intro ?_ ?_ | (with_reducible refine Frz.mk ?_))
  all_goals try (refine Held.mk ?_; (try dsimp only at *); (try simp only [resTy, argTy, eqD, inR, big, wantOf, zB] at *))
  · rename_i hc
    have e : bOpenR t cap = ((0, [], ()), (0, [], [], [], ()), (0, 0, ()), chkT t cap, ()) := if_neg hc
    rw [e]; exact ⟨⟨rfl, rfl⟩, ⟨rfl, rfl, rfl, rfl⟩, ⟨rfl, rfl⟩, rfl⟩
  · rename_i hc
    exact ⟨goodT_of hc, h' hc⟩
  · rename_i hc
    have e : bOpenR t cap = (bO (bX t cap) (ncol t), bW (bX t cap) t.length (ncol t), bV (bX t cap) (ncol t), 0, ()) := if_pos hc
    rw [e]; exact ⟨⟨rfl, rfl⟩, ⟨rfl, rfl, rfl, rfl⟩, ⟨rfl, rfl⟩, rfl⟩
theorem ex_ok : chkT [[2, 0], [0, 4]] 3 = 0 ∧ (bestX [[2, 0], [0, 4]] 3).isSome = true ∧ bV (bX [[2, 0], [0, 4]] 3) 2 = (2, 1, ()) := by
  refine ⟨by decide +kernel, by decide +kernel, by decide +kernel⟩
end Go.Eng.Ar

namespace Go.Eng.Ar
open Go.Eng Go.Proofs Go.Lib
set_option linter.all false
set_option maxRecDepth 100000
set_option maxHeartbeats 8000000
theorem prog_num {l : List UInt8} {k : Nat} (hk : k ≤ 18) (h : numOk l k = true) : atoiR l = (numV l, false, ()) ∧ itoa (numV l) = l ∧ (trimPrefix l [45]).length ≤ k ∧ (-9223372036854775808 ≤ numV l ∧ numV l ≤ 9223372036854775807) := by
  obtain ⟨h1, h2⟩ := itoa_of_num h
  have hb := numV_bd h
  have hp : 10 ^ k ≤ 10 ^ 18 := Nat.pow_le_pow_right (by decide) hk
  have hr : -9223372036854775808 ≤ numV l ∧ numV l ≤ 9223372036854775807 := by omega
  have ha := atoi_itoa hr.1 hr.2
  rw [h1] at ha
  exact ⟨by simp only [atoiR, ha], h1, h2, hr⟩
theorem atoi_range {l : List UInt8} (h : (atoiR l).2.1 = false) : -9223372036854775808 ≤ (atoiR l).1 ∧ (atoiR l).1 ≤ 9223372036854775807 := by
  simp only [atoiR] at h ⊢
  cases ha : atoiAll l with
  | ok v => have := atoiAll_bounds ha; simp only; omega
  | _ => rw [ha] at h; cases h
theorem prog_yes {p : ByteArray} {n : Int} (h : (itoa n == p.data.toList) = true) : decide (((bA (trimPrefix (bL p) (bL ⟨#[45]⟩))).size : Int) ≤ 5) = numOk (bL p) 5 := by
  have h : itoa n = bL p := beq_iff_eq.1 h
  rw [bA_size]
  have e : trimPrefix (bL p) (bL ⟨#[45]⟩) = trimPrefix (bL p) [45] := rfl
  rw [e]
  cases hn : numOk (bL p) 5 with
  | true => have ht := (prog_num (by decide) hn).2.2.1; exact decide_eq_true (by omega)
  | false =>
    refine decide_eq_false fun ht => ?_
    have ht : (trimPrefix (bL p) [45]).length ≤ 5 := by omega
    rw [← h] at ht
    have := (num_of_itoa ht).1
    rw [h, hn] at this
    cases this
theorem prog_no2 {p : ByteArray} (h : (itoa (atoiR (bL p)).1 == p.data.toList) = false) : numOk (bL p) 5 = false := by
  cases hn : numOk (bL p) 5 with
  | false => rfl
  | true =>
    obtain ⟨h1, h2, _⟩ := prog_num (by decide) hn
    rw [h1] at h
    exact absurd h2 (beq_eq_false_iff_ne.1 h)
theorem prog_no1 {p : ByteArray} (h : (atoiR (bL p)).2.1 = true) : numOk (bL p) 5 = false := by
  cases hn : numOk (bL p) 5 with
  | false => rfl
  | true =>
    obtain ⟨h1, _⟩ := prog_num (by decide) hn
    rw [h1] at h; cases h
@[reducible] def sNum5 : Spec := { pats := [.dat .str, .gw 3 .err, .gw 4 .err, .gw 2 PowT], res := [{ t := I64 }, { t := .bool }], pre := fun x => x.1.size ≤ 1000000 ∧ x.2.2.2.1 = powD, f := fun x => ((atoiR (bL x.1)).1, numOk (bL x.1) 5, ()) }
theorem h129 : Ok 129 sNum5 := by
  refine mk (ctr := [(125, sItoa), (159, sAtoi), (160, sTrim)]) ⟨hItoa, hAtoi, hTrim, trivial⟩ (nt := 26) Tryz.func129 rfl rfl rfl rfl (by kernel_rfl) (by kernel_rfl) (fun _ => []) ?_
  rintro ⟨(s : ByteArray), (b0 : Bool), (b1 : Bool), (pw : PowT.Den), _⟩ ⟨(hs : s.size ≤ 1000000), (hpw : pw = powD)⟩
  repeat' (intro hzz; (try (rename Two => hq; cases hq)); (try dsimp only at hzz); (try simp only [resTy, argTy, eqD, inR, big, wantOf, zB] at hzz); (try simp only [resTy, argTy, eqD, inR, big, wantOf, zB, bL_bA] at hzz); (try (revert hzz; intro _)))
  all_goals try (rename Unit => hq; clear hq)
  all_goals try ((with_reducible refine Held.mk ?_); (with_reducible (first | refine Frz.mk ?_ | refine And.intro (Frz.mk ?_) ?_ | refine And.intro ?_ (Frz.mk ?_))); repeat' first | exact True.intro | (change _ = _; with_reducible rfl) | refine And.intro ?_ ?_ | (with_reducible refine Frz.mk ?_))
  all_goals try (refine Held.mk ?_; (try dsimp only at *); (try simp only [resTy, argTy, eqD, inR, big, wantOf, zB] at *); (try simp only [resTy, argTy, eqD, inR, big, wantOf, zB, bL_bA] at *))
  · exact hs
  · rename_i h; exact ⟨atoi_range h, hpw⟩
  · rename_i h1 h2; exact prog_yes h2
  · rename_i h1 h2; exact (prog_no2 h2).symm
  · rename_i h1; exact (prog_no1 h1).symm
theorem cutP_size (s : ByteArray) : (cutP s).1.size ≤ s.size ∧ (cutP s).2.1.size ≤ s.size := by
  unfold cutP Lib.cut
  rw [bA_size, bA_size]
  split
  · simp only [List.length_take, List.length_drop, bL_len]; omega
  · simp only [List.length_nil, bL_len]; omega
abbrev PairD : Type := PairT.Den
def gdP (p : ByteArray) : PairD := ((atoiR (bL (cutP p).1)).1, (atoiR (bL (cutP p).2.1)).1, ())
def okP (p : ByteArray) : Bool := numOk (bL (cutP p).1) 5 && numOk (bL (cutP p).2.1) 5
abbrev strN (L : List ByteArray) (i : Nat) : ByteArray := L.getD i ByteArray.empty
def gdL (L : List ByteArray) (k : Nat) : List PairD := tab (fun i => gdP (strN L i)) k
def pgL (L : List ByteArray) : List PairD × Int × Unit := if L.all okP = true then (if L.length ≤ 8 then (if L.all (fun p => decide (gnErr (gdP p).1 (gdP p).2.1 = 0)) = true then (gdL L L.length, 0, ()) else ([], 2, ())) else ([], 8, ())) else ([], 7, ())
def pgR (s : ByteArray) : List PairD × Int × Unit := pgL (cutB 59 s)
theorem all_no {L : List ByteArray} {p : ByteArray → Bool} {k : Nat} (hk : k < L.length) (h : p (strN L k) = false) : L.all p = false := by
  rw [List.all_eq_false]
  refine ⟨L[k], List.getElem_mem hk, ?_⟩
  have : strN L k = L[k] := by simp [strN, List.getD, List.getElem?_eq_getElem hk]
  rw [this] at h; simp [h]
theorem all_yes {L : List ByteArray} {p : ByteArray → Bool} (h : ∀ i, i < L.length → p (strN L i) = true) : L.all p = true := by
  rw [List.all_eq_true]
  intro x hx
  obtain ⟨i, hi, rfl⟩ := List.mem_iff_getElem.1 hx
  have := h i hi
  have e : strN L i = L[i] := by simp [strN, List.getD, List.getElem?_eq_getElem hi]
  rwa [e] at this
theorem pg7 {L : List ByteArray} {k : Nat} (hk : k < L.length) (h : okP (strN L k) = false) : pgL L = ([], 7, ()) := by
  unfold pgL; rw [all_no hk h]; rfl
theorem pg8 {L : List ByteArray} (h : ∀ i, i < L.length → okP (strN L i) = true) (hl : 8 < L.length) : pgL L = ([], 8, ()) := by
  unfold pgL; rw [all_yes h, if_pos rfl, if_neg (by omega)]
theorem pg2 {L : List ByteArray} {k : Nat} (h : ∀ i, i < L.length → okP (strN L i) = true) (hl : L.length ≤ 8) (hk : k < L.length) (hg : ¬ gnErr (gdP (strN L k)).1 (gdP (strN L k)).2.1 = 0) : pgL L = ([], 2, ()) := by
  unfold pgL; rw [all_yes h, if_pos rfl, if_pos hl, all_no hk (decide_eq_false hg)]; rfl
theorem pg0 {L : List ByteArray} (h : ∀ i, i < L.length → okP (strN L i) = true) (hl : L.length ≤ 8) (hg : ∀ i, i < L.length → gnErr (gdP (strN L i)).1 (gdP (strN L i)).2.1 = 0) : pgL L = (gdL L L.length, 0, ()) := by
  unfold pgL; rw [all_yes h, if_pos rfl, if_pos hl, all_yes (fun i hi => decide_eq_true (hg i hi)), if_pos rfl]
theorem gn_two {g d : Int} (h : ¬ gnErr g d = 0) : gnErr g d = 2 := by
  unfold gnErr at *; split at h
  · exact absurd rfl h
  · rename_i h1; rw [if_neg h1]
theorem piece_size (c : UInt8) : ∀ (l : List UInt8), ∀ p ∈ piecesL c l, p.length ≤ l.length
  | [], p, hp => by
    simp only [piecesL, List.mem_singleton] at hp
    subst hp; exact Nat.le_refl _
  | b :: l, p, hp => by
    have ih := piece_size c l
    simp only [piecesL] at hp
    split at hp
    · rcases List.mem_cons.1 hp with rfl | h
      · simp
      · have := ih p h; simp only [List.length_cons]; omega
    · split at hp
      · rename_i q r hq
        rcases List.mem_cons.1 hp with rfl | h
        · have := ih q (by rw [hq]; simp); simp only [List.length_cons]; omega
        · have := ih p (by rw [hq]; simp [h]); simp only [List.length_cons]; omega
      · rw [List.mem_singleton] at hp; subst hp; simp
theorem cutB_size (c : UInt8) (s : ByteArray) (i : Nat) : ((cutB c s).getD i ByteArray.empty).size ≤ s.size := by
  rw [List.getD_eq_getElem?_getD]
  cases h : (cutB c s)[i]? with
  | none => exact Nat.zero_le _
  | some p =>
    have hm := List.mem_of_getElem? h
    simp only [cutB, List.mem_map] at hm
    obtain ⟨q, hq, rfl⟩ := hm
    have := piece_size c (bL s) q hq
    rw [bL_len] at this
    show (bA q).size ≤ _
    rw [bA_size]; exact this
@[reducible] def sParseG : Spec := { pats := [.dat .str, .gw 3 .err, .gw 4 .err, .gw 2 PowT, .gw 1 I64], res := [{ t := .sl PairT }, { t := I64 }], pre := fun x => x.1.size ≤ 1000000 ∧ x.2.2.2.1 = powD, f := fun x => pgR x.1 }
def pgAnn (L : List ByteArray) : LoopAnn := { σ := Nat, pat := fun k => [sI 20 k, .slot 4 (.one (.o 60004 k)), .row 60004 82 PairT (gdL L k)], inv := fun k => k ≤ L.length ∧ ∀ i, i < k → okP (strN L i) = true, meas := fun k => L.length - k }
def pgAnn2 (L : List ByteArray) : LoopAnn := { σ := Nat, pat := fun k => [sI 58 k], inv := fun k => k ≤ L.length ∧ ∀ i, i < k → gnErr (gdP (strN L i)).1 (gdP (strN L i)).2.1 = 0, meas := fun k => L.length - k }
theorem h67 : Ok 67 sParseG := by
  refine mk (ctr := [(86, sGains), (127, sSplit), (128, sCut), (129, sNum5)]) ⟨h86, hSplit, hCut, h129, trivial⟩ (nt := 72) Tryz.func67 rfl rfl rfl rfl (by kernel_rfl) (by kernel_rfl) (fun x => [fun _ => pgAnn (cutB 59 x.1), fun _ => pgAnn2 (cutB 59 x.1)]) ?_
  rintro ⟨(s : ByteArray), (b0 : Bool), (b1 : Bool), (pw : PowT.Den), (m : Int), _⟩ ⟨(hs : s.size ≤ 1000000), (hpw : pw = powD)⟩
  have hc := cutB_size 59 s
  have hcl := cutB_len 59 s
  have hN : ∀ k, k < (cutB 59 s).length → (gdL (cutB 59 s) (cutB 59 s).length).getD k PairT.dflt = gdP (strN (cutB 59 s) k) := fun k hk => tab_get _ _ _ _ hk
  have hG : ∀ k, (gdL (cutB 59 s) k).length = k := fun k => tab_len _ _
  repeat' (intro hzz; (try (rename Two => hq; cases hq)); (try dsimp only at hzz); (try simp only [resTy, argTy, eqD, inR, big, wantOf, zB] at hzz); (try simp only [resTy, argTy, eqD, inR, big, wantOf, zB, bL_bA, Int.toNat_natCast] at hzz); (try (revert hzz; intro _)))
  all_goals try (rename Unit => hq; clear hq)
  all_goals try ((with_reducible refine Held.mk ?_); (with_reducible (first | refine Frz.mk ?_ | refine And.intro (Frz.mk ?_) ?_ | refine And.intro ?_ (Frz.mk ?_))); repeat' first | exact True.intro | (change _ = _; with_reducible rfl) | refine And.intro ?_ ?_ | (with_reducible refine Frz.mk ?_))
  all_goals try (refine Held.mk ?_; (try dsimp only at *); (try simp only [resTy, argTy, eqD, inR, big, wantOf, zB] at *); (try simp only [resTy, argTy, eqD, inR, big, wantOf, zB, bL_bA, Int.toNat_natCast] at *))
  all_goals try omega
  · exact ⟨hs, rfl⟩
  · 
    refine GHeld.mk ?_
    refine Exists.intro (0 : Nat) ?_
    refine And.intro (Leaf.mk ?_) ?_
    · repeat' first | exact True.intro | refine And.intro ?_ ?_
      all_goals try ((change _ = _ <;> try dsimp only) <;> try with_reducible rfl)
      all_goals try omega
      all_goals (rfl)
    exact ⟨Nat.zero_le _, fun i hi => absurd hi (Nat.not_lt_zero _)⟩
  · exact ⟨Nat.le_trans (hc _) hs, rfl⟩
  · exact ⟨Nat.le_trans (cutP_size _).1 (Nat.le_trans (hc _) hs), hpw⟩
  · exact ⟨Nat.le_trans (cutP_size _).2 (Nat.le_trans (hc _) hs), hpw⟩
  · rename_i k hk hlt h1 h2
    have e : pgR s = ([], 7, ()) := pg7 (k := k) (by omega) (by show (_ && _) = false; rw [Bool.and_eq_false_iff]; exact .inr h2)
    rw [e]; exact ⟨rfl, rfl⟩
  · rename_i k hk hlt h1 h2
    rw [hG]
    refine ⟨rfl, ?_⟩
    show k + 1 ≤ 2147483648; omega
  · rename_i k hk hlt h1 h2
    refine GHeld.mk ?_
    refine Exists.intro (k + 1) ?_
    refine And.intro (Leaf.mk ?_) ?_
    · repeat' first | exact True.intro | refine And.intro ?_ ?_
      all_goals try ((change _ = _ <;> try dsimp only) <;> try with_reducible rfl)
      all_goals try omega
      all_goals (first | rfl | exact (hG (k + 1)).symm | exact hG (k + 1))
    refine ⟨⟨by show k + 1 ≤ (cutB 59 s).length; omega, fun i hi => ?_⟩, by show (cutB 59 s).length - (k + 1) < (cutB 59 s).length - k; omega⟩
    by_cases e : i = k
    · subst e; show (_ && _) = true; rw [Bool.and_eq_true]; exact ⟨h1, h2⟩
    · exact hk.2 i (by omega)
  · rename_i k hk hlt h1
    have e : pgR s = ([], 7, ()) := pg7 (k := k) (by omega) (by show (_ && _) = false; rw [Bool.and_eq_false_iff]; exact .inl h1)
    rw [e]; exact ⟨rfl, rfl⟩
  · rename_i k hk hlt h1
    have e : pgR s = ([], 8, ()) := pg8 (fun i hi => hk.2 i (by omega)) (by omega)
    rw [e]; exact ⟨rfl, rfl⟩
  · 
    refine GHeld.mk ?_
    refine Exists.intro (0 : Nat) ?_
    refine And.intro (Leaf.mk ?_) ?_
    · repeat' first | exact True.intro | refine And.intro ?_ ?_
      all_goals try ((change _ = _ <;> try dsimp only) <;> try with_reducible rfl)
      all_goals try omega
      all_goals (rfl)
    exact ⟨Nat.zero_le _, fun i hi => absurd hi (Nat.not_lt_zero _)⟩
  · rename_i n hn hle h8 k hk hlt
    rw [hG]; omega
  · rename_i n hn hle h8 k hk hlt h
    have hn1 := hn.1
    obtain rfl : n = (cutB 59 s).length := by omega
    rw [hN k (by omega)] at h
    rw [hN k (by omega)]
    have e : pgR s = ([], 2, ()) := pg2 (fun i hi => hn.2 i (by omega)) (by omega) (by omega) h
    rw [e]; exact ⟨rfl, gn_two h⟩
  · rename_i n hn hle h8 k hk hlt h
    have hn1 := hn.1
    obtain rfl : n = (cutB 59 s).length := by omega
    rw [hN k (by omega)] at h
    refine GHeld.mk ?_
    refine Exists.intro (k + 1) ?_
    refine And.intro (Leaf.mk ?_) ?_
    · repeat' first | exact True.intro | refine And.intro ?_ ?_
      all_goals try ((change _ = _ <;> try dsimp only) <;> try with_reducible rfl)
      all_goals try omega
      all_goals (rfl)
    refine ⟨⟨by show k + 1 ≤ (cutB 59 s).length; omega, fun i hi => ?_⟩, by show (cutB 59 s).length - (k + 1) < (cutB 59 s).length - k; omega⟩
    by_cases e : i = k
    · subst e; exact h
    · exact hk.2 i (by omega)
  all_goals try exact (hG _).symm
  · rename_i n hn hle h8 k hk hlt
    have hn1 := hn.1
    obtain rfl : n = (cutB 59 s).length := by omega
    have e : pgR s = (gdL (cutB 59 s) (cutB 59 s).length, 0, ()) := pg0 (fun i hi => hn.2 i (by omega)) (by omega) (fun i hi => hk.2 i (by omega))
    rw [e]; exact ⟨rfl, rfl⟩
end Go.Eng.Ar

namespace Go.Eng.Ar
open Go.Eng Go.Proofs
set_option linter.all false
set_option maxRecDepth 100000
set_option maxHeartbeats 8000000
theorem ex_p1 : opErr 34000 34000 [((0, 0, 0, ()), 1000, 0, ()), ((0, 0, 100, ()), 500, 400, ())] (0, 0, 500, ()) = 0 := by decide +kernel
theorem ex_p2 : reT (raysT 34000 34000 [((0, 0, 0, ()), 1000, 0, ()), ((0, 0, 100, ()), 500, 400, ())] (0, 0, 500, ()) 2) 2 = 3250000 := by decide +kernel
theorem ex_p3 : imT (raysT 34000 34000 [((0, 0, 0, ()), 1000, 0, ()), ((0, 0, 100, ()), 500, 400, ())] (0, 0, 500, ()) 2) 2 = 0 := by decide +kernel
theorem ex_p4 : prC (openR 34000 34000 [((0, 0, 0, ()), 1000, 0, ()), ((0, 0, 100, ()), 500, 400, ())] (0, 0, 500, ())) = cpxI 3250000 0 := by
  unfold openR
  rw [if_pos ex_p1]
  unfold prC
  rw [if_pos rfl]
  show cpxI (reT (raysT 34000 34000 _ _ 2) 2) (imT (raysT 34000 34000 _ _ 2) 2) = _
  rw [ex_p2, ex_p3]
theorem ex_s : strR (0, 0, 0, ()) (300, 400, 0, ()) = ((2000, 2000, ()), 0, ()) := by decide +kernel
theorem ex_b : bOpenR [[2, 0], [0, 4]] 3 = (bO (bX [[2, 0], [0, 4]] 3) 2, bW (bX [[2, 0], [0, 4]] 3) 2 2, (2, 1, ()), 0, ()) := by
  unfold bOpenR
  rw [if_pos ex_ok.1, ← ex_ok.2.2]; rfl
@[reducible] def sAwake : Spec := { pats := [.gw 3 .err, .gw 4 .err, .gw 2 PowT, .gw 1 I64], res := [{ t := .bool }], pre := fun x => x.2.2.1 = powD, f := fun _ => (true, ()) }
theorem h14 : Ok 14 sAwake := by
  refine mk (ctr := [(17, sStrength), (34, sPress), (41, sBestOpen), (46, sSame), (49, sNum), (67, sParseG), (72, sPair)]) ⟨h17, h34, h41, h46, h49, h67, h72, trivial⟩ (nt := 78) Tryz.func14 rfl rfl rfl rfl (by kernel_rfl) (by kernel_rfl) (fun _ => []) ?_
  rintro ⟨(b0 : Bool), (b1 : Bool), (pw : PowT.Den), (m : Int), _⟩ (hpw : pw = powD)
  have e1 : opErr pairA.1 pairA.2.1 pairA.2.2.1 (0, 0, 500, ()) = 0 := ex_p1
  have e2 : fSame (prC (openR pairA.1 pairA.2.1 pairA.2.2.1 (0, 0, 500, ()))) (cpxI 3250000 0) = true := by
    rw [show openR pairA.1 pairA.2.1 pairA.2.2.1 (0, 0, 500, ()) = openR 34000 34000 [((0, 0, 0, ()), 1000, 0, ()), ((0, 0, 100, ()), 500, 400, ())] (0, 0, 500, ()) from rfl, ex_p4]
    simp [fSame]
  have e3 : (strR (0, 0, 0, ()) (300, 400, 0, ())).2.1 = 0 := by rw [ex_s]
  have e4 : ((I64).cons ((I64).cons Ty.nil)).beq ((strR (0, 0, 0, ()) (300, 400, 0, ())).1.1, (strR (0, 0, 0, ()) (300, 400, 0, ())).1.2.1, ()) (2000, 2000, ()) = true := by rw [ex_s]; rfl
  have e5 : (chain (List.replicate 2 (I64))).beq (2, 1, ()) (2, 1, ()) = true := rfl
  have e6 : (pgR { data := #[49, 48, 48, 48, 32, 48, 59, 53, 48, 48, 32, 52, 48, 48] }).2.1 = 0 := by decide +kernel
  have e7 : (pgR { data := #[49, 48, 48, 48, 32, 48, 59, 53, 48, 48, 32, 52, 48, 48] }).1.length = 2 := by decide +kernel
  have e8 : (chain (List.replicate 2 (I64))).beq (List.getD (pgR { data := #[49, 48, 48, 48, 32, 48, 59, 53, 48, 48, 32, 52, 48, 48] }).1 (Int.toNat 1) PairT.dflt) (500, 400, ()) = true := by decide +kernel
  repeat' (intro hzz; (try (rename Two => hq; cases hq)); (try dsimp only at hzz); (try simp only [resTy, argTy, eqD, inR, big, wantOf, zB] at hzz); (try simp only [resTy, argTy, eqD, inR, big, wantOf, zB, ex_b] at hzz); (try (revert hzz; intro _)))
  all_goals try (rename Unit => hq; clear hq)
  all_goals try ((with_reducible refine Held.mk ?_); (with_reducible (first | refine Frz.mk ?_ | refine And.intro (Frz.mk ?_) ?_ | refine And.intro ?_ (Frz.mk ?_))); repeat' first | exact True.intro | (change _ = _; with_reducible rfl) | refine And.intro ?_ ?_ | (with_reducible refine Frz.mk ?_))
  all_goals try (refine Held.mk ?_; (try dsimp only at *); (try simp only [resTy, argTy, eqD, inR, big, wantOf, zB] at *); (try simp only [resTy, argTy, eqD, inR, big, wantOf, zB, ex_b] at *))
  · show ((2 : Nat) : Int) ≤ 4611686018427387904; decide
  · exact fun _ => ex_ok.2.1
  · exact ⟨by decide, hpw⟩
  · rw [e7]; decide
  · exact e8
  · rename_i h; exact absurd (congrArg Int.ofNat e7) h
  · rename_i h; exact absurd e6 h
  · rename_i h; exact absurd (e5.symm.trans h) (by decide)
  · rename_i h; exact absurd trivial h
  · rename_i h; exact absurd (e4.symm.trans h) (by decide)
  · rename_i h; exact absurd e3 h
  · rename_i h; exact absurd (e2.symm.trans h) (by decide)
  · rename_i h; exact absurd e1 h
end Go.Eng.Ar

namespace Go.Eng.Ar
open Go.Eng Go.Proofs
set_option linter.all false
set_option maxRecDepth 100000
set_option maxHeartbeats 8000000
theorem fs23 : Tryz.prog.fieldsOf 23 = #[⟨"X", 3, 0, false, "", "", 0⟩, ⟨"Y", 3, 1, false, "", "", 8⟩, ⟨"Z", 3, 2, false, "", "", 16⟩] := by kernel_rfl
theorem eqP (w : World) (d : Nat) (x1 x2 x3 y1 y2 y3 : Int) : (Op.equalIn (d + 2) 23 (.agg #[.int .i64 x1, .int .i64 x2, .int .i64 x3]) (.agg #[.int .i64 y1, .int .i64 y2, .int .i64 y3])).run Tryz.prog w = .ok (decide (x1 = y1) && (decide (x2 = y2) && decide (x3 = y3))) w := by
  rw [run_equalIn_struct w (d + 1) 23 _ _ (by rw [Tryz.underlying23, fs23]) Tryz.stoodInHeld23, fs23]
  rw [eqF_int w d _ _ "X" "" "" 0 0 false _ (by decide) (x := x1) (y := y1) rfl rfl, eqF_int w d _ _ "Y" "" "" 1 8 false _ (by decide) (x := x2) (y := y2) rfl rfl, eqF_int w d _ _ "Z" "" "" 2 16 false _ (by decide) (x := x3) (y := y3) rfl rfl]
  simp only [Op.eqFields, Sem.run_pure]
  by_cases e1 : x1 = y1 <;> by_cases e2 : x2 = y2 <;> by_cases e3 : x3 = y3 <;> simp [e1, e2, e3]
theorem fs53 : Tryz.prog.fieldsOf 53 = #[⟨"At", 23, 0, false, "", "", 0⟩, ⟨"Gain", 3, 3, false, "", "", 24⟩, ⟨"Delay", 3, 4, false, "", "", 32⟩] := by kernel_rfl
theorem eq53 : EqOk Tryz.prog 53 SpkT := by
  refine eqOf Tryz.eqGuardType53 fun w V x y l m hx hy => ?_
  obtain ⟨p1, p2, rfl, ⟨l1, l2, rfl, h1, l3, l4, rfl, h2, l5, l6, rfl, h3, h4⟩, l7, l8, rfl, h5, l9, l10, rfl, h6, h7⟩ := hx
  obtain ⟨q1, q2, rfl, ⟨m1, m2, rfl, g1, m3, m4, rfl, g2, m5, m6, rfl, g3, g4⟩, m7, m8, rfl, g5, m9, m10, rfl, g6, g7⟩ := hy
  obtain ⟨⟨x1, x2, x3, u⟩, x4, x5, u2⟩ := x
  obtain ⟨⟨y1, y2, y3, v⟩, y4, y5, v2⟩ := y
  subst h1 h2 h3 h4 h5 h6 h7 g1 g2 g3 g4 g5 g6 g7
  rw [run_equalIn_struct w 9999 53 _ _ (by rw [Tryz.underlying53, fs53]) Tryz.stoodInHeld53, fs53]
  have pp : ∀ (z1 z2 z3 z4 z5 : Int), (part 23 #[.int .i64 z1, .int .i64 z2, .int .i64 z3, .int .i64 z4, .int .i64 z5] 0).run Tryz.prog w = .ok (.agg #[.int .i64 z1, .int .i64 z2, .int .i64 z3]) w := fun z1 z2 z3 z4 z5 => by
    obtain ⟨i, hi⟩ : ∃ i, TIOk Tryz.prog 23 i ∧ i.kind.isAgg = true ∧ i.size = 3 := ⟨_, row23, rfl, rfl⟩
    rw [run_part hi.1, if_pos hi.2.1, hi.2.2]; rfl
  show (Op.eqFields 9999 #[.int .i64 x1, .int .i64 x2, .int .i64 x3, .int .i64 x4, .int .i64 x5] #[.int .i64 y1, .int .i64 y2, .int .i64 y3, .int .i64 y4, .int .i64 y5] [⟨"At", 23, 0, false, "", "", 0⟩, ⟨"Gain", 3, 3, false, "", "", 24⟩, ⟨"Delay", 3, 4, false, "", "", 32⟩]).run Tryz.prog w = _
  rw [Op.eqFields]
  rw [if_pos (show "At" ≠ "_" by decide)]
  simp only [Sem.run_bind, pp, Result.andThen_ok]
  rw [show (9999 : Nat) = 9997 + 2 from rfl, eqP w 9997 x1 x2 x3 y1 y2 y3]
  simp only [Result.andThen_ok]
  by_cases e : x1 = y1 ∧ x2 = y2 ∧ x3 = y3
  · obtain ⟨rfl, rfl, rfl⟩ := e
    simp only [decide_true, Bool.and_self, Bool.not_true, Bool.false_eq_true, if_false]
    rw [eqF_int w 9998 _ _ "Gain" "" "" 3 24 false _ (by decide) (x := x4) (y := y4) rfl rfl, eqF_int w 9998 _ _ "Delay" "" "" 4 32 false _ (by decide) (x := x5) (y := y5) rfl rfl]
    simp only [Ty.beq, Op.eqFields, Sem.run_pure, Bool.and_true]
    by_cases e1 : x4 = y4 <;> by_cases e2 : x5 = y5 <;> simp [e1, e2]
  · have h1 : (decide (x1 = y1) && (decide (x2 = y2) && decide (x3 = y3))) = false := by
      by_cases e1 : x1 = y1 <;> by_cases e2 : x2 = y2 <;> by_cases e3 : x3 = y3 <;> simp_all
    rw [h1]
    simp only [Bool.not_false, if_true, Sem.run_pure]
    have : SpkT.beq ((x1, x2, x3, u), x4, x5, u2) ((y1, y2, y3, v), y4, y5, v2) = false := by
      show ((decide (x1 = y1) && (decide (x2 = y2) && (decide (x3 = y3) && true))) && (decide (x4 = y4) && (decide (x5 = y5) && true))) = false
      rw [Bool.and_true, h1]; rfl
    rw [this]
theorem eqs3 : ∀ t ∈ ([28, 82, 53] : List Nat), ∀ ty, tyOf tt 20 t = some ty → EqOk Tryz.prog t ty := by
  intro t ht ty h
  have h53 : tyOf tt 20 53 = some SpkT := by kernel_rfl
  by_cases e : t = 53
  · subst e; rw [h53] at h; cases h; exact eq53
  · exact eqsOk t (by simp only [List.mem_cons, List.not_mem_nil, or_false] at ht ⊢; rcases ht with h | h | h <;> simp_all) ty h
@[reducible] def cfgE (X : Xt) (ctr : List (Nat × Spec)) (nt : Nat) : Cfg := { tt := tt, eqs := [28, 82, 53], ctr := ctr, nt := nt, ext := [166], extb := [(110, .f64)], its := X.its, clos := X.clos, fuel := X.fuel }
theorem cfgEOk {X : Xt} (hX : Its X.its) {ctr : List (Nat × Spec)} {nt : Nat} (h : All ctr) : CfgOk Tryz.prog OB (cfgE X ctr nt) where
  tbl := tbl
  eqs := eqs3
  ctr := (cfgOk hX h (nt := nt)).ctr
  ext := (cfgOk hX h (nt := nt)).ext
  extb := extOk
  obs := fun t i hi => by simp [obOf] at hi
  its := fun g isp h => its_get hX h
theorem mkI {c : Cfg} (hC : ∀ nt, CfgOk Tryz.prog OB { c with nt := nt }) {f nt : Nat} {fn : Func} {sp : Spec} (hf : Tryz.prog.funcs[f]? = some fn) (hb : fn.body = some (bodyOf fn)) (hnt : fn.ntmps = nt) (hps : (Nat.ble sp.pats.length nt && Nat.ble nt 1000000) = true)
    (hob : Nat.ble (obCount sp.pats) 1 = true) (hd : dstOk nt (bodyOf fn) = true) (hn : (fn.name == "runtime.NumGoroutine") = false) (anns : (argTy sp.pats).Den → List (St → LoopAnn))
    (h : ∀ x, sp.pre x → bodyVC { c with nt := nt } (par { c with nt := nt }) (anns x) fn.results.toList (bodyOf fn) sp x) : Ok f sp :=
  ⟨fn_sound (hC nt) (par_sound mixed (hC nt)) hf hb hnt (Nat.le_of_ble_eq_true (Bool.and_eq_true _ _ ▸ hps : _ ∧ _).1) (Nat.le_of_ble_eq_true (Bool.and_eq_true _ _ ▸ hps : _ ∧ _).2) (Nat.le_of_ble_eq_true hob) rfl hd anns h, fn, hf, hn, by rw [hb]; rfl⟩
@[reducible] def sFew : Spec := { pats := [.dat ArrT], res := [{ t := .bool }], pre := fun _ => True, f := fun x => (decide (List.length (α := SpkD) x.1.2.2.1 ≤ 10), ()) }
theorem h24 : Ok 24 sFew := by
  refine mk (ctr := []) trivial (nt := 7) Tryz.func24 rfl rfl rfl rfl (by kernel_rfl) (by kernel_rfl) (fun _ => []) ?_
  rintro ⟨⟨(r : Int), (v : Int), (xs : List SpkD), _⟩, _⟩ _
  repeat' (intro hzz; (try (rename Two => hq; cases hq)); (try dsimp only at hzz); (try simp only [resTy, argTy, eqD, inR, big, wantOf, zB] at hzz); (try (revert hzz; intro _)))
  all_goals try (rename Unit => hq; clear hq)
  all_goals try ((with_reducible refine Held.mk ?_); (with_reducible (first | refine Frz.mk ?_ | refine And.intro (Frz.mk ?_) ?_ | refine And.intro ?_ (Frz.mk ?_))); repeat' first | exact True.intro | (change _ = _; with_reducible rfl) | refine And.intro ?_ ?_ | (with_reducible refine Frz.mk ?_))
  all_goals try (refine Held.mk ?_; (try dsimp only at *); (try simp only [resTy, argTy, eqD, inR, big, wantOf, zB] at *))
  all_goals (show decide ((xs.length : Int) ≤ 10) = decide (xs.length ≤ 10); congr 1; exact propext ⟨fun h => by omega, fun h => by omega⟩)
abbrev pTen (n : Nat) : Prop := n ≤ 1000
@[reducible] def sCopy : Spec := { pats := [.dat ArrT], res := [{ t := ArrT }], pre := fun x => pTen (List.length (α := SpkD) x.1.2.2.1), f := fun x => (x.1, ()) }
theorem h26 : Ok 26 sCopy := by
  refine mk (ctr := []) trivial (nt := 9) Tryz.func26 rfl rfl rfl rfl (by kernel_rfl) (by kernel_rfl) (fun _ => []) ?_
  rintro ⟨⟨(r : Int), (v : Int), (xs : List SpkD), _⟩, _⟩ (hp : xs.length ≤ 1000)
  repeat' (intro hzz; (try (rename Two => hq; cases hq)); (try dsimp only at hzz); (try simp only [resTy, argTy, eqD, inR, big, wantOf, zB] at hzz); (try (revert hzz; intro _)))
  all_goals try (rename Unit => hq; clear hq)
  all_goals try ((with_reducible refine Held.mk ?_); (with_reducible (first | refine Frz.mk ?_ | refine And.intro (Frz.mk ?_) ?_ | refine And.intro ?_ (Frz.mk ?_))); repeat' first | exact True.intro | (change _ = _; with_reducible rfl) | refine And.intro ?_ ?_ | (with_reducible refine Frz.mk ?_))
  all_goals try (refine Held.mk ?_; (try dsimp only at *); (try simp only [resTy, argTy, eqD, inR, big, wantOf, zB] at *))
  · show 0 + xs.length ≤ 2147483648; omega
  · rfl
theorem h91 : Ok 91 sSoundOf := by
  refine mk (ctr := []) trivial (nt := 8) Tryz.func91 rfl rfl rfl rfl (by kernel_rfl) (by kernel_rfl) (fun _ => []) ?_
  rintro ⟨⟨(r : Int), (v : Int), (xs : List SpkD), _⟩, _⟩ _
  repeat' (intro hzz; (try (rename Two => hq; cases hq)); (try dsimp only at hzz); (try simp only [resTy, argTy, eqD, inR, big, wantOf, zB] at hzz); (try (revert hzz; intro _)))
  all_goals try (rename Unit => hq; clear hq)
  all_goals try ((with_reducible refine Held.mk ?_); (with_reducible (first | refine Frz.mk ?_ | refine And.intro (Frz.mk ?_) ?_ | refine And.intro ?_ (Frz.mk ?_))); repeat' first | exact True.intro | (change _ = _; with_reducible rfl) | refine And.intro ?_ ?_ | (with_reducible refine Frz.mk ?_))
  all_goals try (refine Held.mk ?_; (try dsimp only at *); (try simp only [resTy, argTy, eqD, inR, big, wantOf, zB] at *))
  all_goals try omega
theorem pl_two {a b c : Int} (h : ¬ plErr a b c = 0) : plErr a b c = 2 := by
  unfold plErr at *; split at h
  · exact absurd rfl h
  · rename_i h1; rw [if_neg h1]
def chkAnnR (r v : Int) (xs : List SpkD) : LoopAnn := { σ := Nat, pat := fun k => [sI 5 k], inv := fun k => k ≤ xs.length ∧ chkGo xs (xs.length - k) k = chkA r v xs, meas := fun k => xs.length - k }
theorem h28 : Ok 28 sCheck := by
  refine mk (ctr := [(18, sPlace), (21, sSound), (91, sSoundOf), (92, sGains)]) ⟨h18, h21, h91, h92, trivial⟩ (nt := 46) Tryz.func28 rfl rfl rfl rfl (by kernel_rfl) (by kernel_rfl) (fun x => [fun _ => chkAnnR x.1.1 x.1.2.1 x.1.2.2.1]) ?_
  rintro ⟨⟨(r : Int), (v : Int), (xs : List SpkD), ⟨⟩⟩, ⟨⟩⟩ (hp : pLen xs.length)
  have hp' := hp.out
  have hh : ∀ e, hdErr r v xs.length = e → e ≠ 0 → chkA r v xs = (0, e) := fun e h1 h2 => by
    unfold chkA; rw [if_neg (by rw [h1]; exact h2), h1]
  repeat' (intro hzz; (try (rename Two => hq; cases hq)); (try dsimp only at hzz); (try simp only [resTy, argTy, eqD, inR, big, wantOf, zB] at hzz); (try simp only [resTy, argTy, eqD, inR, big, wantOf, zB, Int.toNat_natCast] at hzz); (try (revert hzz; intro _)))
  all_goals try (rename Unit => hq; clear hq)
  all_goals try ((with_reducible refine Held.mk ?_); (with_reducible (first | refine Frz.mk ?_ | refine And.intro (Frz.mk ?_) ?_ | refine And.intro ?_ (Frz.mk ?_))); repeat' first | exact True.intro | (change _ = _; with_reducible rfl) | refine And.intro ?_ ?_ | (with_reducible refine Frz.mk ?_))
  all_goals try (refine Held.mk ?_; (try dsimp only at *); (try simp only [resTy, argTy, eqD, inR, big, wantOf, zB] at *); (try simp only [resTy, argTy, eqD, inR, big, wantOf, zB, Int.toNat_natCast] at *))
  all_goals try omega
  · rename_i h
    rw [hh _ (if_neg h) h]; exact ⟨rfl, rfl⟩
  · rename_i h1 h2
    rw [hh 10 ((if_pos h1).trans (if_pos (by omega))) (by decide)]; exact ⟨rfl, rfl⟩
  · rename_i h1 h2 h3
    rw [hh 8 ((if_pos h1).trans ((if_neg (by omega)).trans (if_neg (by omega)))) (by decide)]; exact ⟨rfl, rfl⟩
  · rename_i h1 h2 h3
    refine GHeld.mk ?_
    refine Exists.intro (0 : Nat) ?_
    refine And.intro (Leaf.mk ?_) ?_
    · repeat' first | exact True.intro | refine And.intro ?_ ?_
      all_goals try ((change _ = _ <;> try dsimp only) <;> try with_reducible rfl)
      all_goals try omega
      all_goals (rfl)
    have e : hdErr r v xs.length = 0 := (if_pos h1).trans ((if_neg (by omega)).trans (if_pos (by omega)))
    exact ⟨Nat.zero_le _, by unfold chkA; rw [if_pos e]; rfl⟩
  · rename_i h1 h2 h3 k hk hlt h4 h5
    have e := hk.2
    have hs : spErr (xs.getD k spkZ) = 2 := (if_pos h4).trans (gn_two h5)
    rw [chkGo_step (by omega), if_neg (by rw [hs]; decide), hs] at e
    rw [← e]; exact ⟨rfl, rfl⟩
  · rename_i h1 h2 h3 k hk hlt h4 h5
    have e := hk.2
    have hs : spErr (xs.getD k spkZ) = 0 := (if_pos h4).trans h5
    rw [chkGo_step (by omega), if_pos hs] at e
    refine GHeld.mk ?_
    refine Exists.intro (k + 1) ?_
    refine And.intro (Leaf.mk ?_) ?_
    · repeat' first | exact True.intro | refine And.intro ?_ ?_
      all_goals try ((change _ = _ <;> try dsimp only) <;> try with_reducible rfl)
      all_goals try omega
      all_goals (rfl)
    exact ⟨⟨(show k + 1 ≤ xs.length by omega), e⟩, (show xs.length - (k + 1) < xs.length - k by omega)⟩
  · rename_i h1 h2 h3 k hk hlt h4
    have e := hk.2
    have hs : spErr (xs.getD k spkZ) = 2 := (if_neg h4).trans (pl_two h4)
    rw [chkGo_step (by omega), if_neg (by rw [hs]; decide), hs] at e
    rw [← e]; exact ⟨rfl, rfl⟩
  · rename_i h1 h2 h3 k hk hlt
    have e := hk.2
    rw [show xs.length - k = 0 by omega] at e
    rw [← e]; exact ⟨rfl, rfl⟩
def seatAnn (xs : List SpkD) (p : PlaceD) : LoopAnn := { σ := Nat, pat := fun k => [sI 6 k], inv := fun k => k ≤ xs.length ∧ List.any (xs.drop k) (nrS p) = nearAny xs p, meas := fun k => xs.length - k }
@[reducible] def sSeatR : Spec := { pats := [.dat ArrT, .dat PlaceT], res := [{ t := I64 }], pre := fun x => pLen (List.length (α := SpkD) x.1.2.2.1) ∧ ∀ i, i < List.length (α := SpkD) x.1.2.2.1 → inSp (spkN x.1.2.2.1 i), f := fun x => (seatE x.1.2.2.1 x.2.1, ()) }
theorem h97 : Ok 97 sSeatR := by
  refine mk (ctr := [(18, sPlace), (19, sNearR)]) ⟨h18, h19, trivial⟩ (nt := 27) Tryz.func97 rfl rfl rfl rfl (by kernel_rfl) (by kernel_rfl) (fun x => [fun _ => seatAnn x.1.2.2.1 x.2.1]) ?_
  rintro ⟨⟨(r : Int), (v : Int), (xs : List SpkD), ⟨⟩⟩, ⟨(pa : Int), (pb : Int), (pc : Int), ⟨⟩⟩, ⟨⟩⟩ ⟨(hp : pLen xs.length), (hi : ∀ i, i < xs.length → inSp (spkN xs i))⟩
  have hp' := hp.out
  have hgo : ∀ k, k < xs.length → List.any (xs.drop k) (nrS (pa, pb, pc, ())) = (nearB (xs.getD k SpkT.dflt).1 (pa, pb, pc, ()) || List.any (xs.drop (k + 1)) (nrS (pa, pb, pc, ()))) := fun k hk => by rw [drop_getS hk, List.any_cons]; rfl
  repeat' (intro hzz; (try (rename Two => hq; cases hq)); (try dsimp only at hzz); (try simp only [resTy, argTy, eqD, inR, big, wantOf, zB] at hzz); (try simp only [resTy, argTy, eqD, inR, big, wantOf, zB, Int.toNat_natCast] at hzz); (try (revert hzz; intro _)))
  all_goals try (rename Unit => hq; clear hq)
  all_goals try ((with_reducible refine Held.mk ?_); (with_reducible (first | refine Frz.mk ?_ | refine And.intro (Frz.mk ?_) ?_ | refine And.intro ?_ (Frz.mk ?_))); repeat' first | exact True.intro | (change _ = _; with_reducible rfl) | refine And.intro ?_ ?_ | (with_reducible refine Frz.mk ?_))
  all_goals try (refine Held.mk ?_; (try dsimp only at *); (try simp only [resTy, argTy, eqD, inR, big, wantOf, zB] at *); (try simp only [resTy, argTy, eqD, inR, big, wantOf, zB, Int.toNat_natCast] at *))
  all_goals try omega
  · rename_i h; exact (if_neg h).symm
  · rename_i h
    refine GHeld.mk ?_
    refine Exists.intro (0 : Nat) ?_
    refine And.intro (Leaf.mk ?_) ?_
    · repeat' first | exact True.intro | refine And.intro ?_ ?_
      all_goals try ((change _ = _ <;> try dsimp only) <;> try with_reducible rfl)
      all_goals try omega
      all_goals (rfl)
    exact ⟨Nat.zero_le _, rfl⟩
  · rename_i h k hk hlt
    exact ⟨(hi k (by omega)).1, inP_of h⟩
  · rename_i h k hk hlt hn
    have e := hk.2
    have e2 := hgo k (by omega)
    rw [hn] at e2
    have e3 : nearAny xs (pa, pb, pc, ()) = true := e.symm.trans e2
    exact ((if_pos h).trans (if_pos e3)).symm
  · rename_i h k hk hlt hn
    have e := hk.2
    have e2 := hgo k (by omega)
    rw [hn] at e2
    refine GHeld.mk ?_
    refine Exists.intro (k + 1) ?_
    refine And.intro (Leaf.mk ?_) ?_
    · repeat' first | exact True.intro | refine And.intro ?_ ?_
      all_goals try ((change _ = _ <;> try dsimp only) <;> try with_reducible rfl)
      all_goals try omega
      all_goals (rfl)
    exact ⟨⟨(show k + 1 ≤ xs.length by omega), e2.symm.trans e⟩, (show xs.length - (k + 1) < xs.length - k by omega)⟩
  · rename_i h k hk hlt
    have e := hk.2
    rw [List.drop_eq_nil_of_le (by omega)] at e
    have e3 : ¬ nearAny xs (pa, pb, pc, ()) = true := by rw [← show false = nearAny xs (pa, pb, pc, ()) from e]; decide
    exact ((if_pos h).trans (if_neg e3)).symm
@[reducible] def sErrA : Spec := { pats := [.dat ArrT, .dat PlaceT], res := [{ t := I64 }], pre := fun x => pLen (List.length (α := SpkD) x.1.2.2.1), f := fun x => (opErr x.1.1 x.1.2.1 x.1.2.2.1 x.2.1, ()) }
theorem h32 : Ok 32 sErrA := by
  refine mk (ctr := [(28, sCheck), (97, sSeatR)]) ⟨h28, h97, trivial⟩ (nt := 18) Tryz.func32 rfl rfl rfl rfl (by kernel_rfl) (by kernel_rfl) (fun _ => []) ?_
  rintro ⟨⟨(r : Int), (v : Int), (xs : List SpkD), ⟨⟩⟩, ⟨(pa : Int), (pb : Int), (pc : Int), ⟨⟩⟩, ⟨⟩⟩ (hp : pLen xs.length)
  repeat' (intro hzz; (try (rename Two => hq; cases hq)); (try dsimp only at hzz); (try simp only [resTy, argTy, eqD, inR, big, wantOf, zB] at hzz); (try (revert hzz; intro _)))
  all_goals try (rename Unit => hq; clear hq)
  all_goals try ((with_reducible refine Held.mk ?_); (with_reducible (first | refine Frz.mk ?_ | refine And.intro (Frz.mk ?_) ?_ | refine And.intro ?_ (Frz.mk ?_))); repeat' first | exact True.intro | (change _ = _; with_reducible rfl) | refine And.intro ?_ ?_ | (with_reducible refine Frz.mk ?_))
  all_goals try (refine Held.mk ?_; (try dsimp only at *); (try simp only [resTy, argTy, eqD, inR, big, wantOf, zB] at *))
  · exact hp
  · rename_i h; exact (if_neg h).symm
  · rename_i h
    exact ⟨hp, fun i hi => (arr_of h).sp i hi⟩
  · rename_i h; exact (if_pos h).symm
/-! ### Arrays compared -/
def sameL (xs ys : List SpkD) : Nat → Nat → Bool
  | 0, _ => true
  | k + 1, i => SpkT.beq (spkN xs i) (spkN ys i) && sameL xs ys k (i + 1)
def sameA (x y : ArrD) : Bool := decide (x.1 = y.1) && (decide (x.2.1 = y.2.1) && (decide (List.length (α := SpkD) x.2.2.1 = List.length (α := SpkD) y.2.2.1) && sameL x.2.2.1 y.2.2.1 (List.length (α := SpkD) x.2.2.1) 0))
theorem sameL_step {xs ys : List SpkD} {i : Nat} (h : i < xs.length) : sameL xs ys (xs.length - i) i = (SpkT.beq (spkN xs i) (spkN ys i) && sameL xs ys (xs.length - (i + 1)) (i + 1)) := by
  obtain ⟨k, hk⟩ : ∃ k, xs.length - i = k + 1 := ⟨xs.length - i - 1, by omega⟩
  rw [hk, show xs.length - (i + 1) = k by omega]; rfl
def sameAnn (xs ys : List SpkD) : LoopAnn := { σ := Nat, pat := fun k => [sI 5 k], inv := fun k => k ≤ xs.length ∧ sameL xs ys (xs.length - k) k = sameL xs ys xs.length 0, meas := fun k => xs.length - k }
@[reducible] def sSameA : Spec := { pats := [.dat ArrT, .dat ArrT], res := [{ t := .bool }], pre := fun x => pLen (List.length (α := SpkD) x.1.2.2.1) ∧ pLen (List.length (α := SpkD) x.2.1.2.2.1), f := fun x => (sameA x.1 x.2.1, ()) }
theorem h30 : Ok 30 sSameA := by
  refine mkI (sp := sSameA) (c := cfgE {} [] 0) (fun nt => cfgEOk (X := {}) True.intro (ctr := []) trivial) (nt := 45) Tryz.func30 rfl rfl rfl rfl (by kernel_rfl) (by kernel_rfl) (fun x => [fun _ => sameAnn x.1.2.2.1 x.2.1.2.2.1]) ?_
  rintro ⟨⟨(r : Int), (v : Int), (xs : List SpkD), ⟨⟩⟩, ⟨(r2 : Int), (v2 : Int), (ys : List SpkD), ⟨⟩⟩, ⟨⟩⟩ ⟨(hp : pLen xs.length), (hq : pLen ys.length)⟩
  have hp' := hp.out
  have hq' := hq.out
  have hX : r = r2 → v = v2 → (xs.length : Int) = ys.length → sameA (r, v, xs, ()) (r2, v2, ys, ()) = sameL xs ys xs.length 0 := fun h1 h2 h3 => by
    show (decide (r = r2) && (decide (v = v2) && (decide (xs.length = ys.length) && sameL xs ys xs.length 0))) = _
    rw [decide_eq_true h1, decide_eq_true h2, decide_eq_true (show xs.length = ys.length by omega)]; rfl
  repeat' (intro hzz; (try (rename Two => hq; cases hq)); (try dsimp only at hzz); (try simp only [resTy, argTy, eqD, inR, big, wantOf, zB] at hzz); (try simp only [resTy, argTy, eqD, inR, big, wantOf, zB, Int.toNat_natCast] at hzz); (try (revert hzz; intro _)))
  all_goals try (rename Unit => hq; clear hq)
  all_goals try ((with_reducible refine Held.mk ?_); (with_reducible (first | refine Frz.mk ?_ | refine And.intro (Frz.mk ?_) ?_ | refine And.intro ?_ (Frz.mk ?_))); repeat' first | exact True.intro | (change _ = _; with_reducible rfl) | refine And.intro ?_ ?_ | (with_reducible refine Frz.mk ?_))
  all_goals try (refine Held.mk ?_; (try dsimp only at *); (try simp only [resTy, argTy, eqD, inR, big, wantOf, zB] at *); (try simp only [resTy, argTy, eqD, inR, big, wantOf, zB, Int.toNat_natCast] at *))
  · rename_i h1 h2 h3
    show false = (decide (r = r2) && (decide (v = v2) && (decide (xs.length = ys.length) && sameL xs ys xs.length 0)))
    rw [decide_eq_false (show ¬ xs.length = ys.length by omega), Bool.false_and, Bool.and_false, Bool.and_false]
  · 
    refine GHeld.mk ?_
    refine Exists.intro (0 : Nat) ?_
    refine And.intro (Leaf.mk ?_) ?_
    · repeat' first | exact True.intro | refine And.intro ?_ ?_
      all_goals try ((change _ = _ <;> try dsimp only) <;> try with_reducible rfl)
      all_goals try omega
      all_goals (rfl)
    exact ⟨Nat.zero_le _, rfl⟩
  · rename_i h1 h2 h3 k hk hlt; omega
  · rename_i h1 h2 h3 k hk hlt; omega
  · rename_i h1 h2 h3 k hk hlt h
    have e := hk.2
    rw [sameL_step (by omega), show SpkT.beq (spkN xs k) (spkN ys k) = false from h] at e
    exact e.trans (hX h1 h2 h3).symm
  · rename_i h1 h2 h3 k hk hlt h
    have := hp.out
    omega
  · rename_i h1 h2 h3 k hk hlt h
    have e := hk.2
    rw [sameL_step (by omega), show SpkT.beq (spkN xs k) (spkN ys k) = true from h] at e
    refine GHeld.mk ?_
    refine Exists.intro (k + 1) ?_
    refine And.intro (Leaf.mk ?_) ?_
    · repeat' first | exact True.intro | refine And.intro ?_ ?_
      all_goals try ((change _ = _ <;> try dsimp only) <;> try with_reducible rfl)
      all_goals try omega
      all_goals (rfl)
    exact ⟨⟨(show k + 1 ≤ xs.length by omega), e⟩, (show xs.length - (k + 1) < xs.length - k by omega)⟩
  · rename_i h1 h2 h3 k hk hlt
    have e := hk.2
    rw [show xs.length - k = 0 by omega] at e
    exact (hX h1 h2 h3).trans e.symm
  · rename_i h1 h2
    show false = (decide (r = r2) && (decide (v = v2) && (decide (xs.length = ys.length) && sameL xs ys xs.length 0)))
    rw [decide_eq_false h2, Bool.false_and, Bool.and_false]
  · rename_i h1
    show false = (decide (r = r2) && (decide (v = v2) && (decide (xs.length = ys.length) && sameL xs ys xs.length 0)))
    rw [decide_eq_false h1, Bool.false_and]
end Go.Eng.Ar

namespace Go.Eng.Ar
open Go.Eng Go.Proofs
set_option linter.all false
set_option maxRecDepth 100000
set_option maxHeartbeats 8000000
abbrev minI (a b : Int) : Int := if b < a then b else a
abbrev maxI (a b : Int) : Int := if a < b then b else a
theorem minI_spec (a b : Int) : minI a b ≤ a ∧ minI a b ≤ b ∧ (minI a b = a ∨ minI a b = b) := by unfold minI; split <;> omega
theorem maxI_spec (a b : Int) : a ≤ maxI a b ∧ b ≤ maxI a b ∧ (maxI a b = a ∨ maxI a b = b) := by unfold maxI; split <;> omega
theorem minI_self (a : Int) : minI a a = a := by unfold minI; split <;> rfl
theorem maxI_self (a : Int) : maxI a a = a := by unfold maxI; split <;> rfl
def mnG (f : Nat → Int) : Nat → Int
  | 0 => f 0
  | k + 1 => minI (mnG f k) (f (k + 1))
def mxG (f : Nat → Int) : Nat → Int
  | 0 => f 0
  | k + 1 => maxI (mxG f k) (f (k + 1))
@[irreducible] def mnS (f : Nat → Int) (k : Nat) : Int := match k with | 0 => 0 | k + 1 => mnG f k
@[irreducible] def mxS (f : Nat → Int) (k : Nat) : Int := match k with | 0 => 0 | k + 1 => mxG f k
theorem mnS_0 (f : Nat → Int) : mnS f 0 = 0 := by unfold mnS; rfl
theorem mxS_0 (f : Nat → Int) : mxS f 0 = 0 := by unfold mxS; rfl
theorem mnS_g (f : Nat → Int) (k : Nat) : mnS f (k + 1) = mnG f k := by unfold mnS; rfl
theorem mxS_g (f : Nat → Int) (k : Nat) : mxS f (k + 1) = mxG f k := by unfold mxS; rfl
theorem mnS_1 (f : Nat → Int) : mnS f 1 = f 0 := mnS_g f 0
theorem mxS_1 (f : Nat → Int) : mxS f 1 = f 0 := mxS_g f 0
theorem mnS_s (f : Nat → Int) {k : Nat} (h : 0 < k) : mnS f (k + 1) = minI (mnS f k) (f k) := by
  obtain ⟨j, rfl⟩ : ∃ j, k = j + 1 := ⟨k - 1, by omega⟩
  rw [mnS_g, mnS_g]; rfl
theorem mxS_s (f : Nat → Int) {k : Nat} (h : 0 < k) : mxS f (k + 1) = maxI (mxS f k) (f k) := by
  obtain ⟨j, rfl⟩ : ∃ j, k = j + 1 := ⟨k - 1, by omega⟩
  rw [mxS_g, mxS_g]; rfl
theorem mn_bd {f : Nat → Int} {B : Int} (h : ∀ i, -B ≤ f i ∧ f i ≤ B) : ∀ k, (-B ≤ mnG f k ∧ mnG f k ≤ B) ∧ (-B ≤ mxG f k ∧ mxG f k ≤ B) ∧ mnG f k ≤ mxG f k ∧ ∀ j, j ≤ k → mnG f k ≤ f j ∧ f j ≤ mxG f k
  | 0 => ⟨h 0, h 0, Int.le_refl _, fun j hj => by obtain rfl : j = 0 := by omega
                                                  exact ⟨Int.le_refl _, Int.le_refl _⟩⟩
  | k + 1 => by
    obtain ⟨h1, h2, h3, h4⟩ := mn_bd h k
    have hk := h (k + 1)
    have q1 := minI_spec (mnG f k) (f (k + 1))
    have q2 := maxI_spec (mxG f k) (f (k + 1))
    have e1 : mnG f (k + 1) = minI (mnG f k) (f (k + 1)) := rfl
    have e2 : mxG f (k + 1) = maxI (mxG f k) (f (k + 1)) := rfl
    rw [e1, e2]
    refine ⟨by omega, by omega, by omega, fun j hj => ?_⟩
    by_cases e : j = k + 1
    · subst e; omega
    · have := h4 j (by omega); omega
def rv (x : RayD) (j : Nat) : Int × Int := shr (x.2.2.1.1 + ((j / 2 : Nat) : Int) + x.1.2.2.1) (x.1.2.1 * if j % 2 = 0 then x.2.1.1 else x.2.1.2.1)
def rvR (x : RayD) (j : Nat) : Int := (rv x j).1
def rvI (x : RayD) (j : Nat) : Int := (rv x j).2
def nEn (x : RayD) : Nat := Int.toNat ((x.2.2.1.2.1 : Int) - x.2.2.1.1 + 1)
theorem rv_0 (x : RayD) (k : Nat) : rv x (2 * k) = shr (x.2.2.1.1 + (k : Int) + x.1.2.2.1) (x.1.2.1 * x.2.1.1) := by
  unfold rv; rw [if_pos (by omega), show 2 * k / 2 = k by omega]
theorem rv_1 (x : RayD) (k : Nat) : rv x (2 * k + 1) = shr (x.2.2.1.1 + (k : Int) + x.1.2.2.1) (x.1.2.1 * x.2.1.2.1) := by
  unfold rv; rw [if_neg (by omega), show (2 * k + 1) / 2 = k by omega]
abbrev enPat (x : RayD) (j : Nat) : List Fact := [sB 4 (decide (0 < j)), cI 3 0 (mnS (rvR x) j), cI 3 1 (mxS (rvR x) j), cI 3 2 (mnS (rvI x) j), cI 3 3 (mxS (rvI x) j)]
def enAnn (x : RayD) : LoopAnn := { σ := Nat, pat := fun k => sI 5 (x.2.2.1.1 + (k : Int)) :: enPat x (2 * k), inv := fun k => k ≤ nEn x, meas := fun k => nEn x - k }
def enAnn2 (x : RayD) (n : Int) : LoopAnn := { σ := Nat, pat := fun s => sI 35 s :: enPat x (2 * (n - x.2.2.1.1).toNat + s), inv := fun s => s ≤ 2, meas := fun s => 2 - s }
abbrev EndD : Type := EndsT.Den
def endR (x : RayD) : EndD := ((mnS (rvR x) (2 * nEn x), mxS (rvR x) (2 * nEn x), ()), (mnS (rvI x) (2 * nEn x), mxS (rvI x) (2 * nEn x), ()), ())
@[reducible] def sEnds : Spec := { pats := [.dat RayT], res := [{ t := EndsT }], pre := fun x => goodRay x.1, f := fun x => (endR x.1, ()) }
theorem h111 : Ok 111 sEnds := by
  refine mkX (X := xF4) (hX := xF4_ok) (ctr := [(98, sShare)]) ⟨h98, trivial⟩ (nt := 71) Tryz.func111 rfl rfl rfl rfl (by kernel_rfl) (by kernel_rfl) (fun x => [fun _ => enAnn x.1, fun st => withI 5 st fun n => enAnn2 x.1 n]) ?_
  rintro ⟨⟨⟨(p : PlaceD), (g : Int), (d : Int), ⟨⟩⟩, ⟨(sl : Int), (su : Int), ⟨⟩⟩, ⟨(nl : Int), (nu : Int), ⟨⟩⟩, ⟨⟩⟩, ⟨⟩⟩ ⟨(hg : 0 ≤ g ∧ g ≤ 1000), (hd : 0 ≤ d ∧ d ≤ 10000), (hs : 0 ≤ sl ∧ sl ≤ 100000), (hu : sl ≤ su ∧ su ≤ 100000), (hn : 0 ≤ nl ∧ nl ≤ 1000000000), (hm : nl ≤ nu ∧ nu ≤ 1000000000)⟩
  have hv : ∀ k s : Nat, s < 2 → rv ((p, g, d, ()), (sl, su, ()), (nl, nu, ()), ()) (2 * (nl + (k : Int) - nl).toNat + s) = shr (nl + (k : Int) + d) ((chL (I64) 2 (g * sl, g * su, ())).getD s (I64).dflt) := fun k s h => by
    rw [show (nl + (k : Int) - nl).toNat = k by omega]
    match s, h with
    | 0, _ => exact rv_0 _ k
    | 1, _ => exact rv_1 _ k
  have hm1 := mul_le hg (show 0 ≤ sl ∧ sl ≤ 100000 from hs)
  have hm2 := mul_le hg (show 0 ≤ su ∧ su ≤ 100000 by omega)
  have hd2 : ∀ s : Nat, s < 2 → 0 ≤ (chL (I64) 2 (g * sl, g * su, ())).getD s (I64).dflt ∧ (chL (I64) 2 (g * sl, g * su, ())).getD s (I64).dflt ≤ (100000000 : Int) := fun s h => by
    match s, h with
    | 0, _ => exact hm1
    | 1, _ => exact hm2
  repeat' (intro hzz; (try (rename Two => hq; cases hq)); (try dsimp only at hzz); (try simp only [resTy, argTy, eqD, inR, big, wantOf, zB] at hzz); (try simp only [resTy, argTy, eqD, inR, big, wantOf, zB, Int.toNat_natCast] at hzz); (try (revert hzz; intro _)))
  all_goals try (rename Unit => hq; clear hq)
  all_goals try ((with_reducible refine Held.mk ?_); (with_reducible (first | refine Frz.mk ?_ | refine And.intro (Frz.mk ?_) ?_ | refine And.intro ?_ (Frz.mk ?_))); repeat' first | exact True.intro | (change _ = _; with_reducible rfl) | refine And.intro ?_ ?_ | (with_reducible refine Frz.mk ?_))
  all_goals try (refine Held.mk ?_; (try dsimp only at *); (try simp only [resTy, argTy, eqD, inR, big, wantOf, zB] at *); (try simp only [resTy, argTy, eqD, inR, big, wantOf, zB, Int.toNat_natCast] at *))
  all_goals try omega
  · 
    refine GHeld.mk ?_
    refine Exists.intro (0 : Nat) ?_
    refine And.intro (Leaf.mk ?_) ?_
    · repeat' first | exact True.intro | refine And.intro ?_ ?_
      all_goals try ((change _ = _ <;> try dsimp only) <;> try with_reducible rfl)
      all_goals try omega
      all_goals (first | exact Int.add_zero _ | exact (Int.add_zero _).symm | exact (mnS_0 _) | exact (mxS_0 _) | exact (mnS_0 _).symm | exact (mxS_0 _).symm | rfl)
    exact Nat.zero_le _
  · rename_i k hk hle
    have e : 2 * (nl + (k : Int) - nl).toNat = 2 * k := by omega
    refine GHeld.mk ?_
    refine Exists.intro (0 : Nat) ?_
    refine And.intro (Leaf.mk ?_) ?_
    · repeat' first | exact True.intro | refine And.intro ?_ ?_
      all_goals try ((change _ = _ <;> try dsimp only) <;> try with_reducible rfl)
      all_goals try omega
      all_goals (first | rfl | (rw [Nat.add_zero, e]))
    exact Nat.zero_le _
  · rename_i k hk hle s hs2 hlt
    have := hd2 s (by omega)
    exact ⟨⟨by omega, by omega⟩, this.1, Int.le_trans this.2 (by decide)⟩
  · rename_i k hk hle s hs2 hlt _ hz _ _ _
    obtain rfl : k = 0 := by omega
    obtain rfl : s = 0 := by omega
    have e0 : (nl + ((0 : Nat) : Int) - nl).toNat = 0 := by omega
    have z1 := hv 0 0 (by decide)
    rw [e0] at z1
    have q1 : minI (rvR ((p, g, d, ()), (sl, su, ()), (nl, nu, ()), ()) 0) (rvR ((p, g, d, ()), (sl, su, ()), (nl, nu, ()), ()) 0) = mnS (rvR ((p, g, d, ()), (sl, su, ()), (nl, nu, ()), ())) (2 * (nl + ((0 : Nat) : Int) - nl).toNat + (0 + 1)) := by rw [e0, minI_self]; exact (mnS_1 _).symm
    have q2 : maxI (rvR ((p, g, d, ()), (sl, su, ()), (nl, nu, ()), ()) 0) (rvR ((p, g, d, ()), (sl, su, ()), (nl, nu, ()), ()) 0) = mxS (rvR ((p, g, d, ()), (sl, su, ()), (nl, nu, ()), ())) (2 * (nl + ((0 : Nat) : Int) - nl).toNat + (0 + 1)) := by rw [e0, maxI_self]; exact (mxS_1 _).symm
    have q3 : minI (rvI ((p, g, d, ()), (sl, su, ()), (nl, nu, ()), ()) 0) (rvI ((p, g, d, ()), (sl, su, ()), (nl, nu, ()), ()) 0) = mnS (rvI ((p, g, d, ()), (sl, su, ()), (nl, nu, ()), ())) (2 * (nl + ((0 : Nat) : Int) - nl).toNat + (0 + 1)) := by rw [e0, minI_self]; exact (mnS_1 _).symm
    have q4 : maxI (rvI ((p, g, d, ()), (sl, su, ()), (nl, nu, ()), ()) 0) (rvI ((p, g, d, ()), (sl, su, ()), (nl, nu, ()), ()) 0) = mxS (rvI ((p, g, d, ()), (sl, su, ()), (nl, nu, ()), ())) (2 * (nl + ((0 : Nat) : Int) - nl).toNat + (0 + 1)) := by rw [e0, maxI_self]; exact (mxS_1 _).symm
    have a1 : rvR ((p, g, d, ()), (sl, su, ()), (nl, nu, ()), ()) 0 = _ := congrArg Prod.fst z1
    have a2 : rvI ((p, g, d, ()), (sl, su, ()), (nl, nu, ()), ()) 0 = _ := congrArg Prod.snd z1
    rw [a1] at q1 q2
    rw [a2] at q3 q4
    refine GHeld.mk ?_
    refine Exists.intro (0 + 1 : Nat) ?_
    refine And.intro (Leaf.mk ?_) ?_
    · repeat' first | exact True.intro | refine And.intro ?_ ?_
      all_goals try ((change _ = _ <;> try dsimp only) <;> try with_reducible rfl)
      all_goals try omega
      all_goals (first | rfl | exact q1 | exact q2 | exact q3 | exact q4 | (rw [e0]; rfl))
    exact ⟨by decide, by decide⟩
  · rename_i k hk hle s hs2 hlt _ hz _ _ _
    have z1 := hv k s (by omega)
    have q1 := (mnS_s (rvR ((p, g, d, ()), (sl, su, ()), (nl, nu, ()), ())) hz).symm
    have q2 := (mxS_s (rvR ((p, g, d, ()), (sl, su, ()), (nl, nu, ()), ())) hz).symm
    have q3 := (mnS_s (rvI ((p, g, d, ()), (sl, su, ()), (nl, nu, ()), ())) hz).symm
    have q4 := (mxS_s (rvI ((p, g, d, ()), (sl, su, ()), (nl, nu, ()), ())) hz).symm
    have a1 : rvR ((p, g, d, ()), (sl, su, ()), (nl, nu, ()), ()) (2 * (nl + (k : Int) - nl).toNat + s) = _ := congrArg Prod.fst z1
    have a2 : rvI ((p, g, d, ()), (sl, su, ()), (nl, nu, ()), ()) (2 * (nl + (k : Int) - nl).toNat + s) = _ := congrArg Prod.snd z1
    rw [a1] at q1 q2
    rw [a2] at q3 q4
    refine GHeld.mk ?_
    refine Exists.intro (s + 1) ?_
    refine And.intro (Leaf.mk ?_) ?_
    · repeat' first | exact True.intro | refine And.intro ?_ ?_
      all_goals try ((change _ = _ <;> try dsimp only) <;> try with_reducible rfl)
      all_goals try omega
      all_goals (first | rfl | exact q1 | exact q2 | exact q3 | exact q4 | exact (decide_eq_true (Nat.lt_of_lt_of_le hz (Nat.le_succ _))).symm | exact decide_eq_true (Nat.lt_of_lt_of_le hz (Nat.le_succ _)))
    exact ⟨(show s + 1 ≤ 2 by omega), (show 2 - (s + 1) < 2 - s by omega)⟩
  · rename_i k hk hle s hs2 hlt
    obtain rfl : s = 2 := by omega
    have e : 2 * (nl + (k : Int) - nl).toNat + 2 = 2 * (k + 1) := by omega
    have e3 : nEn ((p, g, d, ()), (sl, su, ()), (nl, nu, ()), ()) = (nu - nl + 1).toNat := rfl
    refine GHeld.mk ?_
    refine Exists.intro (k + 1) ?_
    refine And.intro (Leaf.mk ?_) ?_
    · repeat' first | exact True.intro | refine And.intro ?_ ?_
      all_goals try ((change _ = _ <;> try dsimp only) <;> try with_reducible rfl)
      all_goals try omega
      all_goals (first | rfl | (rw [e]) | exact (Int.add_assoc _ _ _))
    rw [e3]
    exact ⟨(show k + 1 ≤ (nu - nl + 1).toNat by omega), (show (nu - nl + 1).toNat - (k + 1) < (nu - nl + 1).toNat - k by omega)⟩
  · rename_i k hk hlt
    have e3 : nEn ((p, g, d, ()), (sl, su, ()), (nl, nu, ()), ()) = (nu - nl + 1).toNat := rfl
    rw [e3] at hk
    have e4 : k = nEn ((p, g, d, ()), (sl, su, ()), (nl, nu, ()), ()) := by rw [e3]; omega
    rw [e4]
    exact ⟨⟨rfl, rfl⟩, rfl, rfl⟩
end Go.Eng.Ar

namespace Go.Eng
open Ieee
set_option linter.all false
theorem read_le2 {r R : Nat} (h1 : 2 ≤ R) (hR : R ≤ 2000) (h : r ≤ R * 2 ^ 52) : ∃ m p, double.read r = .number false m p ∧ ((m < 2 ^ 53 ∧ p ≤ (R : Int) - 1076) ∨ (m = 2 ^ 52 ∧ p = (R : Int) - 1075)) := by
  have hs : double.signWeight = 2 ^ 63 := by decide
  have hb : double.binade = 2 ^ 52 := rfl
  have hi : double.infRung = 2047 * 2 ^ 52 := by decide
  have hl : double.leastPlace = -1074 := by decide
  unfold Format.read
  rw [hs, hb, hi, hl]
  have hr : r < 2 ^ 63 := by omega
  have e1 : r / 2 ^ 63 = 0 := Nat.div_eq_of_lt hr
  have e2 : r % 2 ^ 63 = r := Nat.mod_eq_of_lt hr
  rw [e1, e2]
  dsimp only
  have hn : (0 % 2 == 1) = false := rfl
  rw [hn]
  split
  · rename_i h2
    exact ⟨r, -1074, rfl, .inl ⟨by omega, by omega⟩⟩
  · rw [if_pos (by omega)]
    refine ⟨_, _, rfl, ?_⟩
    omega
theorem root_le2 {m : Nat} {i : Int} (hmi : (m < 2 ^ 53 ∧ i ≤ 8) ∨ (m = 2 ^ 52 ∧ i = 9)) : ∃ m' p', (Datum.number false m i).root 54 = some (.number false m' p') ∧ (m' = 0 ∨ p' + m'.log2 + 1022 < 1053) := by
  simp only [Datum.root, Bool.false_eq_true, if_false]
  split
  · rename_i h; exact ⟨m, i, rfl, .inl h⟩
  · rename_i hne
    have hm : m < 2 ^ 53 := by rcases hmi with h | h
                               · exact h.1
                               · rw [h.1]; decide
    have hl : m.log2 ≤ 52 := log2_lt hm (by decide)
    have h52 : m = 2 ^ 52 → m.log2 = 52 := fun h => by rw [h]; exact Nat.log2_two_pow
    obtain ⟨more, hmore⟩ : ∃ more, 2 * 54 - m.log2 + ((i - ((2 * 54 - m.log2 : Nat) : Int)) % 2).toNat = more := ⟨_, rfl⟩
    rw [hmore]
    have h1 : 56 ≤ more := by omega
    have h2 : m.log2 + more ≤ 109 := by omega
    obtain ⟨n, hn⟩ : ∃ n, m <<< more = n := ⟨_, rfl⟩
    rw [hn]
    have hnl : n.log2 ≤ 109 := by
      have : n < 2 ^ 110 := by
        rw [← hn, Nat.shiftLeft_eq]
        have hm' := Nat.lt_log2_self (n := m)
        calc m * 2 ^ more < 2 ^ (m.log2 + 1) * 2 ^ more := Nat.mul_lt_mul_of_pos_right hm' (Nat.two_pow_pos _)
          _ = 2 ^ (m.log2 + 1 + more) := (Nat.pow_add ..).symm
          _ ≤ 2 ^ 110 := Nat.pow_le_pow_right (by decide) (by omega)
      exact log2_lt this (by decide)
    refine ⟨_, _, rfl, .inr ?_⟩
    have hw := rootFrom_lt n (n.log2 / 2 + 1) 0
    have hw2 : Datum.rootFrom n (n.log2 / 2 + 1) 0 < 2 ^ 55 := by
      refine Nat.lt_of_lt_of_le (by simpa using hw) (Nat.pow_le_pow_right (by decide) (by omega))
    have hb : ∀ b : Bool, b.toNat ≤ 1 := fun b => by cases b <;> decide
    have hmag : 2 * Datum.rootFrom n (n.log2 / 2 + 1) 0 + (Datum.rootFrom n (n.log2 / 2 + 1) 0 * Datum.rootFrom n (n.log2 / 2 + 1) 0 != n).toNat < 2 ^ 56 := by
      have := hb (Datum.rootFrom n (n.log2 / 2 + 1) 0 * Datum.rootFrom n (n.log2 / 2 + 1) 0 != n)
      omega
    have hlm := log2_lt hmag (by decide)
    omega
theorem cut0_le2 {m drop : Nat} (hm : (m < 2 ^ 53 ∧ 22 ≤ drop) ∨ (m = 2 ^ 52 ∧ drop = 21)) : Toward.zero.cut false m drop ≤ 2147483648 := by
  unfold Toward.cut
  dsimp only
  rw [Nat.one_shiftLeft]
  show m / 2 ^ min drop (m.log2 + 2) + 0 ≤ _
  rcases Nat.le_total drop (m.log2 + 2) with h | h
  · rw [Nat.min_eq_left h]
    rcases hm with ⟨hm, hd⟩ | ⟨hm, hd⟩
    · have h1 : m / 2 ^ drop ≤ m / 2 ^ 22 := Nat.div_le_div_left (Nat.pow_le_pow_right (by decide) hd) (Nat.two_pow_pos _)
      have h2 : m / 2 ^ 22 < 2 ^ 31 := by omega
      omega
    · rw [hd, hm]; decide
  · rw [Nat.min_eq_right h]
    have : m / 2 ^ (m.log2 + 2) = 0 := by
      refine Nat.div_eq_of_lt ?_
      have := Nat.lt_log2_self (n := m)
      calc m < 2 ^ (m.log2 + 1) := this
        _ ≤ 2 ^ (m.log2 + 2) := Nat.pow_le_pow_right (by decide) (by omega)
    omega
theorem sq_val2 {n : Int} (h0 : 0 ≤ n) (h1 : n < 2305843009213693952) : ∃ r v, FloatKind.f64.format.sqrt (floatOfInt .f64 n) = some r ∧ floatToIntVal .f64 r .i64 = some v ∧ 0 ≤ v ∧ v ≤ 2147483648 := by
  have e0 : floatOfInt .f64 n = double.nearest false n.natAbs 0 := by
    show double.nearest (decide (n < 0)) n.natAbs 0 = _
    rw [decide_eq_false (by omega)]
  have hl : n.natAbs.log2 ≤ 60 := log2_lt (k := 61) (by omega) (by decide)
  obtain ⟨x, hx, hxr⟩ := near_le (mag := n.natAbs) (place := 0) (R := 1083) (by decide) (by omega)
  obtain ⟨m, i, hr, hmi⟩ := read_le2 (R := 1084) (by decide) (by decide) hxr
  obtain ⟨m', p', hroot, hcase⟩ := root_le2 (m := m) (i := i) (by omega)
  have hs : FloatKind.f64.format.sqrt (floatOfInt .f64 n) = some (double.nearest false m' p') := by
    rw [e0, hx]
    show ((double.read x).root 54).map double.write = _
    rw [hr, hroot]; rfl
  have hy : double.nearest false m' p' ≤ 1054 * 2 ^ 52 := by
    rcases hcase with h | h
    · subst h
      have : double.nearest false 0 p' = 0 := by unfold Format.nearest; rw [if_pos rfl]; rfl
      rw [this]; exact Nat.zero_le _
    · obtain ⟨y, hy, hyr⟩ := near_le (mag := m') (place := p') (R := 1053) (by decide) h
      rw [hy]; exact hyr
  obtain ⟨m2, p2, hr2, hmp⟩ := read_le2 (R := 1054) (by decide) (by decide) hy
  have hz : p2.toNat = 0 := by omega
  have hc := cut0_le2 (m := m2) (drop := (-p2).toNat) (by omega)
  refine ⟨_, (Toward.zero.cut false m2 (-p2).toNat : Nat), hs, ?_, by omega, by omega⟩
  unfold floatToIntVal
  have ht : (FloatKind.f64.decode (double.nearest false m' p')).toInt .zero = some ((Toward.zero.cut false m2 (-p2).toNat : Nat) : Int) := by
    show (double.read (double.nearest false m' p')).toInt .zero = _
    rw [hr2]
    simp only [Datum.toInt, Datum.integral, hz, Nat.shiftLeft_zero, signed, Bool.false_eq_true, if_false]
  rw [ht]
  have hmin : IntKind.min .i64 = -9223372036854775808 := by decide
  have hmax : IntKind.max .i64 = 9223372036854775807 := by decide
  dsimp only
  rw [if_pos (by rw [hmin, hmax]; omega)]
end Go.Eng

namespace Go.Eng.Ar
open Go.Eng Go.Proofs
set_option linter.all false
set_option maxRecDepth 100000
set_option maxHeartbeats 8000000
abbrev pRoot2 (n : Int) : Prop := 0 ≤ n ∧ n < 2305843009213693952
theorem rtI_spec2 {n : Int} (h : pRoot2 n) : 0 ≤ rtI n ∧ rtI n * rtI n ≤ n ∧ n < (rtI n + 1) * (rtI n + 1) ∧ rtI n < 1518500250 := by
  obtain ⟨e1, e2⟩ := rt_spec (n := n.toNat) (by omega)
  have g1 : ((rt n.toNat * rt n.toNat : Nat) : Int) = rtI n * rtI n := by simp [rtI]
  have g2 : (((rt n.toNat + 1) * (rt n.toNat + 1) : Nat) : Int) = (rtI n + 1) * (rtI n + 1) := by simp [rtI]
  have g3 : ((rt n.toNat : Nat) : Int) = rtI n := rfl
  have g4 : rt n.toNat < 1518500250 := by
    rcases Nat.lt_or_ge (rt n.toNat) 1518500250 with h' | h'
    · exact h'
    · have := Nat.mul_le_mul h' h'; omega
  exact ⟨by omega, by omega, by omega, by omega⟩
theorem rtI_eq2 {n : Int} (h : pRoot2 n) {r : Nat} (h1 : (r : Int) * r ≤ n) (h2 : n < ((r : Int) + 1) * ((r : Int) + 1)) : (r : Int) = rtI n := by
  obtain ⟨e1, e2⟩ := rt_spec (n := n.toNat) (by omega)
  have g1 : ((r * r : Nat) : Int) = (r : Int) * r := by simp
  have g2 : (((r + 1) * (r + 1) : Nat) : Int) = ((r : Int) + 1) * ((r : Int) + 1) := by simp
  have := sq_uniq (n := n.toNat) (a := r) (b := rt n.toNat) (by omega) (by omega) e1 e2
  rw [this]; rfl
theorem sq_lt2 {n : Int} {r : Nat} (h : pRoot2 n) (h1 : (r : Int) * r ≤ n) : r < 1518500250 := by
  have g1 : ((r * r : Nat) : Int) = (r : Int) * r := by simp
  rcases Nat.lt_or_ge r 1518500250 with h' | h'
  · exact h'
  · have := Nat.mul_le_mul h' h'; omega
theorem sq_bd2 {r : Nat} (h : r ≤ 2147483648) : 0 ≤ (r : Int) * r ∧ (r : Int) * r ≤ 4611686018427387904 := by
  have g1 : ((r * r : Nat) : Int) = (r : Int) * r := by simp
  have := Nat.mul_le_mul h h
  omega
@[reducible] def sRootX : Spec := { pats := [.dat I64], res := [{ t := I64 }], pre := fun x => pRoot2 x.1, f := fun x => (rtI x.1, ()) }
def rootAnn3 (n : Int) : LoopAnn := { σ := Nat, pat := fun r => [sI 3 r], inv := fun r => r ≤ 2147483648, meas := fun r => r }
def rootAnn4 (n : Int) : LoopAnn := { σ := Nat, pat := fun r => [sI 3 r], inv := fun r => (r : Int) * r ≤ n, meas := fun r => 1518500250 - r }
theorem h112x : Ok 112 sRootX := by
  refine mk (ctr := [(149, sSqrt)]) ⟨h149, trivial⟩ (nt := 25) Tryz.func112 rfl rfl rfl rfl (by kernel_rfl) (by kernel_rfl) (fun x => [fun _ => rootAnn3 x.1, fun _ => rootAnn4 x.1]) ?_
  rintro ⟨(n : Int), _⟩ (hn : pRoot2 n)
  obtain ⟨x, v, hx, hv, hv0, hv1⟩ := sq_val2 hn.1 hn.2
  repeat' (intro hzz; (try (rename Two => hq; cases hq)); (try dsimp only at hzz); (try simp only [resTy, argTy, eqD, inR, big, wantOf, zB] at hzz); (try simp only [resTy, argTy, eqD, inR, big, wantOf, zB, hx, Option.getD_some, Option.isSome_some] at hzz); (try (revert hzz; intro _)))
  all_goals try (rename Unit => hq; clear hq)
  all_goals try ((with_reducible refine Held.mk ?_); (with_reducible (first | refine Frz.mk ?_ | refine And.intro (Frz.mk ?_) ?_ | refine And.intro ?_ (Frz.mk ?_))); repeat' first | exact True.intro | (change _ = _; with_reducible rfl) | refine And.intro ?_ ?_ | (with_reducible refine Frz.mk ?_))
  all_goals try (refine Held.mk ?_; (try dsimp only at *); (try simp only [resTy, argTy, eqD, inR, big, wantOf, zB] at *); (try simp only [resTy, argTy, eqD, inR, big, wantOf, zB, hx, Option.getD_some, Option.isSome_some] at *))
  all_goals try omega
  · rw [hv]; rfl
  ·
    refine GHeld.mk ?_
    refine Exists.intro v.toNat ?_
    refine And.intro (Leaf.mk ?_) ?_
    · repeat' first | exact True.intro | refine And.intro ?_ ?_
      all_goals try ((change _ = _ <;> try dsimp only) <;> try with_reducible rfl)
      all_goals try omega
      all_goals ((rw [hx, Option.getD_some, hv, Option.getD_some]; omega))
    omega
  · rename_i r hr
    have := sq_bd2 hr; omega
  · rename_i r hr h
    have h0 : r ≠ 0 := fun e => by subst e; have := hn.1; simp at h; omega
    refine GHeld.mk ?_
    refine Exists.intro (r - 1) ?_
    refine And.intro (Leaf.mk ?_) ?_
    · repeat' first | exact True.intro | refine And.intro ?_ ?_
      all_goals try ((change _ = _ <;> try dsimp only) <;> try with_reducible rfl)
      all_goals try omega
      all_goals (omega)
    exact ⟨(show r - 1 ≤ 2147483648 by omega), (show r - 1 < r by omega)⟩
  · rename_i r hr h
    refine GHeld.mk ?_
    refine Exists.intro r ?_
    refine And.intro (Leaf.mk ?_) ?_
    · repeat' first | exact True.intro | refine And.intro ?_ ?_
      all_goals try ((change _ = _ <;> try dsimp only) <;> try with_reducible rfl)
      all_goals try omega
      all_goals (rfl)
    exact h
  · rename_i q hq hqn r h
    have := sq_lt2 hn h; omega
  · rename_i q hq hqn r h
    have := sq_lt2 hn h; omega
  · rename_i q hq hqn r h
    have hlt := sq_lt2 hn h
    have := sq_bd2 (r := r + 1) (by omega)
    push_cast at this
    omega
  · rename_i q hq hqn r h1 h
    have := sq_lt2 hn h1; omega
  · rename_i q hq hqn r h1 h
    have hlt := sq_lt2 hn (r := r + 1) (by push_cast; exact h)
    refine GHeld.mk ?_
    refine Exists.intro (r + 1) ?_
    refine And.intro (Leaf.mk ?_) ?_
    · repeat' first | exact True.intro | refine And.intro ?_ ?_
      all_goals try ((change _ = _ <;> try dsimp only) <;> try with_reducible rfl)
      all_goals try omega
      all_goals ((push_cast; rfl))
    exact ⟨(show ((r + 1 : Nat) : Int) * ((r + 1 : Nat) : Int) ≤ n by push_cast; exact h), (show 1518500250 - (r + 1) < 1518500250 - r by omega)⟩
  · rename_i q hq hqn r h1 h
    exact rtI_eq2 hn h1 h
theorem h122x : Ok 122 sRootX := by
  refine mk (ctr := []) trivial (nt := 22) Tryz.func122 rfl rfl rfl rfl (by kernel_rfl) (by kernel_rfl) (fun x => [fun _ => rootAnnB x.1]) ?_
  rintro ⟨(n : Int), _⟩ (hn' : pRoot2 n)
  have hn := hn'.1
  repeat' (intro hzz; (try (rename Two => hq; cases hq)); (try dsimp only at hzz); (try simp only [resTy, argTy, eqD, inR, big, wantOf, zB] at hzz); (try (revert hzz; intro _)))
  all_goals try (rename Unit => hq; clear hq)
  all_goals try ((with_reducible refine Held.mk ?_); (with_reducible (first | refine Frz.mk ?_ | refine And.intro (Frz.mk ?_) ?_ | refine And.intro ?_ (Frz.mk ?_))); repeat' first | exact True.intro | (change _ = _; with_reducible rfl) | refine And.intro ?_ ?_ | (with_reducible refine Frz.mk ?_))
  all_goals try (refine Held.mk ?_; (try dsimp only at *); (try simp only [resTy, argTy, eqD, inR, big, wantOf, zB] at *))
  all_goals try omega
  ·
    refine GHeld.mk ?_
    refine Exists.intro (31, 0) ?_
    refine And.intro (Leaf.mk ?_) ?_
    · repeat' first | exact True.intro | refine And.intro ?_ ?_
      all_goals try ((change _ = _ <;> try dsimp only) <;> try with_reducible rfl)
      all_goals try omega
      all_goals (rfl)
    exact ⟨rfl, by decide, by decide⟩
  all_goals try
    (rename_i s h1 h2
     obtain ⟨k, r⟩ := s
     obtain ⟨j, p, g1, g2, g3, g4, g5, g6, g7, g8⟩ := root_step hn h1 h2
     dsimp only at *
     rw [g2]
     have := sq_le2 (x := (r : Int) + p) (B := 2147483648) (by omega) (by omega)
     omega)
  all_goals try
    (rename_i s h1 h2 h3
     obtain ⟨k, r⟩ := s
     obtain ⟨j, p, g1, g2, g3, g4, g5, g6, g7, g8⟩ := root_step hn h1 h2
     dsimp only at *
     try rw [g3]
     try rw [g2]
     have e0 : bitI j = (p : Int).tdiv 2 := by rw [← g3, g2]
     rw [Int.tdiv_eq_ediv_of_nonneg (by omega)] at e0
     try rw [e0]
     omega)
  · rename_i s h1 h2 h3
    obtain ⟨k, r⟩ := s
    obtain ⟨j, p, g1, g2, g3, g4, g5, g6, g7, g8⟩ := root_step hn h1 h2
    dsimp only at h3
    rw [g2] at h3
    have e1 : (r : Int) + bitI k = ((r + p : Nat) : Int) := by rw [g2]; push_cast; rfl
    refine GHeld.mk ?_
    refine Exists.intro (j, r + p) ?_
    refine And.intro (Leaf.mk ?_) ?_
    · repeat' first | exact True.intro | refine And.intro ?_ ?_
      all_goals try ((change _ = _ <;> try dsimp only) <;> try with_reducible rfl)
      all_goals try omega
      all_goals (first | exact e1 | exact g3)
    exact ⟨g7 h3, by subst g1; exact Nat.lt_succ_self j⟩
  · rename_i s h1 h2 h3
    obtain ⟨k, r⟩ := s
    obtain ⟨j, p, g1, g2, g3, g4, g5, g6, g7, g8⟩ := root_step hn h1 h2
    dsimp only at h3
    rw [g2] at h3
    refine GHeld.mk ?_
    refine Exists.intro (j, r) ?_
    refine And.intro (Leaf.mk ?_) ?_
    · repeat' first | exact True.intro | refine And.intro ?_ ?_
      all_goals try ((change _ = _ <;> try dsimp only) <;> try with_reducible rfl)
      all_goals try omega
      all_goals (exact g3)
    exact ⟨g8 h3, by subst g1; exact Nat.lt_succ_self j⟩
  · rename_i s h1 h2
    obtain ⟨k, r⟩ := s
    obtain ⟨g1, g2, g3⟩ := h1
    dsimp only at *
    have hk : k = 0 := by
      cases k with
      | zero => rfl
      | succ j => rw [bit_succ] at h2; have := Nat.two_pow_pos j; omega
    subst hk
    simp only [rtI, ← g1, rtGo]
@[reducible] def sRootUpX : Spec := { sRootX with f := fun x => (rtU x.1, ()) }
theorem h113x : Ok 113 sRootUpX := by
  refine mk (ctr := [(112, sRootX)]) ⟨h112x, trivial⟩ (nt := 14) Tryz.func113 rfl rfl rfl rfl (by kernel_rfl) (by kernel_rfl) (fun _ => []) ?_
  rintro ⟨(n : Int), _⟩ (hn : pRoot2 n)
  have h1 := rtI_spec2 hn
  have h2 : 0 ≤ rtI n * rtI n := Int.mul_nonneg h1.1 h1.1
  have h3 := hn.2
  repeat' (intro hzz; (try (rename Two => hq; cases hq)); (try dsimp only at hzz); (try simp only [resTy, argTy, eqD, inR, big, wantOf, zB] at hzz); (try simp only [resTy, argTy, eqD, inR, big, wantOf, zB, pRoot] at hzz); (try (revert hzz; intro _)))
  all_goals try (rename Unit => hq; clear hq)
  all_goals try ((with_reducible refine Held.mk ?_); (with_reducible (first | refine Frz.mk ?_ | refine And.intro (Frz.mk ?_) ?_ | refine And.intro ?_ (Frz.mk ?_))); repeat' first | exact True.intro | (change _ = _; with_reducible rfl) | refine And.intro ?_ ?_ | (with_reducible refine Frz.mk ?_))
  all_goals try (refine Held.mk ?_; (try dsimp only at *); (try simp only [resTy, argTy, eqD, inR, big, wantOf, zB] at *); (try simp only [resTy, argTy, eqD, inR, big, wantOf, zB, pRoot] at *))
  all_goals first | exact hn | omega | (simp only [rtU]; split <;> omega)
theorem h123x : Ok 123 sRootUpX := by
  refine mk (ctr := [(122, sRootX)]) ⟨h122x, trivial⟩ (nt := 14) Tryz.func123 rfl rfl rfl rfl (by kernel_rfl) (by kernel_rfl) (fun _ => []) ?_
  rintro ⟨(n : Int), _⟩ (hn : pRoot2 n)
  have h1 := rtI_spec2 hn
  have h2 : 0 ≤ rtI n * rtI n := Int.mul_nonneg h1.1 h1.1
  have h3 := hn.2
  repeat' (intro hzz; (try (rename Two => hq; cases hq)); (try dsimp only at hzz); (try simp only [resTy, argTy, eqD, inR, big, wantOf, zB] at hzz); (try simp only [resTy, argTy, eqD, inR, big, wantOf, zB, pRoot] at hzz); (try (revert hzz; intro _)))
  all_goals try (rename Unit => hq; clear hq)
  all_goals try ((with_reducible refine Held.mk ?_); (with_reducible (first | refine Frz.mk ?_ | refine And.intro (Frz.mk ?_) ?_ | refine And.intro ?_ (Frz.mk ?_))); repeat' first | exact True.intro | (change _ = _; with_reducible rfl) | refine And.intro ?_ ?_ | (with_reducible refine Frz.mk ?_))
  all_goals try (refine Held.mk ?_; (try dsimp only at *); (try simp only [resTy, argTy, eqD, inR, big, wantOf, zB] at *); (try simp only [resTy, argTy, eqD, inR, big, wantOf, zB, pRoot] at *))
  all_goals first | exact hn | omega | (simp only [rtU]; split <;> omega)
end Go.Eng.Ar

namespace Go.Eng.Ar
open Go.Eng Go.Proofs
set_option linter.all false
set_option maxRecDepth 100000
set_option maxHeartbeats 8000000
theorem rv_bd {x : RayD} (h : goodRay x) (j : Nat) : (-100000000 ≤ rvR x j ∧ rvR x j ≤ 100000000) ∧ (-100000000 ≤ rvI x j ∧ rvI x j ≤ 100000000) := by
  refine shr_bd ?_
  have h1 := mul_le h.g h.s
  have h2 := mul_le h.g (show 0 ≤ (x.2.1.2.1 : Int) ∧ (x.2.1.2.1 : Int) ≤ 100000 from ⟨Int.le_trans h.s.1 h.su.1, h.su.2⟩)
  split
  · exact h1
  · exact h2
theorem nEn_pos {x : RayD} (h : goodRay x) : ∃ k, 2 * nEn x = k + 1 := by
  obtain ⟨n, hn⟩ : ∃ n : Nat, nEn x = n + 1 := ⟨nEn x - 1, by
    have h1 : (x.2.2.1.1 : Int) ≤ (x.2.2.1.2.1 : Int) := h.nu.1
    have h2 : 0 < (x.2.2.1.2.1 : Int) - (x.2.2.1.1 : Int) + 1 := Int.lt_add_one_iff.2 (Int.sub_nonneg.2 h1)
    have h3 : 0 < nEn x := Int.lt_toNat.2 h2
    omega⟩
  exact ⟨2 * n + 1, by omega⟩
structure endBd (e : EndD) : Prop where
  a : -100000000 ≤ (e.1.1 : Int) ∧ (e.1.1 : Int) ≤ (e.1.2.1 : Int) ∧ (e.1.2.1 : Int) ≤ 100000000
  b : -100000000 ≤ (e.2.1.1 : Int) ∧ (e.2.1.1 : Int) ≤ (e.2.1.2.1 : Int) ∧ (e.2.1.2.1 : Int) ≤ 100000000
theorem endR_bd {x : RayD} (h : goodRay x) : endBd (endR x) := by
  obtain ⟨k, hk⟩ := nEn_pos h
  have h1 := mn_bd (f := rvR x) (B := 100000000) (fun i => (rv_bd h i).1) k
  have h2 := mn_bd (f := rvI x) (B := 100000000) (fun i => (rv_bd h i).2) k
  refine ⟨?_, ?_⟩
  · show -100000000 ≤ mnS (rvR x) (2 * nEn x) ∧ mnS (rvR x) (2 * nEn x) ≤ mxS (rvR x) (2 * nEn x) ∧ mxS (rvR x) (2 * nEn x) ≤ 100000000
    rw [hk, mnS_g, mxS_g]; omega
  · show -100000000 ≤ mnS (rvI x) (2 * nEn x) ∧ mnS (rvI x) (2 * nEn x) ≤ mxS (rvI x) (2 * nEn x) ∧ mxS (rvI x) (2 * nEn x) ≤ 100000000
    rw [hk, mnS_g, mxS_g]; omega
def e0 (L : List RayD) (k : Nat) : Int := sm (fun i => (endR (rayN L i)).1.1) k
def e1 (L : List RayD) (k : Nat) : Int := sm (fun i => (endR (rayN L i)).1.2.1) k
def e2 (L : List RayD) (k : Nat) : Int := sm (fun i => (endR (rayN L i)).2.1.1) k
def e3 (L : List RayD) (k : Nat) : Int := sm (fun i => (endR (rayN L i)).2.1.2.1) k
theorem sm_le2 {f g : Nat → Int} : ∀ k : Nat, (∀ i, i < k → f i ≤ g i) → sm f k ≤ sm g k
  | 0, _ => Int.le_refl _
  | k + 1, h => Int.add_le_add (sm_le2 k fun i hi => h i (by omega)) (h k (by omega))
theorem en_bd {L : List RayD} {k : Nat} (h : ∀ i, i < k → goodRay (rayN L i)) (hk : k ≤ 8) : (-800000000 ≤ e0 L k ∧ e0 L k ≤ e1 L k ∧ e1 L k ≤ 800000000) ∧ (-800000000 ≤ e2 L k ∧ e2 L k ≤ e3 L k ∧ e3 L k ≤ 800000000) := by
  have b := fun i hi => endR_bd (h i hi)
  have h0 := sm_le (f := fun i => (endR (rayN L i)).1.1) (B := 100000000) k fun i hi => ⟨(b i hi).a.1, Int.le_trans (b i hi).a.2.1 (b i hi).a.2.2⟩
  have h1 := sm_le (f := fun i => (endR (rayN L i)).1.2.1) (B := 100000000) k fun i hi => ⟨Int.le_trans (b i hi).a.1 (b i hi).a.2.1, (b i hi).a.2.2⟩
  have h2 := sm_le (f := fun i => (endR (rayN L i)).2.1.1) (B := 100000000) k fun i hi => ⟨(b i hi).b.1, Int.le_trans (b i hi).b.2.1 (b i hi).b.2.2⟩
  have h3 := sm_le (f := fun i => (endR (rayN L i)).2.1.2.1) (B := 100000000) k fun i hi => ⟨Int.le_trans (b i hi).b.1 (b i hi).b.2.1, (b i hi).b.2.2⟩
  have h4 : e0 L k ≤ e1 L k := sm_le2 k fun i hi => (b i hi).a.2.1
  have h5 : e2 L k ≤ e3 L k := sm_le2 k fun i hi => (b i hi).b.2.1
  refine ⟨⟨?_, h4, ?_⟩, ?_, h5, ?_⟩
  · have : -((k : Int) * 100000000) ≤ e0 L k := h0.1
    omega
  · have : e1 L k ≤ (k : Int) * 100000000 := h1.2
    omega
  · have : -((k : Int) * 100000000) ≤ e2 L k := h2.1
    omega
  · have : e3 L k ≤ (k : Int) * 100000000 := h3.2
    omega
def endT (L : List RayD) : EndD := ((e0 L L.length, e1 L L.length, ()), (e2 L L.length, e3 L L.length, ()), ())
def endC (o : List RayD × Int × Unit) : EndD := if o.2.1 = 0 then endT o.1 else ((0, 0, ()), (0, 0, ()), ())
@[reducible] def sEndsAt : Spec := { pats := [.dat ArrT, .dat PlaceT], res := [{ t := EndsT }, { t := I64 }], pre := fun x => pLen (List.length (α := SpkD) x.1.2.2.1), f := fun x => (endC (openR x.1.1 x.1.2.1 x.1.2.2.1 x.2.1), opErr x.1.1 x.1.2.1 x.1.2.2.1 x.2.1, ()) }
def eaAnn (l : List RayD) : LoopAnn := { σ := Nat, pat := fun k => [sI 25 k, cI 8 0 (e0 l k), cI 8 1 (e1 l k), cI 8 2 (e2 l k), cI 8 3 (e3 l k)], inv := fun k => k ≤ l.length, meas := fun k => l.length - k }
theorem h47 : Ok 47 sEndsAt := by
  refine mkX (X := xF4) (hX := xF4_ok) (ctr := [(93, sOpen), (111, sEnds)]) ⟨h93, h111, trivial⟩ (nt := 55) Tryz.func47 rfl rfl rfl rfl (by kernel_rfl) (by kernel_rfl) (fun x => [fun _ => eaAnn (openR x.1.1 x.1.2.1 x.1.2.2.1 x.2.1).1]) ?_
  rintro ⟨⟨(r : Int), (v : Int), (xs : List SpkD), ⟨⟩⟩, ⟨(pa : Int), (pb : Int), (pc : Int), ⟨⟩⟩, ⟨⟩⟩ (hp : pLen xs.length)
  obtain ⟨L, e, he, hl, hg, hz⟩ := open_good r v xs (pa, pb, pc, ())
  have hb := fun (k : Nat) (hk : k ≤ L.length) => en_bd (L := L) (k := k) (fun i hi => hg i (by omega)) (by omega)
  repeat' (intro hzz; (try (rename Two => hq; cases hq)); (try dsimp only at hzz); (try simp only [resTy, argTy, eqD, inR, big, wantOf, zB] at hzz); (try simp only [resTy, argTy, eqD, inR, big, wantOf, zB, he, pLen, Int.toNat_natCast] at hzz); (try (revert hzz; intro _)))
  all_goals try (rename Unit => hq; clear hq)
  all_goals try ((with_reducible refine Held.mk ?_); (with_reducible (first | refine Frz.mk ?_ | refine And.intro (Frz.mk ?_) ?_ | refine And.intro ?_ (Frz.mk ?_))); repeat' first | exact True.intro | (change _ = _; with_reducible rfl) | refine And.intro ?_ ?_ | (with_reducible refine Frz.mk ?_))
  all_goals try (refine Held.mk ?_; (try dsimp only at *); (try simp only [resTy, argTy, eqD, inR, big, wantOf, zB] at *); (try simp only [resTy, argTy, eqD, inR, big, wantOf, zB, he, pLen, Int.toNat_natCast] at *))
  all_goals try omega
  all_goals try simp only [he, Int.toNat_natCast]
  · rename_i h
    have q : endC (L, e, ()) = ((0, 0, ()), (0, 0, ()), ()) := if_neg h
    rw [q]; exact ⟨⟨⟨rfl, rfl⟩, rfl, rfl⟩, hz⟩
  · rename_i h
    refine GHeld.mk ?_
    refine Exists.intro (0 : Nat) ?_
    refine And.intro (Leaf.mk ?_) ?_
    · repeat' first | exact True.intro | refine And.intro ?_ ?_
      all_goals try ((change _ = _ <;> try dsimp only) <;> try with_reducible rfl)
      all_goals try omega
      all_goals (first | rfl | exact e)
    exact Nat.zero_le _
  · rename_i k hk hlt
    exact hg k (by omega)
  · rename_i k hk hlt _
    have := (hb (k + 1) (by omega)).1
    exact ⟨Int.le_trans (by decide) this.1, Int.le_trans (Int.le_trans this.2.1 this.2.2) (by decide)⟩
  · rename_i k hk hlt _
    have := (hb (k + 1) (by omega)).1
    exact ⟨Int.le_trans (by decide) (Int.le_trans this.1 this.2.1), Int.le_trans this.2.2 (by decide)⟩
  · rename_i k hk hlt _ _
    have := (hb (k + 1) (by omega)).2
    exact ⟨Int.le_trans (by decide) this.1, Int.le_trans (Int.le_trans this.2.1 this.2.2) (by decide)⟩
  · rename_i k hk hlt _ _
    have := (hb (k + 1) (by omega)).2
    exact ⟨Int.le_trans (by decide) (Int.le_trans this.1 this.2.1), Int.le_trans this.2.2 (by decide)⟩
  · rename_i k hk hlt _ _ _
    refine GHeld.mk ?_
    refine Exists.intro (k + 1) ?_
    refine And.intro (Leaf.mk ?_) ?_
    · repeat' first | exact True.intro | refine And.intro ?_ ?_
      all_goals try ((change _ = _ <;> try dsimp only) <;> try with_reducible rfl)
      all_goals try omega
      all_goals (first | rfl | exact e)
    exact ⟨by show k + 1 ≤ L.length; omega, by show L.length - (k + 1) < L.length - k; omega⟩
  · rename_i h k hk hlt
    have e2 : k = L.length := by omega
    subst e2
    have q : endC (L, e, ()) = endT L := if_pos h
    rw [q]; exact ⟨⟨⟨rfl, rfl⟩, rfl, rfl⟩, h.symm.trans hz⟩
abbrev R64 (n : Int) : Prop := -9223372036854775808 ≤ n ∧ n ≤ 9223372036854775807
def lstI (lo hi : Int) : Int := maxI (maxI 0 lo) (-hi)
def mstI (lo hi : Int) : Int := maxI hi (-lo)
def sizT (e : EndD) : Int × Int × Unit := (rtI (lstI e.1.1 e.1.2.1 * lstI e.1.1 e.1.2.1 + lstI e.2.1.1 e.2.1.2.1 * lstI e.2.1.1 e.2.1.2.1), rtU (mstI e.1.1 e.1.2.1 * mstI e.1.1 e.1.2.1 + mstI e.2.1.1 e.2.1.2.1 * mstI e.2.1.1 e.2.1.2.1), ())
theorem lst_bd {lo hi : Int} (h : -800000000 ≤ lo ∧ lo ≤ hi ∧ hi ≤ 800000000) : 0 ≤ lstI lo hi ∧ lstI lo hi ≤ mstI lo hi ∧ mstI lo hi ≤ 800000000 := by
  unfold lstI mstI maxI
  refine ⟨?_, ?_, ?_⟩ <;> (repeat' split) <;> omega
def sizC (o : List RayD × Int × Unit) : Int × Int × Unit := if o.2.1 = 0 then sizT (endT o.1) else (0, 0, ())
@[reducible] def sSizeAt : Spec := { pats := [.dat ArrT, .dat PlaceT], res := [{ t := RangeT }, { t := I64 }], pre := fun x => pLen (List.length (α := SpkD) x.1.2.2.1), f := fun x => (sizC (openR x.1.1 x.1.2.1 x.1.2.2.1 x.2.1), opErr x.1.1 x.1.2.1 x.1.2.2.1 x.2.1, ()) }
theorem h48 : Ok 48 sSizeAt := by
  refine mkX (X := xF4) (hX := xF4_ok) (ctr := [(47, sEndsAt), (112, sRootX), (113, sRootUpX)]) ⟨h47, h112x, h113x, trivial⟩ (nt := 56) Tryz.func48 rfl rfl rfl rfl (by kernel_rfl) (by kernel_rfl) (fun x => []) ?_
  rintro ⟨⟨(r : Int), (v : Int), (xs : List SpkD), ⟨⟩⟩, ⟨(pa : Int), (pb : Int), (pc : Int), ⟨⟩⟩, ⟨⟩⟩ (hp : pLen xs.length)
  obtain ⟨L, e, he, hl, hg, hz⟩ := open_good r v xs (pa, pb, pc, ())
  have hb := en_bd (L := L) (k := L.length) (fun i hi => hg i hi) hl
  by_cases hc : e = 0
  · have q : endC (L, e, ()) = ((e0 L L.length, e1 L L.length, ()), (e2 L L.length, e3 L L.length, ()), ()) := if_pos hc
    have q2 : sizC (L, e, ()) = sizT ((e0 L L.length, e1 L L.length, ()), (e2 L L.length, e3 L L.length, ()), ()) := if_pos hc
    have hc2 : opErr r v xs (pa, pb, pc, ()) = 0 := hz.symm.trans hc
    generalize e0 L L.length = a0 at *
    generalize e1 L L.length = a1 at *
    generalize e2 L L.length = a2 at *
    generalize e3 L L.length = a3 at *
    have b1 := lst_bd hb.1
    have b2 := lst_bd hb.2
    have s1 := sq_le2 b1.1 (Int.le_trans b1.2.1 b1.2.2)
    have s2 := sq_le2 b2.1 (Int.le_trans b2.2.1 b2.2.2)
    have s3 := sq_le2 (Int.le_trans b1.1 b1.2.1) b1.2.2
    have s4 := sq_le2 (Int.le_trans b2.1 b2.2.1) b2.2.2
    have r1 : R64 (-a1) := by omega
    have r2 : R64 (-a0) := by omega
    have r3 : R64 (-a3) := by omega
    have r4 : R64 (-a2) := by omega
    have p1 : R64 (lstI a0 a1 * lstI a0 a1) := by omega
    have p2 : R64 (mstI a0 a1 * mstI a0 a1) := by omega
    have p3 : R64 (lstI a2 a3 * lstI a2 a3) := by omega
    have p4 : R64 (mstI a2 a3 * mstI a2 a3) := by omega
    have p5 : R64 (0 + lstI a0 a1 * lstI a0 a1) := by omega
    have p6 : R64 (0 + mstI a0 a1 * mstI a0 a1) := by omega
    have p7 : R64 (0 + lstI a0 a1 * lstI a0 a1 + lstI a2 a3 * lstI a2 a3) := by omega
    have p8 : R64 (0 + mstI a0 a1 * mstI a0 a1 + mstI a2 a3 * mstI a2 a3) := by omega
    have p9 : pRoot2 (0 + lstI a0 a1 * lstI a0 a1 + lstI a2 a3 * lstI a2 a3) := by constructor <;> omega
    have pA : pRoot2 (0 + mstI a0 a1 * mstI a0 a1 + mstI a2 a3 * mstI a2 a3) := by constructor <;> omega
    have pB : rtI (0 + lstI a0 a1 * lstI a0 a1 + lstI a2 a3 * lstI a2 a3) = rtI (lstI a0 a1 * lstI a0 a1 + lstI a2 a3 * lstI a2 a3) := by rw [Int.zero_add]
    have pC : rtU (0 + mstI a0 a1 * mstI a0 a1 + mstI a2 a3 * mstI a2 a3) = rtU (mstI a0 a1 * mstI a0 a1 + mstI a2 a3 * mstI a2 a3) := by rw [Int.zero_add]
    repeat' (intro hzz; (try (rename Two => hq; cases hq)); (try dsimp only at hzz); (try simp only [resTy, argTy, eqD, inR, big, wantOf, zB] at hzz); (try simp only [resTy, argTy, eqD, inR, big, wantOf, zB, he, pLen, hc2, q] at hzz); (try (first | contradiction | (exfalso; omega))); (try (revert hzz; intro _)))
    all_goals try (rename Unit => hq; clear hq)
    all_goals try ((with_reducible refine Held.mk ?_); (with_reducible (first | refine Frz.mk ?_ | refine And.intro (Frz.mk ?_) ?_ | refine And.intro ?_ (Frz.mk ?_))); repeat' first | exact True.intro | (change _ = _; with_reducible rfl) | refine And.intro ?_ ?_ | (with_reducible refine Frz.mk ?_))
    all_goals try (refine Held.mk ?_; (try dsimp only at *); (try simp only [resTy, argTy, eqD, inR, big, wantOf, zB] at *); (try simp only [resTy, argTy, eqD, inR, big, wantOf, zB, he, pLen, hc2, q] at *))
    all_goals try omega
    all_goals try simp only [he, q, q2]
    all_goals repeat' first | exact r1 | exact r2 | exact r3 | exact r4 | exact p1 | exact p2 | exact p3 | exact p4 | exact p5 | exact p6 | exact p7 | exact p8 | exact p9 | exact pA | exact pB | exact pC | exact hz | exact hz.symm | refine And.intro ?_ ?_
  · have q : endC (L, e, ()) = ((0, 0, ()), (0, 0, ()), ()) := if_neg hc
    have q2 : sizC (L, e, ()) = (0, 0, ()) := if_neg hc
    have hc2 : ¬ opErr r v xs (pa, pb, pc, ()) = 0 := fun h => hc (hz.trans h)
    repeat' (intro hzz; (try (rename Two => hq; cases hq)); (try dsimp only at hzz); (try simp only [resTy, argTy, eqD, inR, big, wantOf, zB] at hzz); (try simp only [resTy, argTy, eqD, inR, big, wantOf, zB, he, pLen, hc2, q] at hzz); (try (first | contradiction | (exfalso; omega))); (try (revert hzz; intro _)))
    all_goals try (rename Unit => hq; clear hq)
    all_goals try ((with_reducible refine Held.mk ?_); (with_reducible (first | refine Frz.mk ?_ | refine And.intro (Frz.mk ?_) ?_ | refine And.intro ?_ (Frz.mk ?_))); repeat' first | exact True.intro | (change _ = _; with_reducible rfl) | refine And.intro ?_ ?_ | (with_reducible refine Frz.mk ?_))
    all_goals try (refine Held.mk ?_; (try dsimp only at *); (try simp only [resTy, argTy, eqD, inR, big, wantOf, zB] at *); (try simp only [resTy, argTy, eqD, inR, big, wantOf, zB, he, pLen, hc2, q] at *))
    all_goals try omega
    all_goals try simp only [he, q, q2]
    all_goals exact ⟨trivial, trivial⟩
def gL (x : RayD) : Int := x.1.2.1 * x.2.1.1
def gU (x : RayD) : Int := x.1.2.1 * x.2.1.2.1
def n0 (L : List RayD) (k : Nat) : Int := sm (fun i => gL (rayN L i) * gL (rayN L i)) k
def n1 (L : List RayD) (k : Nat) : Int := sm (fun i => gU (rayN L i) * gU (rayN L i)) k
theorem g_bd {x : RayD} (h : goodRay x) : (0 ≤ gL x ∧ gL x ≤ 100000000) ∧ (0 ≤ gU x ∧ gU x ≤ 100000000) := by
  have h1 := mul_le h.g h.s
  have h2 := mul_le h.g (show 0 ≤ (x.2.1.2.1 : Int) ∧ (x.2.1.2.1 : Int) ≤ 100000 from ⟨Int.le_trans h.s.1 h.su.1, h.su.2⟩)
  exact ⟨h1, h2⟩
theorem sm_nn {f : Nat → Int} {B : Int} : ∀ k : Nat, (∀ i, i < k → 0 ≤ f i ∧ f i ≤ B) → 0 ≤ sm f k ∧ sm f k ≤ (k : Int) * B
  | 0, _ => ⟨Int.le_refl _, by simp [sm]⟩
  | k + 1, h => by
    have h1 := sm_nn k fun i hi => h i (by omega)
    have h2 := h k (by omega)
    have e : (((k + 1 : Nat) : Int) * B) = (k : Int) * B + B := by rw [Int.natCast_add, Int.add_mul]; simp
    rw [e]
    show 0 ≤ sm f k + f k ∧ sm f k + f k ≤ _
    omega
theorem ng_bd {L : List RayD} {k : Nat} (h : ∀ i, i < k → goodRay (rayN L i)) (hk : k ≤ 8) : (0 ≤ n0 L k ∧ n0 L k ≤ 80000000000000000) ∧ (0 ≤ n1 L k ∧ n1 L k ≤ 80000000000000000) := by
  have h0 := sm_nn (f := fun i => gL (rayN L i) * gL (rayN L i)) (B := 10000000000000000) k fun i hi => sq_le2 (g_bd (h i hi)).1.1 (g_bd (h i hi)).1.2
  have h1 := sm_nn (f := fun i => gU (rayN L i) * gU (rayN L i)) (B := 10000000000000000) k fun i hi => sq_le2 (g_bd (h i hi)).2.1 (g_bd (h i hi)).2.2
  have e0 : n0 L k ≤ (k : Int) * 10000000000000000 := h0.2
  have e1 : n1 L k ≤ (k : Int) * 10000000000000000 := h1.2
  exact ⟨⟨h0.1, by omega⟩, h1.1, by omega⟩
def enrC (o : List RayD × Int × Unit) : Int × Int × Unit := if o.2.1 = 0 then (n0 o.1 o.1.length, n1 o.1 o.1.length, ()) else (0, 0, ())
@[reducible] def sEnergy : Spec := { pats := [.dat ArrT, .dat PlaceT], res := [{ t := RangeT }, { t := I64 }], pre := fun x => pLen (List.length (α := SpkD) x.1.2.2.1), f := fun x => (enrC (openR x.1.1 x.1.2.1 x.1.2.2.1 x.2.1), opErr x.1.1 x.1.2.1 x.1.2.2.1 x.2.1, ()) }
def nrgAnn (l : List RayD) : LoopAnn := { σ := Nat, pat := fun k => [sI 25 k, cI 8 0 (n0 l k), cI 8 1 (n1 l k)], inv := fun k => k ≤ l.length, meas := fun k => l.length - k }
theorem h57 : Ok 57 sEnergy := by
  refine mk (ctr := [(93, sOpen)]) ⟨h93, trivial⟩ (nt := 58) Tryz.func57 rfl rfl rfl rfl (by kernel_rfl) (by kernel_rfl) (fun x => [fun _ => nrgAnn (openR x.1.1 x.1.2.1 x.1.2.2.1 x.2.1).1]) ?_
  rintro ⟨⟨(r : Int), (v : Int), (xs : List SpkD), ⟨⟩⟩, ⟨(pa : Int), (pb : Int), (pc : Int), ⟨⟩⟩, ⟨⟩⟩ (hp : pLen xs.length)
  obtain ⟨L, e, he, hl, hg, hz⟩ := open_good r v xs (pa, pb, pc, ())
  have hb := fun (k : Nat) (hk : k ≤ L.length) => ng_bd (L := L) (k := k) (fun i hi => hg i (by omega)) (by omega)
  repeat' (intro hzz; (try (rename Two => hq; cases hq)); (try dsimp only at hzz); (try simp only [resTy, argTy, eqD, inR, big, wantOf, zB] at hzz); (try simp only [resTy, argTy, eqD, inR, big, wantOf, zB, he, pLen, Int.toNat_natCast] at hzz); (try (revert hzz; intro _)))
  all_goals try (rename Unit => hq; clear hq)
  all_goals try ((with_reducible refine Held.mk ?_); (with_reducible (first | refine Frz.mk ?_ | refine And.intro (Frz.mk ?_) ?_ | refine And.intro ?_ (Frz.mk ?_))); repeat' first | exact True.intro | (change _ = _; with_reducible rfl) | refine And.intro ?_ ?_ | (with_reducible refine Frz.mk ?_))
  all_goals try (refine Held.mk ?_; (try dsimp only at *); (try simp only [resTy, argTy, eqD, inR, big, wantOf, zB] at *); (try simp only [resTy, argTy, eqD, inR, big, wantOf, zB, he, pLen, Int.toNat_natCast] at *))
  all_goals try omega
  all_goals try simp only [he, Int.toNat_natCast]
  · rename_i h
    have q : enrC (L, e, ()) = (0, 0, ()) := if_neg h
    rw [q]; exact ⟨⟨rfl, rfl⟩, hz⟩
  · rename_i h
    refine GHeld.mk ?_
    refine Exists.intro (0 : Nat) ?_
    refine And.intro (Leaf.mk ?_) ?_
    · repeat' first | exact True.intro | refine And.intro ?_ ?_
      all_goals try ((change _ = _ <;> try dsimp only) <;> try with_reducible rfl)
      all_goals try omega
      all_goals (first | rfl | exact e)
    exact Nat.zero_le _
  · rename_i k hk hlt
    have := (g_bd (hg k (by omega))).1
    exact ⟨Int.le_trans (by decide) this.1, Int.le_trans this.2 (by decide)⟩
  · rename_i k hk hlt
    have := (g_bd (hg k (by omega))).2
    exact ⟨Int.le_trans (by decide) this.1, Int.le_trans this.2 (by decide)⟩
  · rename_i k hk hlt
    have q := (g_bd (hg k (by omega))).1
    have := sq_le2 q.1 q.2
    exact ⟨Int.le_trans (by decide) this.1, Int.le_trans this.2 (by decide)⟩
  · rename_i k hk hlt
    have := (hb (k + 1) (by omega)).1
    exact ⟨Int.le_trans (by decide) this.1, Int.le_trans this.2 (by decide)⟩
  · rename_i k hk hlt
    have q := (g_bd (hg k (by omega))).2
    have := sq_le2 q.1 q.2
    exact ⟨Int.le_trans (by decide) this.1, Int.le_trans this.2 (by decide)⟩
  · rename_i k hk hlt
    have := (hb (k + 1) (by omega)).2
    exact ⟨Int.le_trans (by decide) this.1, Int.le_trans this.2 (by decide)⟩
  · rename_i k hk hlt
    refine GHeld.mk ?_
    refine Exists.intro (k + 1) ?_
    refine And.intro (Leaf.mk ?_) ?_
    · repeat' first | exact True.intro | refine And.intro ?_ ?_
      all_goals try ((change _ = _ <;> try dsimp only) <;> try with_reducible rfl)
      all_goals try omega
      all_goals (first | rfl | exact e)
    exact ⟨by show k + 1 ≤ L.length; omega, by show L.length - (k + 1) < L.length - k; omega⟩
  · rename_i h k hk hlt
    have e2 : k = L.length := by omega
    subst e2
    have q : enrC (L, e, ()) = (n0 L L.length, n1 L L.length, ()) := if_pos h
    rw [q]; exact ⟨⟨rfl, rfl⟩, h.symm.trans hz⟩
end Go.Eng.Ar

namespace Go.Eng.Ar
open Go.Eng Go.Proofs
set_option linter.all false
set_option maxRecDepth 100000
set_option maxHeartbeats 8000000
def Hid (p : Prop) : Prop := p
end Go.Eng.Ar

namespace Go.Eng.Ar
open Go.Eng Go.Proofs
set_option linter.all false
set_option maxRecDepth 100000
set_option maxHeartbeats 8000000
abbrev pMod (n b : Int) : Prop := (-4000000000000000000 ≤ n ∧ n ≤ 4000000000000000000) ∧ 0 < b ∧ b ≤ 1000000000000000000
@[reducible] def sMod : Spec := { pats := [.dat I64, .dat I64], res := [{ t := I64 }], pre := fun x => pMod x.1 x.2.1, f := fun x => (x.1 % x.2.1, ()) }
theorem h62 : Ok 62 sMod := by
  refine mk (ctr := []) trivial (nt := 14) Tryz.func62 rfl rfl rfl rfl (by kernel_rfl) (by kernel_rfl) (fun _ => []) ?_
  rintro ⟨(n : Int), (b : Int), _⟩ ⟨⟨(h1 : -4000000000000000000 ≤ n), (h2 : n ≤ 4000000000000000000)⟩, (h3 : 0 < b), (h4 : b ≤ 1000000000000000000)⟩
  have d1 := Int.emod_nonneg n (show b ≠ 0 by omega)
  have d2 := Int.emod_lt_of_pos n h3
  have d3 : n.tmod b = n % b ∨ (n.tmod b = n % b - b ∧ n.tmod b < 0) := by
    rw [Int.tmod_eq_emod]
    split
    · left; omega
    · rename_i h
      right
      have e : (b.natAbs : Int) = b := by omega
      rw [e]
      omega
  have d4 : n.tmod b = n % b → 0 ≤ n.tmod b := fun h => by omega
  repeat' (intro hzz; (try (rename Two => hq; cases hq)); (try dsimp only at hzz); (try simp only [resTy, argTy, eqD, inR, big, wantOf, zB] at hzz); (try simp only [resTy, argTy, eqD, inR, big, wantOf, zB, pMod] at hzz); (try (revert hzz; intro _)))
  all_goals try (rename Unit => hq; clear hq)
  all_goals try ((with_reducible refine Held.mk ?_); (with_reducible (first | refine Frz.mk ?_ | refine And.intro (Frz.mk ?_) ?_ | refine And.intro ?_ (Frz.mk ?_))); repeat' first | exact True.intro | (change _ = _; with_reducible rfl) | refine And.intro ?_ ?_ | (with_reducible refine Frz.mk ?_))
  all_goals try (refine Held.mk ?_; (try dsimp only at *); (try simp only [resTy, argTy, eqD, inR, big, wantOf, zB] at *); (try simp only [resTy, argTy, eqD, inR, big, wantOf, zB, pMod] at *))
  all_goals omega
abbrev pTurn (n m : Int) : Prop := (-1000000000000000000 ≤ n ∧ n ≤ 1000000000000000000) ∧ (-1000000000000000000 ≤ m ∧ m ≤ 1000000000000000000)
@[reducible] def sTurn : Spec := { pats := [.dat I64, .dat I64], res := [{ t := I64 }, { t := I64 }], pre := fun x => pTurn x.1 x.2.1, f := fun x => ((shr x.2.1 x.1).1, (shr x.2.1 x.1).2, ()) }
theorem h120 : Ok 120 sTurn := by
  refine mk (ctr := [(62, sMod)]) ⟨h62, trivial⟩ (nt := 20) Tryz.func120 rfl rfl rfl rfl (by kernel_rfl) (by kernel_rfl) (fun _ => []) ?_
  rintro ⟨(n : Int), (m : Int), _⟩ ⟨(h1 : -1000000000000000000 ≤ n ∧ n ≤ 1000000000000000000), (h2 : -1000000000000000000 ≤ m ∧ m ≤ 1000000000000000000)⟩
  repeat' (intro hzz; (try (rename Two => hq; cases hq)); (try dsimp only at hzz); (try simp only [resTy, argTy, eqD, inR, big, wantOf, zB] at hzz); (try simp only [resTy, argTy, eqD, inR, big, wantOf, zB, pMod] at hzz); (try (revert hzz; intro _)))
  all_goals try (rename Unit => hq; clear hq)
  all_goals try ((with_reducible refine Held.mk ?_); (with_reducible (first | refine Frz.mk ?_ | refine And.intro (Frz.mk ?_) ?_ | refine And.intro ?_ (Frz.mk ?_))); repeat' first | exact True.intro | (change _ = _; with_reducible rfl) | refine And.intro ?_ ?_ | (with_reducible refine Frz.mk ?_))
  all_goals try (refine Held.mk ?_; (try dsimp only at *); (try simp only [resTy, argTy, eqD, inR, big, wantOf, zB] at *); (try simp only [resTy, argTy, eqD, inR, big, wantOf, zB, pMod] at *))
  all_goals try omega
  · rename_i h
    rw [show shr m n = (n, 0) from if_pos h]; exact ⟨rfl, rfl⟩
  · rename_i h0 h
    rw [show shr m n = (0, -n) from (if_neg h0).trans (if_pos h)]; exact ⟨rfl, rfl⟩
  · rename_i h0 h1 h
    rw [show shr m n = (-n, 0) from (if_neg h0).trans ((if_neg h1).trans (if_pos h))]; exact ⟨rfl, rfl⟩
  · rename_i h0 h1 h
    rw [show shr m n = (0, n) from (if_neg h0).trans ((if_neg h1).trans (if_neg h))]; exact ⟨rfl, rfl⟩
abbrev pGood (r v : Int) (xs : List SpkD) (p : PlaceD) : Prop := opErr r v xs p = 0
theorem good_of {r v : Int} {xs : List SpkD} {p : PlaceD} (h : pGood r v xs p) : goodArr r v xs ∧ inP p ∧ (∀ i, i < xs.length → 100 ≤ sqP (spkN xs i).1 p) ∧ ∀ i, i < xs.length → goodRay (rayOf r v p (spkN xs i)) := by
  unfold pGood opErr at h
  split at h
  · rename_i h1
    have ha := arr_of h1
    have hs := seat_of h
    have hf : ∀ i, i < xs.length → 100 ≤ sqP (spkN xs i).1 p := fun i hi => far_of (ha.sp i hi).1 hs.1 (hs.2 i hi)
    exact ⟨ha, hs.1, hf, fun i hi => rayOf_good ha.snd (ha.sp i hi) hs.1 (hf i hi)⟩
  · rename_i h1; exact absurd h h1
def raysA (r v : Int) (xs : List SpkD) (p : PlaceD) : List RayD := raysT r v xs p xs.length
theorem raysA_len {r v : Int} {xs : List SpkD} {p : PlaceD} : (raysA r v xs p).length = xs.length := tab_len _ _
theorem raysA_get {r v : Int} {xs : List SpkD} {p : PlaceD} {i : Nat} (hi : i < xs.length) : rayN (raysA r v xs p) i = rayOf r v p (spkN xs i) := tab_get _ _ _ _ hi
theorem raysA_good {r v : Int} {xs : List SpkD} {p : PlaceD} (h : pGood r v xs p) : xs.length ≤ 8 ∧ ∀ i, i < xs.length → goodRay (rayN (raysA r v xs p) i) := by
  obtain ⟨h1, h2, h3, h4⟩ := good_of h
  exact ⟨h1.le, fun i hi => by rw [raysA_get hi]; exact h4 i hi⟩
@[reducible] def sPresR : Spec := { pats := [.dat ArrT, .dat PlaceT], res := [{ t := I64 }, { t := I64 }], pre := fun x => pGood x.1.1 x.1.2.1 x.1.2.2.1 x.2.1, f := fun x => (reT (raysA x.1.1 x.1.2.1 x.1.2.2.1 x.2.1) (List.length (α := SpkD) x.1.2.2.1), imT (raysA x.1.1 x.1.2.1 x.1.2.2.1 x.2.1) (List.length (α := SpkD) x.1.2.2.1), ()) }
def prRAnn (L : List RayD) (n : Nat) : LoopAnn := { σ := Nat, pat := fun k => [sI 8 k, sI 6 (reT L k), sI 7 (imT L k)], inv := fun k => k ≤ n, meas := fun k => n - k }
theorem h58 : Ok 58 sPresR := by
  refine mk (ctr := [(20, sStrR), (23, sNumsR), (91, sSoundOf), (120, sTurn)]) ⟨h20, h23, h91, h120, trivial⟩ (nt := 54) Tryz.func58 rfl rfl rfl rfl (by kernel_rfl) (by kernel_rfl) (fun x => [fun _ => prRAnn (raysA x.1.1 x.1.2.1 x.1.2.2.1 x.2.1) (List.length (α := SpkD) x.1.2.2.1)]) ?_
  rintro ⟨⟨(r : Int), (v : Int), (xs : List SpkD), ⟨⟩⟩, ⟨(pa : Int), (pb : Int), (pc : Int), ⟨⟩⟩, ⟨⟩⟩ (hp : pGood r v xs (pa, pb, pc, ()))
  obtain ⟨g1, g2, g3, g4⟩ := good_of hp
  obtain ⟨hl, hg⟩ := raysA_good hp
  have hb := fun (k : Nat) (hk : k ≤ xs.length) => reT_bd (L := raysA r v xs (pa, pb, pc, ())) (k := k) (fun i hi => hg i (by omega)) (by omega)
  have hR : ∀ k, k < xs.length → reT (raysA r v xs (pa, pb, pc, ())) (k + 1) = reT (raysA r v xs (pa, pb, pc, ())) k + (giv (rayOf r v (pa, pb, pc, ()) (spkN xs k))).1 := fun k hk => by
    rw [← raysA_get hk]; rfl
  have hI : ∀ k, k < xs.length → imT (raysA r v xs (pa, pb, pc, ())) (k + 1) = imT (raysA r v xs (pa, pb, pc, ())) k + (giv (rayOf r v (pa, pb, pc, ()) (spkN xs k))).2 := fun k hk => by
    rw [← raysA_get hk]; rfl
  have hb2 := fun (k : Nat) (hk : k < xs.length) => hb (k + 1) (by omega)
  clear hp
  repeat' (intro hzz; (try (rename Two => hq; cases hq)); (try dsimp only at hzz); (try simp only [resTy, argTy, eqD, inR, big, wantOf, zB] at hzz); (try simp only [resTy, argTy, eqD, inR, big, wantOf, zB, Int.toNat_natCast] at hzz); (try (revert hzz; intro _)))
  all_goals try (rename Unit => hq; clear hq)
  all_goals try ((with_reducible refine Held.mk ?_); (with_reducible (first | refine Frz.mk ?_ | refine And.intro (Frz.mk ?_) ?_ | refine And.intro ?_ (Frz.mk ?_))); repeat' first | exact True.intro | (change _ = _; with_reducible rfl) | refine And.intro ?_ ?_ | (with_reducible refine Frz.mk ?_))
  all_goals try (refine Held.mk ?_; (try dsimp only at *); (try simp only [resTy, argTy, eqD, inR, big, wantOf, zB] at *); (try simp only [resTy, argTy, eqD, inR, big, wantOf, zB, Int.toNat_natCast] at *))
  all_goals try omega
  · 
    refine GHeld.mk ?_
    refine Exists.intro (0 : Nat) ?_
    refine And.intro (Leaf.mk ?_) ?_
    · repeat' first | exact True.intro | refine And.intro ?_ ?_
      all_goals try ((change _ = _ <;> try dsimp only) <;> try with_reducible rfl)
      all_goals try omega
      all_goals (rfl)
    exact Nat.zero_le _
  · rename_i k hk hlt
    exact ⟨⟨(g1.sp k (by omega)).1, g2⟩, g3 k (by omega)⟩
  · rename_i k hk hlt
    have := mul_le (g4 k (by omega)).g (g4 k (by omega)).s
    exact ⟨Int.le_trans (by decide) this.1, Int.le_trans this.2 (by decide)⟩
  · rename_i k hk hlt
    exact ⟨⟨(g1.sp k (by omega)).1, g2⟩, g1.snd⟩
  · rename_i k hk hlt
    have q1 := (g4 k (by omega)).n
    have q2 := (g4 k (by omega)).d
    exact ⟨Int.le_trans (by decide) (Int.add_nonneg q1.1 q2.1), Int.le_trans (Int.add_le_add q1.2 q2.2) (by decide)⟩
  · rename_i k hk hlt
    have q1 := (g4 k (by omega)).n
    have q2 := (g4 k (by omega)).d
    have := mul_le (g4 k (by omega)).g (g4 k (by omega)).s
    exact ⟨⟨Int.le_trans (by decide) this.1, Int.le_trans this.2 (by decide)⟩, Int.le_trans (by decide) (Int.add_nonneg q1.1 q2.1), Int.le_trans (Int.add_le_add q1.2 q2.2) (by decide)⟩
  · rename_i k hk hlt
    have := (hb2 k (by omega)).1
    rw [hR k (by omega)] at this
    exact ⟨Int.le_trans (by decide) this.1, Int.le_trans this.2 (by decide)⟩
  · rename_i k hk hlt
    have := (hb2 k (by omega)).2
    rw [hI k (by omega)] at this
    exact ⟨Int.le_trans (by decide) this.1, Int.le_trans this.2 (by decide)⟩
  · rename_i k hk hlt
    have q1 := hR k (by omega)
    have q2 := hI k (by omega)
    refine GHeld.mk ?_
    refine Exists.intro (k + 1) ?_
    refine And.intro (Leaf.mk ?_) ?_
    · repeat' first | exact True.intro | refine And.intro ?_ ?_
      all_goals try ((change _ = _ <;> try dsimp only) <;> try with_reducible rfl)
      all_goals try omega
      all_goals (first | rfl | exact q1 | exact q2 | exact q1.symm | exact q2.symm)
    exact ⟨by show k + 1 ≤ xs.length; omega, by show xs.length - (k + 1) < xs.length - k; omega⟩
  · rename_i k hk hlt
    rw [show k = xs.length by omega]; exact ⟨rfl, rfl⟩
theorem gs_bd {x : RayD} (h : goodRay x) : (0 ≤ (x.1.2.1 * x.2.1.1 : Int) ∧ (x.1.2.1 * x.2.1.1 : Int) ≤ 100000000) ∧ (0 ≤ (x.1.2.1 * x.2.1.1 * x.1.2.1 : Int) ∧ (x.1.2.1 * x.2.1.1 * x.1.2.1 : Int) ≤ 100000000000) ∧ (0 ≤ (x.1.2.1 * x.2.1.1 * x.1.2.1 * x.2.1.1 : Int) ∧ (x.1.2.1 * x.2.1.1 * x.1.2.1 * x.2.1.1 : Int) ≤ 10000000000000000) := by
  have h1 := mul_le h.g h.s
  have h2 := mul_le h1 h.g
  have h3 := mul_le h2 h.s
  exact ⟨h1, h2, h3⟩
theorem gu_bd {x : RayD} (h : goodRay x) : (0 ≤ (x.1.2.1 * x.2.1.2.1 : Int) ∧ (x.1.2.1 * x.2.1.2.1 : Int) ≤ 100000000) ∧ (0 ≤ (x.1.2.1 * x.2.1.2.1 * x.1.2.1 : Int) ∧ (x.1.2.1 * x.2.1.2.1 * x.1.2.1 : Int) ≤ 100000000000) ∧ (0 ≤ (x.1.2.1 * x.2.1.2.1 * x.1.2.1 * x.2.1.2.1 : Int) ∧ (x.1.2.1 * x.2.1.2.1 * x.1.2.1 * x.2.1.2.1 : Int) ≤ 10000000000000000) := by
  have hs : 0 ≤ (x.2.1.2.1 : Int) ∧ (x.2.1.2.1 : Int) ≤ 100000 := ⟨Int.le_trans h.s.1 h.su.1, h.su.2⟩
  have h1 := mul_le h.g hs
  have h2 := mul_le h1 h.g
  have h3 := mul_le h2 hs
  exact ⟨h1, h2, h3⟩
@[reducible] def sEnrR : Spec := { pats := [.dat ArrT, .dat PlaceT], res := [{ t := RangeT }], pre := fun x => pGood x.1.1 x.1.2.1 x.1.2.2.1 x.2.1, f := fun x => ((n0 (raysA x.1.1 x.1.2.1 x.1.2.2.1 x.2.1) (List.length (α := SpkD) x.1.2.2.1), n1 (raysA x.1.1 x.1.2.1 x.1.2.2.1 x.2.1) (List.length (α := SpkD) x.1.2.2.1), ()), ()) }
def nrRAnn (L : List RayD) (n : Nat) : LoopAnn := { σ := Nat, pat := fun k => [sI 6 k, cI 5 0 (n0 L k), cI 5 1 (n1 L k)], inv := fun k => k ≤ n, meas := fun k => n - k }
theorem h61 : Ok 61 sEnrR := by
  refine mk (ctr := [(20, sStrR)]) ⟨h20, trivial⟩ (nt := 55) Tryz.func61 rfl rfl rfl rfl (by kernel_rfl) (by kernel_rfl) (fun x => [fun _ => nrRAnn (raysA x.1.1 x.1.2.1 x.1.2.2.1 x.2.1) (List.length (α := SpkD) x.1.2.2.1)]) ?_
  rintro ⟨⟨(r : Int), (v : Int), (xs : List SpkD), ⟨⟩⟩, ⟨(pa : Int), (pb : Int), (pc : Int), ⟨⟩⟩, ⟨⟩⟩ (hp : pGood r v xs (pa, pb, pc, ()))
  obtain ⟨g1, g2, g3, g4⟩ := good_of hp
  obtain ⟨hl, hg⟩ := raysA_good hp
  have hb := fun (k : Nat) (hk : k ≤ xs.length) => ng_bd (L := raysA r v xs (pa, pb, pc, ())) (k := k) (fun i hi => hg i (by omega)) (by omega)
  have hR : ∀ k, k < xs.length → n0 (raysA r v xs (pa, pb, pc, ())) (k + 1) = n0 (raysA r v xs (pa, pb, pc, ())) k + (spkN xs k).2.1 * stL (spkN xs k).1 (pa, pb, pc, ()) * (spkN xs k).2.1 * stL (spkN xs k).1 (pa, pb, pc, ()) := fun k hk => by
    show _ + gL (rayN _ k) * gL (rayN _ k) = _
    rw [raysA_get hk, Int.mul_assoc (_ * _)]; rfl
  have hI : ∀ k, k < xs.length → n1 (raysA r v xs (pa, pb, pc, ())) (k + 1) = n1 (raysA r v xs (pa, pb, pc, ())) k + (spkN xs k).2.1 * stU (spkN xs k).1 (pa, pb, pc, ()) * (spkN xs k).2.1 * stU (spkN xs k).1 (pa, pb, pc, ()) := fun k hk => by
    show _ + gU (rayN _ k) * gU (rayN _ k) = _
    rw [raysA_get hk, Int.mul_assoc (_ * _)]; rfl
  have hb2 := fun (k : Nat) (hk : k < xs.length) => hb (k + 1) (by omega)
  clear hp
  repeat' (intro hzz; (try (rename Two => hq; cases hq)); (try dsimp only at hzz); (try simp only [resTy, argTy, eqD, inR, big, wantOf, zB] at hzz); (try simp only [resTy, argTy, eqD, inR, big, wantOf, zB, Int.toNat_natCast] at hzz); (try (revert hzz; intro _)))
  all_goals try (rename Unit => hq; clear hq)
  all_goals try ((with_reducible refine Held.mk ?_); (with_reducible (first | refine Frz.mk ?_ | refine And.intro (Frz.mk ?_) ?_ | refine And.intro ?_ (Frz.mk ?_))); repeat' first | exact True.intro | (change _ = _; with_reducible rfl) | refine And.intro ?_ ?_ | (with_reducible refine Frz.mk ?_))
  all_goals try (refine Held.mk ?_; (try dsimp only at *); (try simp only [resTy, argTy, eqD, inR, big, wantOf, zB] at *); (try simp only [resTy, argTy, eqD, inR, big, wantOf, zB, Int.toNat_natCast] at *))
  all_goals try omega
  · 
    refine GHeld.mk ?_
    refine Exists.intro (0 : Nat) ?_
    refine And.intro (Leaf.mk ?_) ?_
    · repeat' first | exact True.intro | refine And.intro ?_ ?_
      all_goals try ((change _ = _ <;> try dsimp only) <;> try with_reducible rfl)
      all_goals try omega
      all_goals (rfl)
    exact Nat.zero_le _
  · rename_i k hk hlt
    exact ⟨⟨(g1.sp k (by omega)).1, g2⟩, g3 k (by omega)⟩
  · rename_i k hk hlt
    have := gs_bd (g4 k (by omega))
    exact ⟨Int.le_trans (by decide) this.1.1, Int.le_trans this.1.2 (by decide)⟩
  · rename_i k hk hlt
    have := gs_bd (g4 k (by omega))
    exact ⟨Int.le_trans (by decide) this.2.1.1, Int.le_trans this.2.1.2 (by decide)⟩
  · rename_i k hk hlt
    have := gs_bd (g4 k (by omega))
    exact ⟨Int.le_trans (by decide) this.2.2.1, Int.le_trans this.2.2.2 (by decide)⟩
  · rename_i k hk hlt
    have := (hb2 k (by omega)).1
    rw [hR k (by omega)] at this
    exact ⟨Int.le_trans (by decide) this.1, Int.le_trans this.2 (by decide)⟩
  · rename_i k hk hlt
    have := gu_bd (g4 k (by omega))
    exact ⟨Int.le_trans (by decide) this.1.1, Int.le_trans this.1.2 (by decide)⟩
  · rename_i k hk hlt
    have := gu_bd (g4 k (by omega))
    exact ⟨Int.le_trans (by decide) this.2.1.1, Int.le_trans this.2.1.2 (by decide)⟩
  · rename_i k hk hlt
    have := gu_bd (g4 k (by omega))
    exact ⟨Int.le_trans (by decide) this.2.2.1, Int.le_trans this.2.2.2 (by decide)⟩
  · rename_i k hk hlt
    have := (hb2 k (by omega)).2
    rw [hI k (by omega)] at this
    exact ⟨Int.le_trans (by decide) this.1, Int.le_trans this.2 (by decide)⟩
  · rename_i k hk hlt
    have q1 := hR k (by omega)
    have q2 := hI k (by omega)
    refine GHeld.mk ?_
    refine Exists.intro (k + 1) ?_
    refine And.intro (Leaf.mk ?_) ?_
    · repeat' first | exact True.intro | refine And.intro ?_ ?_
      all_goals try ((change _ = _ <;> try dsimp only) <;> try with_reducible rfl)
      all_goals try omega
      all_goals (first | rfl | exact q1 | exact q2 | exact q1.symm | exact q2.symm)
    exact ⟨by show k + 1 ≤ xs.length; omega, by show xs.length - (k + 1) < xs.length - k; omega⟩
  · rename_i k hk hlt
    rw [show k = xs.length by omega]; exact ⟨rfl, rfl⟩
end Go.Eng.Ar

namespace Go.Eng.Ar
open Go.Eng Go.Proofs
set_option linter.all false
set_option maxRecDepth 100000
set_option maxHeartbeats 8000000
theorem sqs {lo hi : Int} (h : lo ≤ hi) : (lo ≤ 0 → 0 ≤ hi → lstI lo hi * lstI lo hi = 0 ∧ mstI lo hi * mstI lo hi = maxI (lo * lo) (hi * hi)) ∧ (¬ (lo ≤ 0 ∧ 0 ≤ hi) → lstI lo hi * lstI lo hi = minI (lo * lo) (hi * hi) ∧ mstI lo hi * mstI lo hi = maxI (lo * lo) (hi * hi)) := by
  have key : ∀ a b : Int, 0 ≤ a → a ≤ b → a * a ≤ b * b := fun a b h1 h2 => Int.mul_le_mul h2 h2 h1 (by omega)
  have hn : -lo * -lo = lo * lo := Int.neg_mul_neg lo lo
  have hn2 : -hi * -hi = hi * hi := Int.neg_mul_neg hi hi
  have mx : ∀ a b : Int, a ≤ b → maxI a b = b := fun a b h => by unfold maxI; split <;> omega
  have mx2 : ∀ a b : Int, b ≤ a → maxI a b = a := fun a b h => by unfold maxI; split <;> omega
  have mn : ∀ a b : Int, a ≤ b → minI a b = a := fun a b h => by unfold minI; split <;> omega
  have mn2 : ∀ a b : Int, b ≤ a → minI a b = b := fun a b h => by unfold minI; split <;> omega
  refine ⟨fun h1 h2 => ?_, fun h1 => ?_⟩
  · have e : lstI lo hi = 0 := by unfold lstI; rw [mx2 0 lo h1, mx2 0 (-hi) (by omega)]
    rw [e]
    refine ⟨rfl, ?_⟩
    rcases Int.le_total (-lo) hi with h3 | h3
    · have e2 : mstI lo hi = hi := mx2 _ _ h3
      have := key (-lo) hi (by omega) h3
      rw [e2, mx _ _ (by omega)]
    · have e2 : mstI lo hi = -lo := mx _ _ h3
      have := key hi (-lo) h2 h3
      rw [e2, mx2 _ _ (by omega), hn]
  · rcases Int.lt_or_le 0 lo with h3 | h3
    · have e : lstI lo hi = lo := by unfold lstI; rw [mx 0 lo (by omega), mx2 lo (-hi) (by omega)]
      have e2 : mstI lo hi = hi := mx2 _ _ (by omega)
      have := key lo hi (by omega) h
      rw [e, e2, mn _ _ this, mx _ _ this]; exact ⟨rfl, rfl⟩
    · have h4 : hi < 0 := by omega
      have e : lstI lo hi = -hi := by unfold lstI; rw [mx2 0 lo (by omega), mx 0 (-hi) (by omega)]
      have e2 : mstI lo hi = -lo := mx _ _ (by omega)
      have := key (-hi) (-lo) (by omega) (by omega)
      rw [hn, hn2] at this
      rw [e, e2, hn, hn2, mn2 _ _ this, mx2 _ _ this]; exact ⟨rfl, rfl⟩
abbrev pSqs (lo hi : Int) : Prop := -800000000 ≤ lo ∧ lo ≤ hi ∧ hi ≤ 800000000
@[reducible] def sSqs : Spec := { pats := [.dat RangeT], res := [{ t := I64 }, { t := I64 }], pre := fun x => pSqs x.1.1 x.1.2.1, f := fun x => (lstI x.1.1 x.1.2.1 * lstI x.1.1 x.1.2.1, mstI x.1.1 x.1.2.1 * mstI x.1.1 x.1.2.1, ()) }
theorem sq_bd3 {x B : Int} (h1 : -B ≤ x) (h2 : x ≤ B) : 0 ≤ x * x ∧ x * x ≤ B * B := by
  rcases Int.le_total 0 x with h | h
  · exact sq_le2 h h2
  · have := sq_le2 (x := -x) (B := B) (by omega) (by omega)
    rw [Int.neg_mul_neg] at this; exact this
theorem h121 : Ok 121 sSqs := by
  refine mk (ctr := []) trivial (nt := 33) Tryz.func121 rfl rfl rfl rfl (by kernel_rfl) (by kernel_rfl) (fun _ => []) ?_
  rintro ⟨⟨(lo : Int), (hi : Int), ⟨⟩⟩, ⟨⟩⟩ ⟨(h1 : -800000000 ≤ lo), (h2 : lo ≤ hi), (h3 : hi ≤ 800000000)⟩
  have q1 := sq_bd3 (x := lo) (B := 800000000) (by omega) (by omega)
  have q2 := sq_bd3 (x := hi) (B := 800000000) (by omega) (by omega)
  obtain ⟨s1, s2⟩ := sqs h2
  repeat' (intro hzz; (try (rename Two => hq; cases hq)); (try dsimp only at hzz); (try simp only [resTy, argTy, eqD, inR, big, wantOf, zB] at hzz); (try (revert hzz; intro _)))
  all_goals try (rename Unit => hq; clear hq)
  all_goals try ((with_reducible refine Held.mk ?_); (with_reducible (first | refine Frz.mk ?_ | refine And.intro (Frz.mk ?_) ?_ | refine And.intro ?_ (Frz.mk ?_))); repeat' first | exact True.intro | (change _ = _; with_reducible rfl) | refine And.intro ?_ ?_ | (with_reducible refine Frz.mk ?_))
  all_goals try (refine Held.mk ?_; (try dsimp only at *); (try simp only [resTy, argTy, eqD, inR, big, wantOf, zB] at *))
  all_goals try omega
  · rename_i g1 g2
    obtain ⟨e1, e2⟩ := s1 g1 g2
    exact ⟨e1.symm, e2.symm⟩
  · rename_i g1 g2
    obtain ⟨e1, e2⟩ := s2 (by omega)
    exact ⟨e1.symm, e2.symm⟩
  · rename_i g1
    obtain ⟨e1, e2⟩ := s2 (by omega)
    exact ⟨e1.symm, e2.symm⟩
abbrev cellR (x : RayD) (j : Nat) : List Fact := [cI 10 0 (mnS (rvR x) j), cI 10 1 (mxS (rvR x) j), cI 10 2 (mnS (rvI x) j), cI 10 3 (mxS (rvI x) j)]
def erAnn1 (L : List RayD) (n : Nat) : LoopAnn := { σ := Nat, pat := fun k => [sI 6 k, cI 5 0 (e0 L k), cI 5 1 (e1 L k), cI 5 2 (e2 L k), cI 5 3 (e3 L k)], inv := fun k => k ≤ n, meas := fun k => n - k }
def erAnn2 (x : RayD) : LoopAnn := { σ := Nat, pat := fun k => sI 11 (x.2.2.1.1 + (k : Int)) :: cellR x (2 * k), inv := fun k => k ≤ nEn x, meas := fun k => nEn x - k }
def erAnn3 (x : RayD) (n : Int) : LoopAnn := { σ := Nat, pat := fun s => sI 12 s :: cellR x (2 * (n - x.2.2.1.1).toNat + s), inv := fun s => s ≤ 2, meas := fun s => 2 - s }
theorem st_step {f : Nat → Int} {j : Nat} {v : Int} (hj : 0 < j) (h : f j = v) : minI (mnS f j) v = mnS f (j + 1) ∧ maxI (mxS f j) v = mxS f (j + 1) := by
  rw [mnS_s f hj, mxS_s f hj, h]; exact ⟨rfl, rfl⟩
theorem st_first {f : Nat → Int} {v : Int} (h : f 0 = v) : minI v v = mnS f 1 ∧ maxI v v = mxS f 1 := by
  rw [mnS_1, mxS_1, h, minI_self, maxI_self]; exact ⟨rfl, rfl⟩
theorem nEn_end {x : RayD} {k : Nat} (h1 : k ≤ nEn x) (h2 : (x.2.2.1.2.1 : Int) < (x.2.2.1.1 : Int) + (k : Int)) : k = nEn x := by
  have key : ∀ a b : Int, k ≤ (b - a + 1).toNat → b < a + (k : Int) → k = (b - a + 1).toNat := fun a b h1 h2 => by omega
  exact key _ _ h1 h2
@[reducible] def sEndR : Spec := { pats := [.dat ArrT, .dat PlaceT], res := [{ t := EndsT }], pre := fun x => pGood x.1.1 x.1.2.1 x.1.2.2.1 x.2.1, f := fun x => (endT (raysA x.1.1 x.1.2.1 x.1.2.2.1 x.2.1), ()) }
theorem h59 : Ok 59 sEndR := by
  refine mkX (X := xF4) (hX := xF4_ok) (ctr := [(20, sStrR), (23, sNumsR), (91, sSoundOf), (120, sTurn)]) ⟨h20, h23, h91, h120, trivial⟩ (nt := 137) Tryz.func59 rfl rfl rfl rfl (by kernel_rfl) (by kernel_rfl) (fun x => [fun _ => erAnn1 (raysA x.1.1 x.1.2.1 x.1.2.2.1 x.2.1) (List.length (α := SpkD) x.1.2.2.1), fun st => withI 6 st fun i => erAnn2 (rayOf x.1.1 x.1.2.1 x.2.1 (spkN x.1.2.2.1 i.toNat)), fun st => withI 6 st fun i => withI 11 st fun n => erAnn3 (rayOf x.1.1 x.1.2.1 x.2.1 (spkN x.1.2.2.1 i.toNat)) n]) ?_
  rintro ⟨⟨(r : Int), (v : Int), (xs : List SpkD), ⟨⟩⟩, ⟨(pa : Int), (pb : Int), (pc : Int), ⟨⟩⟩, ⟨⟩⟩ (hp : pGood r v xs (pa, pb, pc, ()))
  obtain ⟨g1, g2, g3, g4⟩ := good_of hp
  obtain ⟨hl, hg⟩ := raysA_good hp
  have hb := fun (k : Nat) (hk : k ≤ xs.length) => en_bd (L := raysA r v xs (pa, pb, pc, ())) (k := k) (fun i hi => hg i (by omega)) (by omega)
  have hE0 : ∀ i, i < xs.length → e0 (raysA r v xs (pa, pb, pc, ())) (i + 1) = e0 (raysA r v xs (pa, pb, pc, ())) i + mnS (rvR (rayOf r v (pa, pb, pc, ()) (spkN xs i))) (2 * nEn (rayOf r v (pa, pb, pc, ()) (spkN xs i))) := fun i hi => by rw [← raysA_get hi]; rfl
  have hE1 : ∀ i, i < xs.length → e1 (raysA r v xs (pa, pb, pc, ())) (i + 1) = e1 (raysA r v xs (pa, pb, pc, ())) i + mxS (rvR (rayOf r v (pa, pb, pc, ()) (spkN xs i))) (2 * nEn (rayOf r v (pa, pb, pc, ()) (spkN xs i))) := fun i hi => by rw [← raysA_get hi]; rfl
  have hE2 : ∀ i, i < xs.length → e2 (raysA r v xs (pa, pb, pc, ())) (i + 1) = e2 (raysA r v xs (pa, pb, pc, ())) i + mnS (rvI (rayOf r v (pa, pb, pc, ()) (spkN xs i))) (2 * nEn (rayOf r v (pa, pb, pc, ()) (spkN xs i))) := fun i hi => by rw [← raysA_get hi]; rfl
  have hE3 : ∀ i, i < xs.length → e3 (raysA r v xs (pa, pb, pc, ())) (i + 1) = e3 (raysA r v xs (pa, pb, pc, ())) i + mxS (rvI (rayOf r v (pa, pb, pc, ()) (spkN xs i))) (2 * nEn (rayOf r v (pa, pb, pc, ()) (spkN xs i))) := fun i hi => by rw [← raysA_get hi]; rfl
  clear hp
  repeat' (intro hzz; (try (rename Two => hq; cases hq)); (try dsimp only at hzz); (try simp only [resTy, argTy, eqD, inR, big, wantOf, zB] at hzz); (try simp only [resTy, argTy, eqD, inR, big, wantOf, zB, Int.toNat_natCast] at hzz); (try (revert hzz; intro _)))
  all_goals try (rename Unit => hq; clear hq)
  all_goals try ((with_reducible refine Held.mk ?_); (with_reducible (first | refine Frz.mk ?_ | refine And.intro (Frz.mk ?_) ?_ | refine And.intro ?_ (Frz.mk ?_))); repeat' first | exact True.intro | (change _ = _; with_reducible rfl) | refine And.intro ?_ ?_ | (with_reducible refine Frz.mk ?_))
  all_goals try (refine Held.mk ?_; (try dsimp only at *); (try simp only [resTy, argTy, eqD, inR, big, wantOf, zB] at *); (try simp only [resTy, argTy, eqD, inR, big, wantOf, zB, Int.toNat_natCast] at *))
  all_goals try omega
  · 
    refine GHeld.mk ?_
    refine Exists.intro (0 : Nat) ?_
    refine And.intro (Leaf.mk ?_) ?_
    · repeat' first | exact True.intro | refine And.intro ?_ ?_
      all_goals try ((change _ = _ <;> try dsimp only) <;> try with_reducible rfl)
      all_goals try omega
      all_goals (rfl)
    exact Nat.zero_le _
  · rename_i k hk hlt
    exact ⟨⟨(g1.sp k (by omega)).1, g2⟩, g3 k (by omega)⟩
  · rename_i k hk hlt
    exact ⟨⟨(g1.sp k (by omega)).1, g2⟩, g1.snd⟩
  · rename_i k hk hlt
    refine GHeld.mk ?_
    refine Exists.intro (0 : Nat) ?_
    refine And.intro (Leaf.mk ?_) ?_
    · repeat' first | exact True.intro | refine And.intro ?_ ?_
      all_goals try ((change _ = _ <;> try dsimp only) <;> try with_reducible rfl)
      all_goals try omega
      all_goals (first | exact (Int.add_zero _).symm | exact Int.add_zero _ | exact (mnS_0 _) | exact (mxS_0 _) | exact (mnS_0 _).symm | exact (mxS_0 _).symm | rfl)
    exact Nat.zero_le _
  · rename_i i hi hlt k hk hle
    have hx := g4 i (by omega)
    obtain ⟨A, hA⟩ : ∃ A, nuL (spkN xs i).1 (pa, pb, pc, ()) (r, v, ()) = A := ⟨_, rfl⟩
    obtain ⟨B, hB⟩ : ∃ B, nuU (spkN xs i).1 (pa, pb, pc, ()) (r, v, ()) = B := ⟨_, rfl⟩
    have hn1 : 0 ≤ A ∧ A ≤ 1000000000 := hA ▸ hx.n
    have hn2 : A ≤ B ∧ B ≤ 1000000000 := hA ▸ hB ▸ hx.nu
    obtain ⟨D, hD⟩ : ∃ D : Int, (spkN xs i).2.2.1 = D := ⟨_, rfl⟩
    have hd : 0 ≤ D ∧ D ≤ 10000 := hD ▸ hx.d
    have hm1 := mul_le hx.g hx.s
    have hm2 := mul_le hx.g (show 0 ≤ (stU (spkN xs i).1 (pa, pb, pc, ()) : Int) ∧ stU (spkN xs i).1 (pa, pb, pc, ()) ≤ 100000 from ⟨Int.le_trans hx.s.1 hx.su.1, hx.su.2⟩)
    have hN : nEn (rayOf r v (pa, pb, pc, ()) (spkN xs i)) = (B - A + 1).toNat := by subst hA hB; rfl
    have hle : A + (k : Int) ≤ B := by subst hA hB; exact hle
    rw [hN] at hk
    have hJ : 2 * (A + (k : Int) - A).toNat = 2 * k := by omega
    have e : 2 * ((rayOf r v (pa, pb, pc, ()) (spkN xs i)).2.2.1.1 + (k : Int) - (rayOf r v (pa, pb, pc, ()) (spkN xs i)).2.2.1.1).toNat + 0 = 2 * k := by subst hA; exact hJ
    have c1 := (congrArg (mnS (rvR (rayOf r v (pa, pb, pc, ()) (spkN xs i)))) e).symm
    have c2 := (congrArg (mxS (rvR (rayOf r v (pa, pb, pc, ()) (spkN xs i)))) e).symm
    have c3 := (congrArg (mnS (rvI (rayOf r v (pa, pb, pc, ()) (spkN xs i)))) e).symm
    have c4 := (congrArg (mxS (rvI (rayOf r v (pa, pb, pc, ()) (spkN xs i)))) e).symm
    refine GHeld.mk ?_
    refine Exists.intro (0 : Nat) ?_
    refine And.intro (Leaf.mk ?_) ?_
    · repeat' first | exact True.intro | refine And.intro ?_ ?_
      all_goals try ((change _ = _ <;> try dsimp only) <;> try with_reducible rfl)
      all_goals try omega
      all_goals (first | rfl | exact c1 | exact c2 | exact c3 | exact c4)
    exact Nat.zero_le _
  · rename_i i hi hlt k hk hle s hs hs2
    have hx := g4 i (by omega)
    obtain ⟨A, hA⟩ : ∃ A, nuL (spkN xs i).1 (pa, pb, pc, ()) (r, v, ()) = A := ⟨_, rfl⟩
    obtain ⟨B, hB⟩ : ∃ B, nuU (spkN xs i).1 (pa, pb, pc, ()) (r, v, ()) = B := ⟨_, rfl⟩
    have hn1 : 0 ≤ A ∧ A ≤ 1000000000 := hA ▸ hx.n
    have hn2 : A ≤ B ∧ B ≤ 1000000000 := hA ▸ hB ▸ hx.nu
    obtain ⟨D, hD⟩ : ∃ D : Int, (spkN xs i).2.2.1 = D := ⟨_, rfl⟩
    have hd : 0 ≤ D ∧ D ≤ 10000 := hD ▸ hx.d
    have hm1 := mul_le hx.g hx.s
    have hm2 := mul_le hx.g (show 0 ≤ (stU (spkN xs i).1 (pa, pb, pc, ()) : Int) ∧ stU (spkN xs i).1 (pa, pb, pc, ()) ≤ 100000 from ⟨Int.le_trans hx.s.1 hx.su.1, hx.su.2⟩)
    have hN : nEn (rayOf r v (pa, pb, pc, ()) (spkN xs i)) = (B - A + 1).toNat := by subst hA hB; rfl
    exact ⟨Int.le_trans (by decide) hm1.1, Int.le_trans hm1.2 (by decide)⟩
  · rename_i i hi hlt k hk hle s hs hs2 h1
    have hx := g4 i (by omega)
    obtain ⟨A, hA⟩ : ∃ A, nuL (spkN xs i).1 (pa, pb, pc, ()) (r, v, ()) = A := ⟨_, rfl⟩
    obtain ⟨B, hB⟩ : ∃ B, nuU (spkN xs i).1 (pa, pb, pc, ()) (r, v, ()) = B := ⟨_, rfl⟩
    have hn1 : 0 ≤ A ∧ A ≤ 1000000000 := hA ▸ hx.n
    have hn2 : A ≤ B ∧ B ≤ 1000000000 := hA ▸ hB ▸ hx.nu
    obtain ⟨D, hD⟩ : ∃ D : Int, (spkN xs i).2.2.1 = D := ⟨_, rfl⟩
    have hd : 0 ≤ D ∧ D ≤ 10000 := hD ▸ hx.d
    have hm1 := mul_le hx.g hx.s
    have hm2 := mul_le hx.g (show 0 ≤ (stU (spkN xs i).1 (pa, pb, pc, ()) : Int) ∧ stU (spkN xs i).1 (pa, pb, pc, ()) ≤ 100000 from ⟨Int.le_trans hx.s.1 hx.su.1, hx.su.2⟩)
    have hN : nEn (rayOf r v (pa, pb, pc, ()) (spkN xs i)) = (B - A + 1).toNat := by subst hA hB; rfl
    exact ⟨Int.le_trans (by decide) hm2.1, Int.le_trans hm2.2 (by decide)⟩
  · rename_i i hi hlt k hk hle s hs hs2 h1
    have hx := g4 i (by omega)
    obtain ⟨A, hA⟩ : ∃ A, nuL (spkN xs i).1 (pa, pb, pc, ()) (r, v, ()) = A := ⟨_, rfl⟩
    obtain ⟨B, hB⟩ : ∃ B, nuU (spkN xs i).1 (pa, pb, pc, ()) (r, v, ()) = B := ⟨_, rfl⟩
    have hn1 : 0 ≤ A ∧ A ≤ 1000000000 := hA ▸ hx.n
    have hn2 : A ≤ B ∧ B ≤ 1000000000 := hA ▸ hB ▸ hx.nu
    obtain ⟨D, hD⟩ : ∃ D : Int, (spkN xs i).2.2.1 = D := ⟨_, rfl⟩
    have hd : 0 ≤ D ∧ D ≤ 10000 := hD ▸ hx.d
    have hm1 := mul_le hx.g hx.s
    have hm2 := mul_le hx.g (show 0 ≤ (stU (spkN xs i).1 (pa, pb, pc, ()) : Int) ∧ stU (spkN xs i).1 (pa, pb, pc, ()) ≤ 100000 from ⟨Int.le_trans hx.s.1 hx.su.1, hx.su.2⟩)
    have hN : nEn (rayOf r v (pa, pb, pc, ()) (spkN xs i)) = (B - A + 1).toNat := by subst hA hB; rfl
    have hle : A + (k : Int) ≤ B := by subst hA hB; exact hle
    rw [hN] at hk
    have hJ : 2 * (A + (k : Int) - A).toNat = 2 * k := by omega
    have : R64 (A + (k : Int) + D) := by constructor <;> omega
    subst hA hD; exact this
  · rename_i i hi hlt k hk hle s hs hs2 h1
    have hx := g4 i (by omega)
    obtain ⟨A, hA⟩ : ∃ A, nuL (spkN xs i).1 (pa, pb, pc, ()) (r, v, ()) = A := ⟨_, rfl⟩
    obtain ⟨B, hB⟩ : ∃ B, nuU (spkN xs i).1 (pa, pb, pc, ()) (r, v, ()) = B := ⟨_, rfl⟩
    have hn1 : 0 ≤ A ∧ A ≤ 1000000000 := hA ▸ hx.n
    have hn2 : A ≤ B ∧ B ≤ 1000000000 := hA ▸ hB ▸ hx.nu
    obtain ⟨D, hD⟩ : ∃ D : Int, (spkN xs i).2.2.1 = D := ⟨_, rfl⟩
    have hd : 0 ≤ D ∧ D ≤ 10000 := hD ▸ hx.d
    have hm1 := mul_le hx.g hx.s
    have hm2 := mul_le hx.g (show 0 ≤ (stU (spkN xs i).1 (pa, pb, pc, ()) : Int) ∧ stU (spkN xs i).1 (pa, pb, pc, ()) ≤ 100000 from ⟨Int.le_trans hx.s.1 hx.su.1, hx.su.2⟩)
    have hN : nEn (rayOf r v (pa, pb, pc, ()) (spkN xs i)) = (B - A + 1).toNat := by subst hA hB; rfl
    have hle : A + (k : Int) ≤ B := by subst hA hB; exact hle
    rw [hN] at hk
    have hJ : 2 * (A + (k : Int) - A).toNat = 2 * k := by omega
    have : -1000000000000000000 ≤ A + (k : Int) + D ∧ A + (k : Int) + D ≤ 1000000000000000000 := by constructor <;> omega
    refine ⟨⟨Int.le_trans (by decide) hm2.1, Int.le_trans hm2.2 (by decide)⟩, ?_⟩
    subst hA hD; exact this
  · rename_i i hi hlt k hk hle s hs hs2 h1 h2 h3
    have hx := g4 i (by omega)
    obtain ⟨A, hA⟩ : ∃ A, nuL (spkN xs i).1 (pa, pb, pc, ()) (r, v, ()) = A := ⟨_, rfl⟩
    obtain ⟨B, hB⟩ : ∃ B, nuU (spkN xs i).1 (pa, pb, pc, ()) (r, v, ()) = B := ⟨_, rfl⟩
    have hn1 : 0 ≤ A ∧ A ≤ 1000000000 := hA ▸ hx.n
    have hn2 : A ≤ B ∧ B ≤ 1000000000 := hA ▸ hB ▸ hx.nu
    obtain ⟨D, hD⟩ : ∃ D : Int, (spkN xs i).2.2.1 = D := ⟨_, rfl⟩
    have hd : 0 ≤ D ∧ D ≤ 10000 := hD ▸ hx.d
    have hm1 := mul_le hx.g hx.s
    have hm2 := mul_le hx.g (show 0 ≤ (stU (spkN xs i).1 (pa, pb, pc, ()) : Int) ∧ stU (spkN xs i).1 (pa, pb, pc, ()) ≤ 100000 from ⟨Int.le_trans hx.s.1 hx.su.1, hx.su.2⟩)
    have hN : nEn (rayOf r v (pa, pb, pc, ()) (spkN xs i)) = (B - A + 1).toNat := by subst hA hB; rfl
    have hle : A + (k : Int) ≤ B := by subst hA hB; exact hle
    rw [hN] at hk
    have hJ : 2 * (A + (k : Int) - A).toNat = 2 * k := by omega
    obtain rfl : s = 1 := by omega
    have z : rv (rayOf r v (pa, pb, pc, ()) (spkN xs i)) (2 * ((rayOf r v (pa, pb, pc, ()) (spkN xs i)).2.2.1.1 + (k : Int) - (rayOf r v (pa, pb, pc, ()) (spkN xs i)).2.2.1.1).toNat + 1) = _ := (congrArg (fun n => rv (rayOf r v (pa, pb, pc, ()) (spkN xs i)) (n + 1)) (show 2 * ((rayOf r v (pa, pb, pc, ()) (spkN xs i)).2.2.1.1 + (k : Int) - (rayOf r v (pa, pb, pc, ()) (spkN xs i)).2.2.1.1).toNat = 2 * k by subst hA; exact hJ)).trans (rv_1 (rayOf r v (pa, pb, pc, ()) (spkN xs i)) k)
    have hJ2 : 2 * ((rayOf r v (pa, pb, pc, ()) (spkN xs i)).2.2.1.1 + (k : Int) - (rayOf r v (pa, pb, pc, ()) (spkN xs i)).2.2.1.1).toNat = 2 * k := by subst hA; exact hJ
    have hj : 0 < 2 * ((rayOf r v (pa, pb, pc, ()) (spkN xs i)).2.2.1.1 + (k : Int) - (rayOf r v (pa, pb, pc, ()) (spkN xs i)).2.2.1.1).toNat + 1 := by rw [hJ2]; omega
    have a1 := st_step (f := rvR (rayOf r v (pa, pb, pc, ()) (spkN xs i))) hj (congrArg Prod.fst z)
    have a2 := st_step (f := rvI (rayOf r v (pa, pb, pc, ()) (spkN xs i))) hj (congrArg Prod.snd z)
    refine GHeld.mk ?_
    refine Exists.intro (1 + 1 : Nat) ?_
    refine And.intro (Leaf.mk ?_) ?_
    · repeat' first | exact True.intro | refine And.intro ?_ ?_
      all_goals try ((change _ = _ <;> try dsimp only) <;> try with_reducible rfl)
      all_goals try omega
      all_goals (first | rfl | exact a1.1 | exact a1.2 | exact a2.1 | exact a2.2)
    exact ⟨by decide, by decide⟩
  · rename_i i hi hlt k hk hle s hs hs2 h1 h2
    have hx := g4 i (by omega)
    obtain ⟨A, hA⟩ : ∃ A, nuL (spkN xs i).1 (pa, pb, pc, ()) (r, v, ()) = A := ⟨_, rfl⟩
    obtain ⟨B, hB⟩ : ∃ B, nuU (spkN xs i).1 (pa, pb, pc, ()) (r, v, ()) = B := ⟨_, rfl⟩
    have hn1 : 0 ≤ A ∧ A ≤ 1000000000 := hA ▸ hx.n
    have hn2 : A ≤ B ∧ B ≤ 1000000000 := hA ▸ hB ▸ hx.nu
    obtain ⟨D, hD⟩ : ∃ D : Int, (spkN xs i).2.2.1 = D := ⟨_, rfl⟩
    have hd : 0 ≤ D ∧ D ≤ 10000 := hD ▸ hx.d
    have hm1 := mul_le hx.g hx.s
    have hm2 := mul_le hx.g (show 0 ≤ (stU (spkN xs i).1 (pa, pb, pc, ()) : Int) ∧ stU (spkN xs i).1 (pa, pb, pc, ()) ≤ 100000 from ⟨Int.le_trans hx.s.1 hx.su.1, hx.su.2⟩)
    have hN : nEn (rayOf r v (pa, pb, pc, ()) (spkN xs i)) = (B - A + 1).toNat := by subst hA hB; rfl
    have hle : A + (k : Int) ≤ B := by subst hA hB; exact hle
    rw [hN] at hk
    have hJ : 2 * (A + (k : Int) - A).toNat = 2 * k := by omega
    obtain rfl : s = 1 := by omega
    have z : rv (rayOf r v (pa, pb, pc, ()) (spkN xs i)) (2 * ((rayOf r v (pa, pb, pc, ()) (spkN xs i)).2.2.1.1 + (k : Int) - (rayOf r v (pa, pb, pc, ()) (spkN xs i)).2.2.1.1).toNat + 1) = _ := (congrArg (fun n => rv (rayOf r v (pa, pb, pc, ()) (spkN xs i)) (n + 1)) (show 2 * ((rayOf r v (pa, pb, pc, ()) (spkN xs i)).2.2.1.1 + (k : Int) - (rayOf r v (pa, pb, pc, ()) (spkN xs i)).2.2.1.1).toNat = 2 * k by subst hA; exact hJ)).trans (rv_1 (rayOf r v (pa, pb, pc, ()) (spkN xs i)) k)
    have hJ2 : 2 * ((rayOf r v (pa, pb, pc, ()) (spkN xs i)).2.2.1.1 + (k : Int) - (rayOf r v (pa, pb, pc, ()) (spkN xs i)).2.2.1.1).toNat = 2 * k := by subst hA; exact hJ
    have hj : 0 < 2 * ((rayOf r v (pa, pb, pc, ()) (spkN xs i)).2.2.1.1 + (k : Int) - (rayOf r v (pa, pb, pc, ()) (spkN xs i)).2.2.1.1).toNat + 1 := by rw [hJ2]; omega
    have a1 := st_step (f := rvR (rayOf r v (pa, pb, pc, ()) (spkN xs i))) hj (congrArg Prod.fst z)
    have a2 := st_step (f := rvI (rayOf r v (pa, pb, pc, ()) (spkN xs i))) hj (congrArg Prod.snd z)
    refine GHeld.mk ?_
    refine Exists.intro (1 + 1 : Nat) ?_
    refine And.intro (Leaf.mk ?_) ?_
    · repeat' first | exact True.intro | refine And.intro ?_ ?_
      all_goals try ((change _ = _ <;> try dsimp only) <;> try with_reducible rfl)
      all_goals try omega
      all_goals (first | rfl | exact a1.1 | exact a1.2 | exact a2.1 | exact a2.2)
    exact ⟨by decide, by decide⟩
  · rename_i i hi hlt k hk hle s hs hs2 h1
    have hx := g4 i (by omega)
    obtain ⟨A, hA⟩ : ∃ A, nuL (spkN xs i).1 (pa, pb, pc, ()) (r, v, ()) = A := ⟨_, rfl⟩
    obtain ⟨B, hB⟩ : ∃ B, nuU (spkN xs i).1 (pa, pb, pc, ()) (r, v, ()) = B := ⟨_, rfl⟩
    have hn1 : 0 ≤ A ∧ A ≤ 1000000000 := hA ▸ hx.n
    have hn2 : A ≤ B ∧ B ≤ 1000000000 := hA ▸ hB ▸ hx.nu
    obtain ⟨D, hD⟩ : ∃ D : Int, (spkN xs i).2.2.1 = D := ⟨_, rfl⟩
    have hd : 0 ≤ D ∧ D ≤ 10000 := hD ▸ hx.d
    have hm1 := mul_le hx.g hx.s
    have hm2 := mul_le hx.g (show 0 ≤ (stU (spkN xs i).1 (pa, pb, pc, ()) : Int) ∧ stU (spkN xs i).1 (pa, pb, pc, ()) ≤ 100000 from ⟨Int.le_trans hx.s.1 hx.su.1, hx.su.2⟩)
    have hN : nEn (rayOf r v (pa, pb, pc, ()) (spkN xs i)) = (B - A + 1).toNat := by subst hA hB; rfl
    have hle : A + (k : Int) ≤ B := by subst hA hB; exact hle
    rw [hN] at hk
    have hJ : 2 * (A + (k : Int) - A).toNat = 2 * k := by omega
    have : R64 (A + (k : Int) + D) := by constructor <;> omega
    subst hA hD; exact this
  · rename_i i hi hlt k hk hle s hs hs2 h1
    have hx := g4 i (by omega)
    obtain ⟨A, hA⟩ : ∃ A, nuL (spkN xs i).1 (pa, pb, pc, ()) (r, v, ()) = A := ⟨_, rfl⟩
    obtain ⟨B, hB⟩ : ∃ B, nuU (spkN xs i).1 (pa, pb, pc, ()) (r, v, ()) = B := ⟨_, rfl⟩
    have hn1 : 0 ≤ A ∧ A ≤ 1000000000 := hA ▸ hx.n
    have hn2 : A ≤ B ∧ B ≤ 1000000000 := hA ▸ hB ▸ hx.nu
    obtain ⟨D, hD⟩ : ∃ D : Int, (spkN xs i).2.2.1 = D := ⟨_, rfl⟩
    have hd : 0 ≤ D ∧ D ≤ 10000 := hD ▸ hx.d
    have hm1 := mul_le hx.g hx.s
    have hm2 := mul_le hx.g (show 0 ≤ (stU (spkN xs i).1 (pa, pb, pc, ()) : Int) ∧ stU (spkN xs i).1 (pa, pb, pc, ()) ≤ 100000 from ⟨Int.le_trans hx.s.1 hx.su.1, hx.su.2⟩)
    have hN : nEn (rayOf r v (pa, pb, pc, ()) (spkN xs i)) = (B - A + 1).toNat := by subst hA hB; rfl
    have hle : A + (k : Int) ≤ B := by subst hA hB; exact hle
    rw [hN] at hk
    have hJ : 2 * (A + (k : Int) - A).toNat = 2 * k := by omega
    have : -1000000000000000000 ≤ A + (k : Int) + D ∧ A + (k : Int) + D ≤ 1000000000000000000 := by constructor <;> omega
    refine ⟨⟨Int.le_trans (by decide) hm1.1, Int.le_trans hm1.2 (by decide)⟩, ?_⟩
    subst hA hD; exact this
  · rename_i i hi hlt k hk hle s hs hs2 h1 h2 h3
    have hx := g4 i (by omega)
    obtain ⟨A, hA⟩ : ∃ A, nuL (spkN xs i).1 (pa, pb, pc, ()) (r, v, ()) = A := ⟨_, rfl⟩
    obtain ⟨B, hB⟩ : ∃ B, nuU (spkN xs i).1 (pa, pb, pc, ()) (r, v, ()) = B := ⟨_, rfl⟩
    have hn1 : 0 ≤ A ∧ A ≤ 1000000000 := hA ▸ hx.n
    have hn2 : A ≤ B ∧ B ≤ 1000000000 := hA ▸ hB ▸ hx.nu
    obtain ⟨D, hD⟩ : ∃ D : Int, (spkN xs i).2.2.1 = D := ⟨_, rfl⟩
    have hd : 0 ≤ D ∧ D ≤ 10000 := hD ▸ hx.d
    have hm1 := mul_le hx.g hx.s
    have hm2 := mul_le hx.g (show 0 ≤ (stU (spkN xs i).1 (pa, pb, pc, ()) : Int) ∧ stU (spkN xs i).1 (pa, pb, pc, ()) ≤ 100000 from ⟨Int.le_trans hx.s.1 hx.su.1, hx.su.2⟩)
    have hN : nEn (rayOf r v (pa, pb, pc, ()) (spkN xs i)) = (B - A + 1).toNat := by subst hA hB; rfl
    have h2 : A + (k : Int) = A := by subst hA; exact h2
    obtain rfl : k = 0 := by omega
    obtain rfl : s = 0 := by omega
    have e0 : 2 * ((rayOf r v (pa, pb, pc, ()) (spkN xs i)).2.2.1.1 + ((0 : Nat) : Int) - (rayOf r v (pa, pb, pc, ()) (spkN xs i)).2.2.1.1).toNat + (0 + 1) = 1 := by
      have : 2 * (A + ((0 : Nat) : Int) - A).toNat = 0 := by omega
      subst hA; rw [show 2 * ((rayOf r v (pa, pb, pc, ()) (spkN xs i)).2.2.1.1 + ((0 : Nat) : Int) - (rayOf r v (pa, pb, pc, ()) (spkN xs i)).2.2.1.1).toNat = 0 from this]
    have z0 : rv (rayOf r v (pa, pb, pc, ()) (spkN xs i)) 0 = _ := rv_0 (rayOf r v (pa, pb, pc, ()) (spkN xs i)) 0
    have a1 := st_first (f := rvR (rayOf r v (pa, pb, pc, ()) (spkN xs i))) (congrArg Prod.fst z0)
    have a2 := st_first (f := rvI (rayOf r v (pa, pb, pc, ()) (spkN xs i))) (congrArg Prod.snd z0)
    rw [← e0] at a1 a2
    refine GHeld.mk ?_
    refine Exists.intro (0 + 1 : Nat) ?_
    refine And.intro (Leaf.mk ?_) ?_
    · repeat' first | exact True.intro | refine And.intro ?_ ?_
      all_goals try ((change _ = _ <;> try dsimp only) <;> try with_reducible rfl)
      all_goals try omega
      all_goals (first | rfl | exact a1.1 | exact a1.2 | exact a2.1 | exact a2.2)
    exact ⟨by decide, by decide⟩
  · rename_i i hi hlt k hk hle s hs hs2 h1 h2
    have hx := g4 i (by omega)
    obtain ⟨A, hA⟩ : ∃ A, nuL (spkN xs i).1 (pa, pb, pc, ()) (r, v, ()) = A := ⟨_, rfl⟩
    obtain ⟨B, hB⟩ : ∃ B, nuU (spkN xs i).1 (pa, pb, pc, ()) (r, v, ()) = B := ⟨_, rfl⟩
    have hn1 : 0 ≤ A ∧ A ≤ 1000000000 := hA ▸ hx.n
    have hn2 : A ≤ B ∧ B ≤ 1000000000 := hA ▸ hB ▸ hx.nu
    obtain ⟨D, hD⟩ : ∃ D : Int, (spkN xs i).2.2.1 = D := ⟨_, rfl⟩
    have hd : 0 ≤ D ∧ D ≤ 10000 := hD ▸ hx.d
    have hm1 := mul_le hx.g hx.s
    have hm2 := mul_le hx.g (show 0 ≤ (stU (spkN xs i).1 (pa, pb, pc, ()) : Int) ∧ stU (spkN xs i).1 (pa, pb, pc, ()) ≤ 100000 from ⟨Int.le_trans hx.s.1 hx.su.1, hx.su.2⟩)
    have hN : nEn (rayOf r v (pa, pb, pc, ()) (spkN xs i)) = (B - A + 1).toNat := by subst hA hB; rfl
    have hle : A + (k : Int) ≤ B := by subst hA hB; exact hle
    rw [hN] at hk
    have hJ : 2 * (A + (k : Int) - A).toNat = 2 * k := by omega
    have h2 : ¬ A + (k : Int) = A := by subst hA; exact h2
    obtain rfl : s = 0 := by omega
    have z : rv (rayOf r v (pa, pb, pc, ()) (spkN xs i)) (2 * ((rayOf r v (pa, pb, pc, ()) (spkN xs i)).2.2.1.1 + (k : Int) - (rayOf r v (pa, pb, pc, ()) (spkN xs i)).2.2.1.1).toNat + 0) = _ := (congrArg (fun n => rv (rayOf r v (pa, pb, pc, ()) (spkN xs i)) (n + 0)) (show 2 * ((rayOf r v (pa, pb, pc, ()) (spkN xs i)).2.2.1.1 + (k : Int) - (rayOf r v (pa, pb, pc, ()) (spkN xs i)).2.2.1.1).toNat = 2 * k by subst hA; exact hJ)).trans (rv_0 (rayOf r v (pa, pb, pc, ()) (spkN xs i)) k)
    have hJ2 : 2 * ((rayOf r v (pa, pb, pc, ()) (spkN xs i)).2.2.1.1 + (k : Int) - (rayOf r v (pa, pb, pc, ()) (spkN xs i)).2.2.1.1).toNat = 2 * k := by subst hA; exact hJ
    have hj : 0 < 2 * ((rayOf r v (pa, pb, pc, ()) (spkN xs i)).2.2.1.1 + (k : Int) - (rayOf r v (pa, pb, pc, ()) (spkN xs i)).2.2.1.1).toNat + 0 := by rw [hJ2]; omega
    have a1 := st_step (f := rvR (rayOf r v (pa, pb, pc, ()) (spkN xs i))) hj (congrArg Prod.fst z)
    have a2 := st_step (f := rvI (rayOf r v (pa, pb, pc, ()) (spkN xs i))) hj (congrArg Prod.snd z)
    refine GHeld.mk ?_
    refine Exists.intro (0 + 1 : Nat) ?_
    refine And.intro (Leaf.mk ?_) ?_
    · repeat' first | exact True.intro | refine And.intro ?_ ?_
      all_goals try ((change _ = _ <;> try dsimp only) <;> try with_reducible rfl)
      all_goals try omega
      all_goals (first | rfl | exact a1.1 | exact a1.2 | exact a2.1 | exact a2.2)
    exact ⟨by decide, by decide⟩
  · rename_i i hi hlt k hk hle s hs hs2
    have hx := g4 i (by omega)
    obtain ⟨A, hA⟩ : ∃ A, nuL (spkN xs i).1 (pa, pb, pc, ()) (r, v, ()) = A := ⟨_, rfl⟩
    obtain ⟨B, hB⟩ : ∃ B, nuU (spkN xs i).1 (pa, pb, pc, ()) (r, v, ()) = B := ⟨_, rfl⟩
    have hn1 : 0 ≤ A ∧ A ≤ 1000000000 := hA ▸ hx.n
    have hn2 : A ≤ B ∧ B ≤ 1000000000 := hA ▸ hB ▸ hx.nu
    obtain ⟨D, hD⟩ : ∃ D : Int, (spkN xs i).2.2.1 = D := ⟨_, rfl⟩
    have hd : 0 ≤ D ∧ D ≤ 10000 := hD ▸ hx.d
    have hm1 := mul_le hx.g hx.s
    have hm2 := mul_le hx.g (show 0 ≤ (stU (spkN xs i).1 (pa, pb, pc, ()) : Int) ∧ stU (spkN xs i).1 (pa, pb, pc, ()) ≤ 100000 from ⟨Int.le_trans hx.s.1 hx.su.1, hx.su.2⟩)
    have hN : nEn (rayOf r v (pa, pb, pc, ()) (spkN xs i)) = (B - A + 1).toNat := by subst hA hB; rfl
    have hle : A + (k : Int) ≤ B := by subst hA hB; exact hle
    rw [hN] at hk
    have hJ : 2 * (A + (k : Int) - A).toNat = 2 * k := by omega
    have : R64 (A + (k : Int) + 1) := by constructor <;> omega
    subst hA; exact this
  · rename_i i hi hlt k hk hle s hs hs2
    have hx := g4 i (by omega)
    obtain ⟨A, hA⟩ : ∃ A, nuL (spkN xs i).1 (pa, pb, pc, ()) (r, v, ()) = A := ⟨_, rfl⟩
    obtain ⟨B, hB⟩ : ∃ B, nuU (spkN xs i).1 (pa, pb, pc, ()) (r, v, ()) = B := ⟨_, rfl⟩
    have hn1 : 0 ≤ A ∧ A ≤ 1000000000 := hA ▸ hx.n
    have hn2 : A ≤ B ∧ B ≤ 1000000000 := hA ▸ hB ▸ hx.nu
    obtain ⟨D, hD⟩ : ∃ D : Int, (spkN xs i).2.2.1 = D := ⟨_, rfl⟩
    have hd : 0 ≤ D ∧ D ≤ 10000 := hD ▸ hx.d
    have hm1 := mul_le hx.g hx.s
    have hm2 := mul_le hx.g (show 0 ≤ (stU (spkN xs i).1 (pa, pb, pc, ()) : Int) ∧ stU (spkN xs i).1 (pa, pb, pc, ()) ≤ 100000 from ⟨Int.le_trans hx.s.1 hx.su.1, hx.su.2⟩)
    have hN : nEn (rayOf r v (pa, pb, pc, ()) (spkN xs i)) = (B - A + 1).toNat := by subst hA hB; rfl
    have hle : A + (k : Int) ≤ B := by subst hA hB; exact hle
    rw [hN] at hk
    have hJ : 2 * (A + (k : Int) - A).toNat = 2 * k := by omega
    obtain rfl : s = 2 := by omega
    have e : 2 * ((rayOf r v (pa, pb, pc, ()) (spkN xs i)).2.2.1.1 + (k : Int) - (rayOf r v (pa, pb, pc, ()) (spkN xs i)).2.2.1.1).toNat + 2 = 2 * (k + 1) := by
      have : 2 * (A + (k : Int) - A).toNat + 2 = 2 * (k + 1) := by omega
      subst hA; exact this
    have c1 := congrArg (mnS (rvR (rayOf r v (pa, pb, pc, ()) (spkN xs i)))) e
    have c2 := congrArg (mxS (rvR (rayOf r v (pa, pb, pc, ()) (spkN xs i)))) e
    have c3 := congrArg (mnS (rvI (rayOf r v (pa, pb, pc, ()) (spkN xs i)))) e
    have c4 := congrArg (mxS (rvI (rayOf r v (pa, pb, pc, ()) (spkN xs i)))) e
    refine GHeld.mk ?_
    refine Exists.intro (k + 1) ?_
    refine And.intro (Leaf.mk ?_) ?_
    · repeat' first | exact True.intro | refine And.intro ?_ ?_
      all_goals try ((change _ = _ <;> try dsimp only) <;> try with_reducible rfl)
      all_goals try omega
      all_goals (first | rfl | exact c1 | exact c2 | exact c3 | exact c4 | exact (Int.add_assoc _ _ _))
    exact ⟨(show k + 1 ≤ nEn (rayOf r v (pa, pb, pc, ()) (spkN xs i)) by rw [hN]; omega), (show nEn (rayOf r v (pa, pb, pc, ()) (spkN xs i)) - (k + 1) < nEn (rayOf r v (pa, pb, pc, ()) (spkN xs i)) - k by rw [hN]; omega)⟩
  · rename_i i hi hlt k hk hle _
    have hK : k = nEn (rayOf r v (pa, pb, pc, ()) (spkN xs i)) := nEn_end hk hle
    have b := (hb (i + 1) (by omega)).1
    have q1 : -9223372036854775808 ≤ e0 (raysA r v xs (pa, pb, pc, ())) (i + 1) ∧ e0 (raysA r v xs (pa, pb, pc, ())) (i + 1) ≤ 9223372036854775807 := by constructor <;> omega
    rw [hE0 i (by omega), ← hK] at q1
    exact q1
  · rename_i i hi hlt k hk hle _
    have hK : k = nEn (rayOf r v (pa, pb, pc, ()) (spkN xs i)) := nEn_end hk hle
    have b := (hb (i + 1) (by omega)).1
    have q1 : -9223372036854775808 ≤ e1 (raysA r v xs (pa, pb, pc, ())) (i + 1) ∧ e1 (raysA r v xs (pa, pb, pc, ())) (i + 1) ≤ 9223372036854775807 := by constructor <;> omega
    rw [hE1 i (by omega), ← hK] at q1
    exact q1
  · rename_i i hi hlt k hk hle _ _
    have hK : k = nEn (rayOf r v (pa, pb, pc, ()) (spkN xs i)) := nEn_end hk hle
    have b := (hb (i + 1) (by omega)).2
    have q1 : -9223372036854775808 ≤ e2 (raysA r v xs (pa, pb, pc, ())) (i + 1) ∧ e2 (raysA r v xs (pa, pb, pc, ())) (i + 1) ≤ 9223372036854775807 := by constructor <;> omega
    rw [hE2 i (by omega), ← hK] at q1
    exact q1
  · rename_i i hi hlt k hk hle _ _
    have hK : k = nEn (rayOf r v (pa, pb, pc, ()) (spkN xs i)) := nEn_end hk hle
    have b := (hb (i + 1) (by omega)).2
    have q1 : -9223372036854775808 ≤ e3 (raysA r v xs (pa, pb, pc, ())) (i + 1) ∧ e3 (raysA r v xs (pa, pb, pc, ())) (i + 1) ≤ 9223372036854775807 := by constructor <;> omega
    rw [hE3 i (by omega), ← hK] at q1
    exact q1
  · rename_i i hi hlt k hk hle _ _ _
    have hK : k = nEn (rayOf r v (pa, pb, pc, ()) (spkN xs i)) := nEn_end hk hle
    have q0 := hE0 i (by omega)
    have q1 := hE1 i (by omega)
    have q2 := hE2 i (by omega)
    have q3 := hE3 i (by omega)
    rw [← hK] at q0 q1 q2 q3
    refine GHeld.mk ?_
    refine Exists.intro (i + 1) ?_
    refine And.intro (Leaf.mk ?_) ?_
    · repeat' first | exact True.intro | refine And.intro ?_ ?_
      all_goals try ((change _ = _ <;> try dsimp only) <;> try with_reducible rfl)
      all_goals try omega
      all_goals (first | rfl | exact q0.symm | exact q1.symm | exact q2.symm | exact q3.symm | exact q0 | exact q1 | exact q2 | exact q3)
    exact ⟨by show i + 1 ≤ xs.length; omega, by show xs.length - (i + 1) < xs.length - i; omega⟩
  · rename_i i hi hlt
    have e : i = (raysA r v xs (pa, pb, pc, ())).length := by rw [raysA_len]; omega
    rw [e]; exact ⟨⟨rfl, rfl⟩, rfl, rfl⟩
@[reducible] def sSizR : Spec := { pats := [.dat ArrT, .dat PlaceT], res := [{ t := RangeT }], pre := fun x => pGood x.1.1 x.1.2.1 x.1.2.2.1 x.2.1, f := fun x => (sizT (endT (raysA x.1.1 x.1.2.1 x.1.2.2.1 x.2.1)), ()) }
theorem h60 : Ok 60 sSizR := by
  refine mk (ctr := [(59, sEndR), (121, sSqs), (122, sRootX), (123, sRootUpX)]) ⟨h59, h121, h122x, h123x, trivial⟩ (nt := 34) Tryz.func60 rfl rfl rfl rfl (by kernel_rfl) (by kernel_rfl) (fun _ => []) ?_
  rintro ⟨⟨(r : Int), (v : Int), (xs : List SpkD), ⟨⟩⟩, ⟨(pa : Int), (pb : Int), (pc : Int), ⟨⟩⟩, ⟨⟩⟩ (hp : pGood r v xs (pa, pb, pc, ()))
  obtain ⟨hl, hg⟩ := raysA_good hp
  have hb := en_bd (L := raysA r v xs (pa, pb, pc, ())) (k := (raysA r v xs (pa, pb, pc, ())).length) (fun i hi => hg i (by rw [raysA_len] at hi; exact hi)) (by rw [raysA_len]; exact hl)
  have b1 := lst_bd hb.1
  have b2 := lst_bd hb.2
  have s1 := sq_le2 b1.1 (Int.le_trans b1.2.1 b1.2.2)
  have s2 := sq_le2 b2.1 (Int.le_trans b2.2.1 b2.2.2)
  have s3 := sq_le2 (Int.le_trans b1.1 b1.2.1) b1.2.2
  have s4 := sq_le2 (Int.le_trans b2.1 b2.2.1) b2.2.2
  have p1 : R64 (lstI (e0 (raysA r v xs (pa, pb, pc, ())) (raysA r v xs (pa, pb, pc, ())).length) (e1 (raysA r v xs (pa, pb, pc, ())) (raysA r v xs (pa, pb, pc, ())).length) * lstI (e0 (raysA r v xs (pa, pb, pc, ())) (raysA r v xs (pa, pb, pc, ())).length) (e1 (raysA r v xs (pa, pb, pc, ())) (raysA r v xs (pa, pb, pc, ())).length) + lstI (e2 (raysA r v xs (pa, pb, pc, ())) (raysA r v xs (pa, pb, pc, ())).length) (e3 (raysA r v xs (pa, pb, pc, ())) (raysA r v xs (pa, pb, pc, ())).length) * lstI (e2 (raysA r v xs (pa, pb, pc, ())) (raysA r v xs (pa, pb, pc, ())).length) (e3 (raysA r v xs (pa, pb, pc, ())) (raysA r v xs (pa, pb, pc, ())).length)) := by constructor <;> omega
  have p2 : pRoot2 (lstI (e0 (raysA r v xs (pa, pb, pc, ())) (raysA r v xs (pa, pb, pc, ())).length) (e1 (raysA r v xs (pa, pb, pc, ())) (raysA r v xs (pa, pb, pc, ())).length) * lstI (e0 (raysA r v xs (pa, pb, pc, ())) (raysA r v xs (pa, pb, pc, ())).length) (e1 (raysA r v xs (pa, pb, pc, ())) (raysA r v xs (pa, pb, pc, ())).length) + lstI (e2 (raysA r v xs (pa, pb, pc, ())) (raysA r v xs (pa, pb, pc, ())).length) (e3 (raysA r v xs (pa, pb, pc, ())) (raysA r v xs (pa, pb, pc, ())).length) * lstI (e2 (raysA r v xs (pa, pb, pc, ())) (raysA r v xs (pa, pb, pc, ())).length) (e3 (raysA r v xs (pa, pb, pc, ())) (raysA r v xs (pa, pb, pc, ())).length)) := by constructor <;> omega
  have p3 : R64 (mstI (e0 (raysA r v xs (pa, pb, pc, ())) (raysA r v xs (pa, pb, pc, ())).length) (e1 (raysA r v xs (pa, pb, pc, ())) (raysA r v xs (pa, pb, pc, ())).length) * mstI (e0 (raysA r v xs (pa, pb, pc, ())) (raysA r v xs (pa, pb, pc, ())).length) (e1 (raysA r v xs (pa, pb, pc, ())) (raysA r v xs (pa, pb, pc, ())).length) + mstI (e2 (raysA r v xs (pa, pb, pc, ())) (raysA r v xs (pa, pb, pc, ())).length) (e3 (raysA r v xs (pa, pb, pc, ())) (raysA r v xs (pa, pb, pc, ())).length) * mstI (e2 (raysA r v xs (pa, pb, pc, ())) (raysA r v xs (pa, pb, pc, ())).length) (e3 (raysA r v xs (pa, pb, pc, ())) (raysA r v xs (pa, pb, pc, ())).length)) := by constructor <;> omega
  have p4 : pRoot2 (mstI (e0 (raysA r v xs (pa, pb, pc, ())) (raysA r v xs (pa, pb, pc, ())).length) (e1 (raysA r v xs (pa, pb, pc, ())) (raysA r v xs (pa, pb, pc, ())).length) * mstI (e0 (raysA r v xs (pa, pb, pc, ())) (raysA r v xs (pa, pb, pc, ())).length) (e1 (raysA r v xs (pa, pb, pc, ())) (raysA r v xs (pa, pb, pc, ())).length) + mstI (e2 (raysA r v xs (pa, pb, pc, ())) (raysA r v xs (pa, pb, pc, ())).length) (e3 (raysA r v xs (pa, pb, pc, ())) (raysA r v xs (pa, pb, pc, ())).length) * mstI (e2 (raysA r v xs (pa, pb, pc, ())) (raysA r v xs (pa, pb, pc, ())).length) (e3 (raysA r v xs (pa, pb, pc, ())) (raysA r v xs (pa, pb, pc, ())).length)) := by constructor <;> omega
  repeat' (intro hzz; (try (rename Two => hq; cases hq)); (try dsimp only at hzz); (try simp only [resTy, argTy, eqD, inR, big, wantOf, zB] at hzz); (try (revert hzz; intro _)))
  all_goals try (rename Unit => hq; clear hq)
  all_goals try ((with_reducible refine Held.mk ?_); (with_reducible (first | refine Frz.mk ?_ | refine And.intro (Frz.mk ?_) ?_ | refine And.intro ?_ (Frz.mk ?_))); repeat' first | exact True.intro | (change _ = _; with_reducible rfl) | refine And.intro ?_ ?_ | (with_reducible refine Frz.mk ?_))
  all_goals try (refine Held.mk ?_; (try dsimp only at *); (try simp only [resTy, argTy, eqD, inR, big, wantOf, zB] at *))
  · exact hp
  · exact hb.1
  · exact hb.2
  · exact p1
  · exact p2
  · exact p3
  · exact p4
  · exact ⟨rfl, rfl⟩
end Go.Eng.Ar

namespace Go.Eng.Ar
open Go.Eng Go.Proofs
set_option linter.all false
set_option maxRecDepth 100000
set_option maxHeartbeats 8000000
theorem fs28 : Tryz.prog.fieldsOf 28 = #[⟨"Lo", 3, 0, false, "", "", 0⟩, ⟨"Hi", 3, 1, false, "", "", 8⟩] := by kernel_rfl
theorem eqRg (w : World) (d : Nat) (x1 x2 y1 y2 : Int) : (Op.equalIn (d + 2) 28 (.agg #[.int .i64 x1, .int .i64 x2]) (.agg #[.int .i64 y1, .int .i64 y2])).run Tryz.prog w = .ok (decide (x1 = y1) && decide (x2 = y2)) w := by
  rw [run_equalIn_struct w (d + 1) 28 _ _ (by rw [Tryz.underlying28, fs28]) Tryz.stoodInHeld28, fs28]
  rw [eqF_int w d _ _ "Lo" "" "" 0 0 false _ (by decide) (x := x1) (y := y1) rfl rfl, eqF_int w d _ _ "Hi" "" "" 1 8 false _ (by decide) (x := x2) (y := y2) rfl rfl]
  simp only [Op.eqFields, Sem.run_pure]
  by_cases e1 : x1 = y1 <;> by_cases e2 : x2 = y2 <;> simp [e1, e2]
theorem eq92 : EqOk Tryz.prog 92 EndsT := by
  refine eqOf (by kernel_rfl) fun w V x y l m hx hy => ?_
  obtain ⟨p1, p2, rfl, ⟨l1, l2, rfl, h1, l3, l4, rfl, h2, h3⟩, p3, p4, rfl, ⟨l5, l6, rfl, h4, l7, l8, rfl, h5, h6⟩, h7⟩ := hx
  obtain ⟨q1, q2, rfl, ⟨m1, m2, rfl, g1, m3, m4, rfl, g2, g3⟩, q3, q4, rfl, ⟨m5, m6, rfl, g4, m7, m8, rfl, g5, g6⟩, g7⟩ := hy
  obtain ⟨⟨x1, x2, u⟩, ⟨x3, x4, u2⟩, u3⟩ := x
  obtain ⟨⟨y1, y2, v⟩, ⟨y3, y4, v2⟩, v3⟩ := y
  subst h1 h2 h3 h4 h5 h6 h7 g1 g2 g3 g4 g5 g6 g7
  obtain ⟨ti, hi, _⟩ := row28.info
  have hc : Tryz.prog.cellsOf 28 = 2 := by kernel_rfl
  have pp : ∀ (z1 z2 z3 z4 : Int), (part 28 #[.int .i64 z1, .int .i64 z2, .int .i64 z3, .int .i64 z4] 0).run Tryz.prog w = .ok (.agg #[.int .i64 z1, .int .i64 z2]) w ∧ (part 28 #[.int .i64 z1, .int .i64 z2, .int .i64 z3, .int .i64 z4] 2).run Tryz.prog w = .ok (.agg #[.int .i64 z3, .int .i64 z4]) w := fun z1 z2 z3 z4 => by
    obtain ⟨i, hi⟩ : ∃ i, TIOk Tryz.prog 28 i ∧ i.kind.isAgg = true ∧ i.size = 2 := ⟨_, row28, rfl, rfl⟩
    constructor
    · rw [run_part hi.1, if_pos hi.2.1, hi.2.2]; rfl
    · rw [run_part hi.1, if_pos hi.2.1, hi.2.2]; rfl
  rw [run_equalIn_array w 9999 _ _ (show Tryz.prog.underlying 92 = some (.array 2 28) from row92.desc) hi, hc, show List.range 2 = [0, 1] from rfl]
  show (Op.eqItems 9999 28 2 #[.int .i64 x1, .int .i64 x2, .int .i64 x3, .int .i64 x4] #[.int .i64 y1, .int .i64 y2, .int .i64 y3, .int .i64 y4] [0, 1]).run Tryz.prog w = _
  simp only [Op.eqItems, Sem.run_bind, Nat.zero_mul, Nat.one_mul, (pp _ _ _ _).1, (pp _ _ _ _).2, Result.andThen_ok]
  rw [show (9999 : Nat) = 9997 + 2 from rfl, eqRg w 9997 x1 x2 y1 y2]
  simp only [Result.andThen_ok]
  show _ = Result.ok ((decide (x1 = y1) && (decide (x2 = y2) && true)) && ((decide (x3 = y3) && (decide (x4 = y4) && true)) && true)) w
  cases h : (decide (x1 = y1) && decide (x2 = y2)) with
  | false =>
    simp only [Bool.and_true, h, Bool.false_and]
    simp [h]
  | true =>
    simp only [Bool.and_true, h, Bool.true_and]
    simp [Sem.run_bind, (pp _ _ _ _).2, eqRg w 9997 x3 x4 y3 y4]
    by_cases e1 : x3 = y3 <;> by_cases e2 : x4 = y4 <;> simp [e1, e2]
end Go.Eng.Ar

namespace Go.Eng.Ar
open Go.Eng Go.Proofs
set_option linter.all false
set_option maxRecDepth 100000
set_option maxHeartbeats 8000000
theorem eqs4 : ∀ t ∈ ([28, 82, 53, 92] : List Nat), ∀ ty, tyOf tt 20 t = some ty → EqOk Tryz.prog t ty := by
  intro t ht ty h
  have h92 : tyOf tt 20 92 = some EndsT := by kernel_rfl
  by_cases e : t = 92
  · subst e; rw [h92] at h; cases h; exact eq92
  · exact eqs3 t (by simp only [List.mem_cons, List.not_mem_nil, or_false] at ht ⊢; rcases ht with h | h | h | h <;> simp_all) ty h
@[reducible] def cfgF (X : Xt) (ctr : List (Nat × Spec)) (nt : Nat) : Cfg := { tt := tt, eqs := [28, 82, 53, 92], ctr := ctr, nt := nt, ext := [166], extb := [(110, .f64)], its := X.its, clos := X.clos, fuel := X.fuel }
theorem cfgFOk {X : Xt} (hX : Its X.its) {ctr : List (Nat × Spec)} {nt : Nat} (h : All ctr) : CfgOk Tryz.prog OB (cfgF X ctr nt) where
  tbl := tbl
  eqs := eqs4
  ctr := (cfgOk hX h (nt := nt)).ctr
  ext := (cfgOk hX h (nt := nt)).ext
  extb := extOk
  obs := fun t i hi => by simp [obOf] at hi
  its := fun g isp h => its_get hX h
theorem rng_self (a b : Int) : RangeT.beq (a, b, ()) (a, b, ()) = true := by
  show (decide (a = a) && (decide (b = b) && true)) = true
  simp
theorem ends_self (e : EndD) : EndsT.beq e e = true := by
  obtain ⟨⟨a, b, _⟩, ⟨c, d, _⟩, _⟩ := e
  show ((decide (a = a) && (decide (b = b) && true)) && ((decide (c = c) && (decide (d = d) && true)) && true)) = true
  simp
theorem same_self (z : CD) : fSame z z = true := by simp [fSame]
@[reducible] def sPressures : Spec := { pats := [.dat ArrT, .dat PlaceT, .gw 3 .err, .gw 4 .err, .gw 2 PowT, .gw 1 I64], res := [{ t := .bool }], pre := fun x => x.2.2.2.2.1 = powD, f := fun _ => (true, ()) }
theorem hLaw10 : Ok 10 sPressures := by
  refine mkI (sp := sPressures) (c := cfgF {} [(14, sAwake), (24, sFew), (26, sCopy), (32, sErrA), (34, sPress), (46, sSame), (47, sEndsAt), (48, sSizeAt), (49, sNum), (57, sEnergy), (58, sPresR), (59, sEndR), (60, sSizR), (61, sEnrR)] 0) (fun nt => cfgFOk (X := {}) True.intro (ctr := [(14, sAwake), (24, sFew), (26, sCopy), (32, sErrA), (34, sPress), (46, sSame), (47, sEndsAt), (48, sSizeAt), (49, sNum), (57, sEnergy), (58, sPresR), (59, sEndR), (60, sSizR), (61, sEnrR)]) ⟨h14, h24, h26, h32, h34, h46, h47, h48, h49, h57, h58, h59, h60, h61, trivial⟩) (nt := 139) Tryz.func10 rfl rfl rfl rfl (by kernel_rfl) (by kernel_rfl) (fun x => []) ?_
  rintro ⟨⟨(r : Int), (v : Int), (xs : List SpkD), ⟨⟩⟩, ⟨(pa : Int), (pb : Int), (pc : Int), ⟨⟩⟩, (b0 : Bool), (b1 : Bool), (pw : PowT.Den), (m : Int), ⟨⟩⟩ (hpw : pw = powD)
  by_cases hl : xs.length ≤ 10
  · have hl' : xs.length < 11 := Nat.lt_succ_of_le hl
    have hp : pLen xs.length := by show (xs.length : Int) ≤ 4611686018427387904; omega
    by_cases hc : opErr r v xs (pa, pb, pc, ()) = 0
    · have e : openR r v xs (pa, pb, pc, ()) = (raysA r v xs (pa, pb, pc, ()), 0, ()) := if_pos hc
      have q1 : prC (openR r v xs (pa, pb, pc, ())) = cpxI (reT (raysA r v xs (pa, pb, pc, ())) xs.length) (imT (raysA r v xs (pa, pb, pc, ())) xs.length) := by rw [e]; unfold prC; rw [if_pos rfl, raysA_len]
      have q2 : endC (openR r v xs (pa, pb, pc, ())) = endT (raysA r v xs (pa, pb, pc, ())) := by rw [e]; rfl
      have q3 : sizC (openR r v xs (pa, pb, pc, ())) = sizT (endT (raysA r v xs (pa, pb, pc, ()))) := by rw [e]; rfl
      have q4 : enrC (openR r v xs (pa, pb, pc, ())) = (n0 (raysA r v xs (pa, pb, pc, ())) xs.length, n1 (raysA r v xs (pa, pb, pc, ())) xs.length, ()) := by rw [e]; unfold enrC; rw [if_pos rfl, raysA_len]
      have hg : Hid (pGood r v xs (pa, pb, pc, ())) := hc
      clear e
      repeat' (intro hzz; (try (rename Two => hq; cases hq)); (try dsimp only at hzz); (try simp only [resTy, argTy, eqD, inR, big, wantOf, zB] at hzz); (try simp only [resTy, argTy, eqD, inR, big, wantOf, zB, hl, hc, q1, q2, q3, q4, hpw, same_self, ends_self, rng_self] at hzz); (try (first | contradiction | (exfalso; omega))); (try (revert hzz; intro _)))
      all_goals try (rename Unit => hq; clear hq)
      all_goals try ((with_reducible refine Held.mk ?_); (with_reducible (first | refine Frz.mk ?_ | refine And.intro (Frz.mk ?_) ?_ | refine And.intro ?_ (Frz.mk ?_))); repeat' first | exact True.intro | (change _ = _; with_reducible rfl) | refine And.intro ?_ ?_ | (with_reducible refine Frz.mk ?_))
      all_goals try (refine Held.mk ?_; (try dsimp only at *); (try simp only [resTy, argTy, eqD, inR, big, wantOf, zB] at *); (try simp only [resTy, argTy, eqD, inR, big, wantOf, zB, hl, hc, q1, q2, q3, q4, hpw, same_self, ends_self, rng_self] at *))
      all_goals try omega
      all_goals first | omega | exact hp | exact hg | exact rng_self _ _ | exact ends_self _ | (rename_i h; exact absurd ((ends_self _).symm.trans h) (by decide)) | (rename_i h; exact absurd ((rng_self _ _).symm.trans h) (by decide))
    · have e : openR r v xs (pa, pb, pc, ()) = ([], opErr r v xs (pa, pb, pc, ()), ()) := if_neg hc
      have q1 : prC (openR r v xs (pa, pb, pc, ())) = (0, 0) := by rw [e]; exact if_neg hc
      have q2 : endC (openR r v xs (pa, pb, pc, ())) = ((0, 0, ()), (0, 0, ()), ()) := by rw [e]; exact if_neg hc
      have q3 : sizC (openR r v xs (pa, pb, pc, ())) = (0, 0, ()) := by rw [e]; exact if_neg hc
      have q4 : enrC (openR r v xs (pa, pb, pc, ())) = (0, 0, ()) := by rw [e]; exact if_neg hc
      clear e
      repeat' (intro hzz; (try (rename Two => hq; cases hq)); (try dsimp only at hzz); (try simp only [resTy, argTy, eqD, inR, big, wantOf, zB] at hzz); (try simp only [resTy, argTy, eqD, inR, big, wantOf, zB, hl, hc, q1, q2, q3, q4, hpw, same_self, ends_self, rng_self] at hzz); (try (first | contradiction | (exfalso; omega))); (try (revert hzz; intro _)))
      all_goals try (rename Unit => hq; clear hq)
      all_goals try ((with_reducible refine Held.mk ?_); (with_reducible (first | refine Frz.mk ?_ | refine And.intro (Frz.mk ?_) ?_ | refine And.intro ?_ (Frz.mk ?_))); repeat' first | exact True.intro | (change _ = _; with_reducible rfl) | refine And.intro ?_ ?_ | (with_reducible refine Frz.mk ?_))
      all_goals try (refine Held.mk ?_; (try dsimp only at *); (try simp only [resTy, argTy, eqD, inR, big, wantOf, zB] at *); (try simp only [resTy, argTy, eqD, inR, big, wantOf, zB, hl, hc, q1, q2, q3, q4, hpw, same_self, ends_self, rng_self] at *))
      all_goals try omega
      all_goals try (first | omega | exact hp)
  · have hl' : Hid True := trivial
    repeat' (intro hzz; (try (rename Two => hq; cases hq)); (try dsimp only at hzz); (try simp only [resTy, argTy, eqD, inR, big, wantOf, zB] at hzz); (try simp only [resTy, argTy, eqD, inR, big, wantOf, zB, hl, hpw] at hzz); (try (first | contradiction | (exfalso; omega))); (try (revert hzz; intro _)))
    all_goals try (rename Unit => hq; clear hq)
    all_goals try ((with_reducible refine Held.mk ?_); (with_reducible (first | refine Frz.mk ?_ | refine And.intro (Frz.mk ?_) ?_ | refine And.intro ?_ (Frz.mk ?_))); repeat' first | exact True.intro | (change _ = _; with_reducible rfl) | refine And.intro ?_ ?_ | (with_reducible refine Frz.mk ?_))
    all_goals try (refine Held.mk ?_; (try dsimp only at *); (try simp only [resTy, argTy, eqD, inR, big, wantOf, zB] at *); (try simp only [resTy, argTy, eqD, inR, big, wantOf, zB, hl, hpw] at *))
    all_goals try omega
    all_goals try exact hp
end Go.Eng.Ar

