/- Texts C12 C13 C14 C15 C16 C17 C18 X2 A12 A13 A14 A16, as far as they are used. Conditions: each lemma's own. -/
import Derived.Test.YtjgfbifggolibaaGreatDoorKG5
import Derived.WalkKit
namespace Go.Eng.Ar
open Go.Eng Go.Proofs Go
set_option linter.all false
set_option maxRecDepth 100000
set_option maxHeartbeats 2000000
def combs : Nat → Nat → Nat → List (List Int)
  | 0, _, _ => [[]]
  | _ + 1, _, 0 => []
  | k + 1, f, r + 1 => (combs k (f + 1) r).map ((f : Int) :: ·) ++ combs (k + 1) (f + 1) r
theorem adN (a : Act) (w : World) (o : Oper) (x y : Operand) (ho : o.op = .binOp .add 3 x y 3) {m : Nat} (hx : a.eval x = .int .i64 m) (hy : a.eval y = .int .i64 1) (hr : m ≤ 1000000) : (execOp a.eval o).run Tryz.prog w = .ok (.value (.int .i64 ((m + 1 : Nat) : Int))) w := by
  have := adR a w o x y ho hx hy (by omega)
  rw [this]; rfl
theorem op_bs {P : Program} {Q : Exit → Act → World → Prop} {a : Act} {w w' : World} {K : Act → World → Prop} {o : Oper} {v : Value} (hnd : ∀ d, o.op ≠ .defer d) (hr : (execOp a.eval o).run P w = .ok (.value v) w') (h : K (a.put o.dst v) w') : o.wpIn (Fw none) 0 P a w K Q :=
  wpIn_of_run hnd hr h
theorem op_enterIn {P : Program} {Q : Exit → Act → World → Prop} {a : Act} {w : World} {K : Act → World → Prop} {o : Oper} {f : Nat} {args : Array Value} (hnd : ∀ d, o.op ≠ .defer d) (hr : (execOp a.eval o).run P w = .ok (.enter f args) w)
    (h : CallsIn (Fw none) 0 P f args w fun e w' => ∃ v, e = .returned v ∧ K (a.put o.dst v) w') : o.wpIn (Fw none) 0 P a w K Q :=
  wpIn_of_run hnd hr ⟨fun h => (by cases h), h.mono fun e w' ⟨v, h1, h2⟩ => by subst h1; exact h2⟩
theorem op_ap {Q : Exit → Act → World → Prop} {a : Act} {w : World} {K : Act → World → Prop} {o : Oper} {x y : Operand} (hnd : ∀ d, o.op ≠ .defer d) (ho : o.op = .call { callee := .builtin .append, args := #[x, y], argTypes := #[76, 76] }) {B : Nat} {v : Value} {xs : List Int} {n : Int} {b1 : Nat} (hx : a.eval x = v) (hv : LD B w v xs) (hl : xs.length + 1 ≤ 1000) (hy : a.eval y = .slice (some ⟨b1, 0, none⟩) 1 1) (hb1 : w.heap[b1]? = some (.cells #[.int .i64 n] 3 (0, 0))) (hB : B ≤ w.heap.size)
    (h : ∀ v' w', LD B w' v' (xs ++ [n]) → Bel B w w' → K (a.put o.dst v') w') : o.wpIn (Fw none) 0 Tryz.prog a w K Q := by
  obtain ⟨v', w', h1, h2, h3⟩ := apR a w o x y ho hx hv hl hy hb1 hB
  exact wpIn_of_run hnd h1 (h v' w' h2 h3)
structure RS (a : Act) (f : Int) (B bc bn : Nat) : Prop where
  size : a.tmps.size = 36
  defers : a.defers = []
  s0 : a.tmps.getD 0 undef = .int .i64 f
  s1 : a.tmps.getD 1 undef = .pointer (some ⟨B + 1, 0, none⟩)
  s2 : a.tmps.getD 2 undef = .pointer (some ⟨bc, 0, none⟩)
  s3 : a.tmps.getD 3 undef = .pointer (some ⟨B, 0, none⟩)
  s4 : a.tmps.getD 4 undef = .pointer (some ⟨bn, 0, none⟩)
  s5 : a.tmps.getD 5 undef = .pointer (some ⟨B + 2, 0, none⟩)
def capt (B bc bn : Nat) : Array Value := #[.pointer (some ⟨B + 1, 0, none⟩), .pointer (some ⟨bc, 0, none⟩), .pointer (some ⟨B, 0, none⟩), .pointer (some ⟨bn, 0, none⟩), .pointer (some ⟨B + 2, 0, none⟩)]
structure HC (B bc bn : Nat) (yv : Value) (w : World) (v : Value) (xs : List Int) : Prop where
  hy : w.heap[B]? = some (.cells #[yv] 234 (0, 0))
  hl : w.heap[B + 1]? = some (.cells #[v] 76 (0, 0))
  hm : w.heap[B + 2]? = some (.cells #[.func (.func 179) #[] (capt B bc bn)] 202 (0, 0))
  ld : LD (B + 3) w v xs
theorem HC.abv {B bc bn : Nat} {yv : Value} {w w' : World} {v : Value} {xs : List Int} (h : HC B bc bn yv w v xs) (hk : ∀ b, B ≤ b → b < w.heap.size → w'.heap[b]? = w.heap[b]?) : HC B bc bn yv w' v xs :=
  ⟨(hk _ (Nat.le_refl _) (lt_of_heap h.hy)).trans h.hy, (hk _ (by omega) (lt_of_heap h.hl)).trans h.hl, (hk _ (by omega) (lt_of_heap h.hm)).trans h.hm, ld_mono h.ld fun b hb hs => hk b (by omega) hs⟩
noncomputable def b179 : Code := bodyOf Tryz.f179
noncomputable def N0 : Code := match b179 with | .seq x _ => x | c => c
noncomputable def N1 : Code := match b179 with | .seq _ (.seq (.seq x _) _) => x | c => c
noncomputable def N2 : Code := match b179 with | .seq _ (.seq (.seq _ (.cond _ (.seq x _) _)) _) => x | c => c
noncomputable def N3 : Code := match b179 with | .seq _ (.seq _ (.seq (.seq x _) _)) => x | c => c
noncomputable def NL : Code := match b179 with | .seq _ (.seq _ (.seq (.seq _ (.block _ (.loop x))) _)) => x | c => c
noncomputable def N10 : Code := match b179 with | .seq _ (.seq _ (.seq _ (.seq x _))) => x | c => c
noncomputable def N4 : Code := match NL with | .seq (.seq x _) _ => x | c => c
noncomputable def N6 : Code := match NL with | .seq _ (.seq (.block _ (.seq x _)) _) => x | c => c
noncomputable def N7 : Code := match NL with | .seq _ (.seq (.block _ (.seq _ (.seq (.seq x _) _))) _) => x | c => c
noncomputable def N8 : Code := match NL with | .seq _ (.seq (.block _ (.seq _ (.seq (.seq _ (.cond _ (.seq x _) _)) _))) _) => x | c => c
noncomputable def N9 : Code := match NL with | .seq _ (.seq (.block _ (.seq _ (.seq _ x))) _) => x | c => c
noncomputable def N5 : Code := match NL with | .seq _ (.seq _ x) => x | c => c
theorem body179 : (Tryz.f179.body : Option Code) = some (.seq N0 (.seq (.seq N1 (.cond (.tmp 12) (.seq N2 .ret) .skip)) (.seq (.seq N3 (.block 0 (.loop (.seq (.seq N4 (.cond (.tmp 19) .skip (.exit 0))) (.seq (.block 1 (.seq N6 (.seq (.seq N7 (.cond (.tmp 30) (.seq N8 .ret) .skip)) N9))) N5))))) (.seq N10 .ret)))) := rfl
theorem rs_init {n : Nat} (hn : n = 36) {f : Int} {B bc bn : Nat} {a0 : Act} (ha : a0 = { tmps := (#[Value.int .i64 f] ++ capt B bc bn) ++ Array.replicate (n - (#[Value.int .i64 f] ++ capt B bc bn).size) undef, defers := [] }) : RS a0 f B bc bn := by
  subst hn
  have e : (#[Value.int .i64 f] ++ capt B bc bn) ++ Array.replicate (36 - (#[Value.int .i64 f] ++ capt B bc bn).size) undef = #[.int .i64 f, .pointer (some ⟨B + 1, 0, none⟩), .pointer (some ⟨bc, 0, none⟩), .pointer (some ⟨B, 0, none⟩), .pointer (some ⟨bn, 0, none⟩), .pointer (some ⟨B + 2, 0, none⟩)] ++ Array.replicate 30 undef := rfl
  rw [e] at ha
  rw [ha]
  refine ⟨by simp, rfl, ?_, ?_, ?_, ?_, ?_, ?_⟩ <;> simp
structure Yld (l B bc bn count numbers : Nat) (J : List (List Int) → World → Prop) (Jx : World → Prop) : Prop where
  below : ∀ rest w w', J rest w → Bel B w w' → J rest w'
  size : ∀ rest w, J rest w → B ≤ w.heap.size
  boxes : ∀ rest w, J rest w → w.heap[bc]? = some (.cells #[.int .i64 (count : Nat)] 3 (0, 0)) ∧ w.heap[bn]? = some (.cells #[.int .i64 (numbers : Nat)] 3 (0, 0))
  yields : ∀ c rest w ls cap cur, J (c :: rest) w → B ≤ ls → w.heap[ls]? = some (.cells cur 3 (0, 0)) → rowI c cap cur →
    YieldAt (Fw none) 0 Tryz.prog l #[.slice (some ⟨ls, 0, none⟩) c.length cap] w fun e w' => (∀ b, B ≤ b → b < w.heap.size → w'.heap[b]? = w.heap[b]?) ∧ ((e = .returned (.bool true) ∧ J rest w') ∨ (e = .returned (.bool false) ∧ Jx w'))
theorem ret1 {w : World} {a : Act} {R : Ending → World → Prop} {v : Value} (hd : a.defers = []) (h7 : a.tmps.getD 7 undef = v) (h : R (.returned v) w) : bodyPost Tryz.prog Tryz.f179 R .ret a w := by
  refine ⟨hd, v, ?_, h⟩
  have := results_run (P := Tryz.prog) (fn := Tryz.f179) (tmps := a.tmps) (w := w) (vs := [v]) (by
    show ([ResultVar.tmp 7].mapM (resVal a.tmps)).run Tryz.prog w = .ok [v] w
    simp [resVal, ← h7])
  exact this
theorem more_in {l B bc bn count numbers : Nat} {J : List (List Int) → World → Prop} {Jx : World → Prop} (hY : Yld l B bc bn count numbers J Jx) (hcn : count ≤ 100 ∧ 0 < count) (hnn : numbers ≤ 100) (hbc : bc < B ∧ bn < B) : ∀ (k f r : Nat) (xs : List Int) (rest : List (List Int)) (W : World) (v : Value), xs.length + k = count → f + r = numbers →
    HC B bc bn (.func (.yield l) #[] #[]) W v xs → J ((combs k f r).map (xs ++ ·) ++ rest) W →
    CallsIn (Fw none) 0 Tryz.prog 179 (#[.int .i64 (f : Nat)] ++ capt B bc bn) W fun e W' => (e = .returned (.bool true) ∧ J rest W' ∧ ∃ v', HC B bc bn (.func (.yield l) #[] #[]) W' v' xs) ∨ (e = .returned (.bool false) ∧ Jx W') := by
  intro k
  induction k with
  | zero => 
    intro f r xs rest W v hk hf H hJ
    obtain ⟨yv, hyv⟩ : ∃ yv, yv = Value.func (.yield l) #[] #[] := ⟨_, rfl⟩
    rw [← hyv] at H
    refine callsIn_of_wp (F := Fw none) (n := 0) (fn := Tryz.f179) Tryz.func179 body179 trivial ?_
    obtain ⟨a0, ha0⟩ : ∃ a0 : Act, a0 = { tmps := (#[.int .i64 (f : Nat)] ++ capt B bc bn) ++ Array.replicate (Tryz.f179.ntmps - (#[Value.int .i64 (f : Nat)] ++ capt B bc bn).size) undef, defers := [] } := ⟨_, rfl⟩
    rw [← ha0]
    have R0 : RS a0 ((f : Nat) : Int) B bc bn := rs_init rfl ha0
    clear ha0
    have hJb := hY.boxes _ _ hJ
    obtain ⟨vad, vc, hv⟩ := ld_len H.ld
    refine wpIn_seq (wpIn_region_list ?_)
    refine list_step rfl (op_val (by intro d h; cases h) (asR a0 W _ (.const (.bool false)) rfl rfl) ?_)
    obtain ⟨u1, qu1⟩ : ∃ x, x = a0.put (some 7) (.bool false) := ⟨_, rfl⟩
    have zu1 : u1.tmps.size = 36 := by rw [qu1, size_put]; exact R0.size
    have du1 : u1.defers = [] := by rw [qu1, defers_put]; exact R0.defers
    have gu1_0 : u1.tmps.getD 0 undef = (.int .i64 (f : Nat)) := by rw [qu1]; exact (getD_put_ne (by decide)).trans R0.s0
    have gu1_1 : u1.tmps.getD 1 undef = (.pointer (some ⟨(B + 1), 0, none⟩)) := by rw [qu1]; exact (getD_put_ne (by decide)).trans R0.s1
    have gu1_2 : u1.tmps.getD 2 undef = (.pointer (some ⟨bc, 0, none⟩)) := by rw [qu1]; exact (getD_put_ne (by decide)).trans R0.s2
    have gu1_3 : u1.tmps.getD 3 undef = (.pointer (some ⟨B, 0, none⟩)) := by rw [qu1]; exact (getD_put_ne (by decide)).trans R0.s3
    have gu1_4 : u1.tmps.getD 4 undef = (.pointer (some ⟨bn, 0, none⟩)) := by rw [qu1]; exact (getD_put_ne (by decide)).trans R0.s4
    have gu1_5 : u1.tmps.getD 5 undef = (.pointer (some ⟨(B + 2), 0, none⟩)) := by rw [qu1]; exact (getD_put_ne (by decide)).trans R0.s5
    have gu1_7 : u1.tmps.getD 7 undef = (.bool false) := by rw [qu1]; exact getD_put_eq (by rw [R0.size]; decide)
    change wpListIn (Fw none) 0 Tryz.prog _ _ _ (a0.put (some 7) (.bool false)) W
    rw [← qu1]
    have R1 : RS u1 f B bc bn := ⟨zu1, du1, gu1_0, gu1_1, gu1_2, gu1_3, gu1_4, gu1_5⟩
    refine list_nil (wpIn_seq (wpIn_seq (wpIn_region_list ?_)))
    refine list_step rfl (op_val (by intro d h; cases h) (ld76 u1 W _ (.tmp 1) rfl R1.s1 H.hl rfl) ?_)
    obtain ⟨v1, qv1⟩ : ∃ x, x = u1.put (some 9) v := ⟨_, rfl⟩
    have zv1 : v1.tmps.size = 36 := by rw [qv1, size_put]; exact R1.size
    have dv1 : v1.defers = [] := by rw [qv1, defers_put]; exact R1.defers
    have gv1_0 : v1.tmps.getD 0 undef = (.int .i64 (f : Nat)) := by rw [qv1]; exact (getD_put_ne (by decide)).trans R1.s0
    have gv1_1 : v1.tmps.getD 1 undef = (.pointer (some ⟨(B + 1), 0, none⟩)) := by rw [qv1]; exact (getD_put_ne (by decide)).trans R1.s1
    have gv1_2 : v1.tmps.getD 2 undef = (.pointer (some ⟨bc, 0, none⟩)) := by rw [qv1]; exact (getD_put_ne (by decide)).trans R1.s2
    have gv1_3 : v1.tmps.getD 3 undef = (.pointer (some ⟨B, 0, none⟩)) := by rw [qv1]; exact (getD_put_ne (by decide)).trans R1.s3
    have gv1_4 : v1.tmps.getD 4 undef = (.pointer (some ⟨bn, 0, none⟩)) := by rw [qv1]; exact (getD_put_ne (by decide)).trans R1.s4
    have gv1_5 : v1.tmps.getD 5 undef = (.pointer (some ⟨(B + 2), 0, none⟩)) := by rw [qv1]; exact (getD_put_ne (by decide)).trans R1.s5
    have gv1_9 : v1.tmps.getD 9 undef = v := by rw [qv1]; exact getD_put_eq (by rw [R1.size]; decide)
    change wpListIn (Fw none) 0 Tryz.prog _ _ _ (u1.put (some 9) v) W
    rw [← qv1]
    refine list_step rfl (op_val (by intro d h; cases h) (lnR Tryz.underlying76 v1 W _ (.tmp 9) rfl (gv1_9.trans hv)) ?_)
    obtain ⟨v2, qv2⟩ : ∃ x, x = v1.put (some 10) (.int .i64 (xs.length : Nat)) := ⟨_, rfl⟩
    have zv2 : v2.tmps.size = 36 := by rw [qv2, size_put]; exact zv1
    have dv2 : v2.defers = [] := by rw [qv2, defers_put]; exact dv1
    have gv2_0 : v2.tmps.getD 0 undef = (.int .i64 (f : Nat)) := by rw [qv2]; exact (getD_put_ne (by decide)).trans gv1_0
    have gv2_1 : v2.tmps.getD 1 undef = (.pointer (some ⟨(B + 1), 0, none⟩)) := by rw [qv2]; exact (getD_put_ne (by decide)).trans gv1_1
    have gv2_2 : v2.tmps.getD 2 undef = (.pointer (some ⟨bc, 0, none⟩)) := by rw [qv2]; exact (getD_put_ne (by decide)).trans gv1_2
    have gv2_3 : v2.tmps.getD 3 undef = (.pointer (some ⟨B, 0, none⟩)) := by rw [qv2]; exact (getD_put_ne (by decide)).trans gv1_3
    have gv2_4 : v2.tmps.getD 4 undef = (.pointer (some ⟨bn, 0, none⟩)) := by rw [qv2]; exact (getD_put_ne (by decide)).trans gv1_4
    have gv2_5 : v2.tmps.getD 5 undef = (.pointer (some ⟨(B + 2), 0, none⟩)) := by rw [qv2]; exact (getD_put_ne (by decide)).trans gv1_5
    have gv2_9 : v2.tmps.getD 9 undef = v := by rw [qv2]; exact (getD_put_ne (by decide)).trans gv1_9
    have gv2_10 : v2.tmps.getD 10 undef = (.int .i64 (xs.length : Nat)) := by rw [qv2]; exact getD_put_eq (by rw [zv1]; decide)
    change wpListIn (Fw none) 0 Tryz.prog _ _ _ (v1.put (some 10) (.int .i64 (xs.length : Nat))) W
    rw [← qv2]
    refine list_step rfl (op_val (by intro d h; cases h) (ld3 v2 W _ (.tmp 2) rfl gv2_2 hJb.1 rfl) ?_)
    obtain ⟨v3, qv3⟩ : ∃ x, x = v2.put (some 11) (.int .i64 (count : Nat)) := ⟨_, rfl⟩
    have zv3 : v3.tmps.size = 36 := by rw [qv3, size_put]; exact zv2
    have dv3 : v3.defers = [] := by rw [qv3, defers_put]; exact dv2
    have gv3_0 : v3.tmps.getD 0 undef = (.int .i64 (f : Nat)) := by rw [qv3]; exact (getD_put_ne (by decide)).trans gv2_0
    have gv3_1 : v3.tmps.getD 1 undef = (.pointer (some ⟨(B + 1), 0, none⟩)) := by rw [qv3]; exact (getD_put_ne (by decide)).trans gv2_1
    have gv3_2 : v3.tmps.getD 2 undef = (.pointer (some ⟨bc, 0, none⟩)) := by rw [qv3]; exact (getD_put_ne (by decide)).trans gv2_2
    have gv3_3 : v3.tmps.getD 3 undef = (.pointer (some ⟨B, 0, none⟩)) := by rw [qv3]; exact (getD_put_ne (by decide)).trans gv2_3
    have gv3_4 : v3.tmps.getD 4 undef = (.pointer (some ⟨bn, 0, none⟩)) := by rw [qv3]; exact (getD_put_ne (by decide)).trans gv2_4
    have gv3_5 : v3.tmps.getD 5 undef = (.pointer (some ⟨(B + 2), 0, none⟩)) := by rw [qv3]; exact (getD_put_ne (by decide)).trans gv2_5
    have gv3_9 : v3.tmps.getD 9 undef = v := by rw [qv3]; exact (getD_put_ne (by decide)).trans gv2_9
    have gv3_10 : v3.tmps.getD 10 undef = (.int .i64 (xs.length : Nat)) := by rw [qv3]; exact (getD_put_ne (by decide)).trans gv2_10
    have gv3_11 : v3.tmps.getD 11 undef = (.int .i64 (count : Nat)) := by rw [qv3]; exact getD_put_eq (by rw [zv2]; decide)
    change wpListIn (Fw none) 0 Tryz.prog _ _ _ (v2.put (some 11) (.int .i64 (count : Nat))) W
    rw [← qv3]
    refine list_step rfl (op_val (by intro d h; cases h) (eqR v3 W _ (.tmp 10) (.tmp 11) rfl gv3_10 gv3_11) ?_)
    obtain ⟨v4, qv4⟩ : ∃ x, x = v3.put (some 12) (.bool (decide (((xs.length : Nat) : Int) = ((count : Nat) : Int)))) := ⟨_, rfl⟩
    have zv4 : v4.tmps.size = 36 := by rw [qv4, size_put]; exact zv3
    have dv4 : v4.defers = [] := by rw [qv4, defers_put]; exact dv3
    have gv4_0 : v4.tmps.getD 0 undef = (.int .i64 (f : Nat)) := by rw [qv4]; exact (getD_put_ne (by decide)).trans gv3_0
    have gv4_1 : v4.tmps.getD 1 undef = (.pointer (some ⟨(B + 1), 0, none⟩)) := by rw [qv4]; exact (getD_put_ne (by decide)).trans gv3_1
    have gv4_2 : v4.tmps.getD 2 undef = (.pointer (some ⟨bc, 0, none⟩)) := by rw [qv4]; exact (getD_put_ne (by decide)).trans gv3_2
    have gv4_3 : v4.tmps.getD 3 undef = (.pointer (some ⟨B, 0, none⟩)) := by rw [qv4]; exact (getD_put_ne (by decide)).trans gv3_3
    have gv4_4 : v4.tmps.getD 4 undef = (.pointer (some ⟨bn, 0, none⟩)) := by rw [qv4]; exact (getD_put_ne (by decide)).trans gv3_4
    have gv4_5 : v4.tmps.getD 5 undef = (.pointer (some ⟨(B + 2), 0, none⟩)) := by rw [qv4]; exact (getD_put_ne (by decide)).trans gv3_5
    have gv4_9 : v4.tmps.getD 9 undef = v := by rw [qv4]; exact (getD_put_ne (by decide)).trans gv3_9
    have gv4_10 : v4.tmps.getD 10 undef = (.int .i64 (xs.length : Nat)) := by rw [qv4]; exact (getD_put_ne (by decide)).trans gv3_10
    have gv4_11 : v4.tmps.getD 11 undef = (.int .i64 (count : Nat)) := by rw [qv4]; exact (getD_put_ne (by decide)).trans gv3_11
    have gv4_12 : v4.tmps.getD 12 undef = (.bool (decide (((xs.length : Nat) : Int) = ((count : Nat) : Int)))) := by rw [qv4]; exact getD_put_eq (by rw [zv3]; decide)
    change wpListIn (Fw none) 0 Tryz.prog _ _ _ (v3.put (some 12) (.bool (decide (((xs.length : Nat) : Int) = ((count : Nat) : Int))))) W
    rw [← qv4]
    have R2 : RS v4 f B bc bn := ⟨zv4, dv4, gv4_0, gv4_1, gv4_2, gv4_3, gv4_4, gv4_5⟩
    have h12 := gv4_12
    refine list_nil ?_
    have h12 : v4.eval (.tmp 12) = .bool true := h12.trans (by rw [decide_eq_true (by omega)])
    refine wpIn_cond_true h12 (wpIn_seq ?_)
    change Code.wpIn (Fw none) 0 Tryz.prog N2 _ v4 W
    refine wpIn_region_list ?_
    refine list_step rfl (op_val (by intro d h; cases h) (ldF agg234 v4 W _ (.tmp 3) rfl R2.s3 H.hy rfl) ?_)
    obtain ⟨y1, qy1⟩ : ∃ x, x = v4.put (some 13) yv := ⟨_, rfl⟩
    have zy1 : y1.tmps.size = 36 := by rw [qy1, size_put]; exact R2.size
    have dy1 : y1.defers = [] := by rw [qy1, defers_put]; exact R2.defers
    have gy1_0 : y1.tmps.getD 0 undef = (.int .i64 (f : Nat)) := by rw [qy1]; exact (getD_put_ne (by decide)).trans R2.s0
    have gy1_1 : y1.tmps.getD 1 undef = (.pointer (some ⟨(B + 1), 0, none⟩)) := by rw [qy1]; exact (getD_put_ne (by decide)).trans R2.s1
    have gy1_2 : y1.tmps.getD 2 undef = (.pointer (some ⟨bc, 0, none⟩)) := by rw [qy1]; exact (getD_put_ne (by decide)).trans R2.s2
    have gy1_3 : y1.tmps.getD 3 undef = (.pointer (some ⟨B, 0, none⟩)) := by rw [qy1]; exact (getD_put_ne (by decide)).trans R2.s3
    have gy1_4 : y1.tmps.getD 4 undef = (.pointer (some ⟨bn, 0, none⟩)) := by rw [qy1]; exact (getD_put_ne (by decide)).trans R2.s4
    have gy1_5 : y1.tmps.getD 5 undef = (.pointer (some ⟨(B + 2), 0, none⟩)) := by rw [qy1]; exact (getD_put_ne (by decide)).trans R2.s5
    have gy1_13 : y1.tmps.getD 13 undef = yv := by rw [qy1]; exact getD_put_eq (by rw [R2.size]; decide)
    change wpListIn (Fw none) 0 Tryz.prog _ _ _ (v4.put (some 13) yv) W
    rw [← qy1]
    refine list_step rfl (op_val (by intro d h; cases h) (ld76 y1 W _ (.tmp 1) rfl gy1_1 H.hl rfl) ?_)
    obtain ⟨y2, qy2⟩ : ∃ x, x = y1.put (some 14) v := ⟨_, rfl⟩
    have zy2 : y2.tmps.size = 36 := by rw [qy2, size_put]; exact zy1
    have dy2 : y2.defers = [] := by rw [qy2, defers_put]; exact dy1
    have gy2_0 : y2.tmps.getD 0 undef = (.int .i64 (f : Nat)) := by rw [qy2]; exact (getD_put_ne (by decide)).trans gy1_0
    have gy2_1 : y2.tmps.getD 1 undef = (.pointer (some ⟨(B + 1), 0, none⟩)) := by rw [qy2]; exact (getD_put_ne (by decide)).trans gy1_1
    have gy2_2 : y2.tmps.getD 2 undef = (.pointer (some ⟨bc, 0, none⟩)) := by rw [qy2]; exact (getD_put_ne (by decide)).trans gy1_2
    have gy2_3 : y2.tmps.getD 3 undef = (.pointer (some ⟨B, 0, none⟩)) := by rw [qy2]; exact (getD_put_ne (by decide)).trans gy1_3
    have gy2_4 : y2.tmps.getD 4 undef = (.pointer (some ⟨bn, 0, none⟩)) := by rw [qy2]; exact (getD_put_ne (by decide)).trans gy1_4
    have gy2_5 : y2.tmps.getD 5 undef = (.pointer (some ⟨(B + 2), 0, none⟩)) := by rw [qy2]; exact (getD_put_ne (by decide)).trans gy1_5
    have gy2_13 : y2.tmps.getD 13 undef = yv := by rw [qy2]; exact (getD_put_ne (by decide)).trans gy1_13
    have gy2_14 : y2.tmps.getD 14 undef = v := by rw [qy2]; exact getD_put_eq (by rw [zy1]; decide)
    change wpListIn (Fw none) 0 Tryz.prog _ _ _ (y1.put (some 14) v) W
    rw [← qy2]
    have hJ : J (xs :: rest) W := by simpa [combs] using hJ
    rcases H.ld with ⟨h, _⟩ | ⟨ls, c, cur, l1, l2, l3, l4⟩
    · rw [h] at hk; simp at hk; omega
    obtain ⟨fl, tl, al, bl, hrun, hround⟩ := hY.yields xs rest W ls c cur hJ (by omega) l2 l4
    refine list_step rfl (op_round (l := l) (f := fl) (tmps := tl) (assign := al) (body := bl) (by intro d h; cases h) ?_ (RoundIn.mono hround ?_))
    · simp [execOp, resolve, Deferred.ofValue, ev, gy2_13, gy2_14, hyv, l3, invoke, callFunc]
      exact hrun
    rintro e W' ⟨hab, ⟨rfl, hJ'⟩ | ⟨rfl, hJx⟩⟩
    · refine ⟨.bool true, rfl, ?_⟩
      obtain ⟨yt1, qyt1⟩ : ∃ x, x = y2.put (some 15) (.bool true) := ⟨_, rfl⟩
      have zyt1 : yt1.tmps.size = 36 := by rw [qyt1, size_put]; exact zy2
      have dyt1 : yt1.defers = [] := by rw [qyt1, defers_put]; exact dy2
      have gyt1_0 : yt1.tmps.getD 0 undef = (.int .i64 (f : Nat)) := by rw [qyt1]; exact (getD_put_ne (by decide)).trans gy2_0
      have gyt1_1 : yt1.tmps.getD 1 undef = (.pointer (some ⟨(B + 1), 0, none⟩)) := by rw [qyt1]; exact (getD_put_ne (by decide)).trans gy2_1
      have gyt1_2 : yt1.tmps.getD 2 undef = (.pointer (some ⟨bc, 0, none⟩)) := by rw [qyt1]; exact (getD_put_ne (by decide)).trans gy2_2
      have gyt1_3 : yt1.tmps.getD 3 undef = (.pointer (some ⟨B, 0, none⟩)) := by rw [qyt1]; exact (getD_put_ne (by decide)).trans gy2_3
      have gyt1_4 : yt1.tmps.getD 4 undef = (.pointer (some ⟨bn, 0, none⟩)) := by rw [qyt1]; exact (getD_put_ne (by decide)).trans gy2_4
      have gyt1_5 : yt1.tmps.getD 5 undef = (.pointer (some ⟨(B + 2), 0, none⟩)) := by rw [qyt1]; exact (getD_put_ne (by decide)).trans gy2_5
      have gyt1_13 : yt1.tmps.getD 13 undef = yv := by rw [qyt1]; exact (getD_put_ne (by decide)).trans gy2_13
      have gyt1_14 : yt1.tmps.getD 14 undef = v := by rw [qyt1]; exact (getD_put_ne (by decide)).trans gy2_14
      have gyt1_15 : yt1.tmps.getD 15 undef = (.bool true) := by rw [qyt1]; exact getD_put_eq (by rw [zy2]; decide)
      change wpListIn (Fw none) 0 Tryz.prog _ _ _ (y2.put (some 15) (.bool true)) W'
      rw [← qyt1]
      refine list_step rfl (op_val (by intro d h; cases h) (asR yt1 W' _ (.tmp 15) rfl gyt1_15) ?_)
      obtain ⟨yt2, qyt2⟩ : ∃ x, x = yt1.put (some 7) (.bool true) := ⟨_, rfl⟩
      have zyt2 : yt2.tmps.size = 36 := by rw [qyt2, size_put]; exact zyt1
      have dyt2 : yt2.defers = [] := by rw [qyt2, defers_put]; exact dyt1
      have gyt2_0 : yt2.tmps.getD 0 undef = (.int .i64 (f : Nat)) := by rw [qyt2]; exact (getD_put_ne (by decide)).trans gyt1_0
      have gyt2_1 : yt2.tmps.getD 1 undef = (.pointer (some ⟨(B + 1), 0, none⟩)) := by rw [qyt2]; exact (getD_put_ne (by decide)).trans gyt1_1
      have gyt2_2 : yt2.tmps.getD 2 undef = (.pointer (some ⟨bc, 0, none⟩)) := by rw [qyt2]; exact (getD_put_ne (by decide)).trans gyt1_2
      have gyt2_3 : yt2.tmps.getD 3 undef = (.pointer (some ⟨B, 0, none⟩)) := by rw [qyt2]; exact (getD_put_ne (by decide)).trans gyt1_3
      have gyt2_4 : yt2.tmps.getD 4 undef = (.pointer (some ⟨bn, 0, none⟩)) := by rw [qyt2]; exact (getD_put_ne (by decide)).trans gyt1_4
      have gyt2_5 : yt2.tmps.getD 5 undef = (.pointer (some ⟨(B + 2), 0, none⟩)) := by rw [qyt2]; exact (getD_put_ne (by decide)).trans gyt1_5
      have gyt2_13 : yt2.tmps.getD 13 undef = yv := by rw [qyt2]; exact (getD_put_ne (by decide)).trans gyt1_13
      have gyt2_14 : yt2.tmps.getD 14 undef = v := by rw [qyt2]; exact (getD_put_ne (by decide)).trans gyt1_14
      have gyt2_15 : yt2.tmps.getD 15 undef = (.bool true) := by rw [qyt2]; exact (getD_put_ne (by decide)).trans gyt1_15
      have gyt2_7 : yt2.tmps.getD 7 undef = (.bool true) := by rw [qyt2]; exact getD_put_eq (by rw [zyt1]; decide)
      change wpListIn (Fw none) 0 Tryz.prog _ _ _ (yt1.put (some 7) (.bool true)) W'
      rw [← qyt2]
      refine list_nil (wpIn_ret ?_)
      refine (show bodyPost Tryz.prog Tryz.f179 (fun e W' => (e = .returned (.bool true) ∧ J rest W' ∧ ∃ v', HC B bc bn (.func (.yield l) #[] #[]) W' v' xs) ∨ (e = .returned (.bool false) ∧ Jx W')) .ret yt2 W' from ?_)
      refine ret1 dyt2 gyt2_7 (.inl ⟨rfl, hJ', v, ?_⟩)
      rw [← hyv]; exact H.abv hab
    · refine ⟨.bool false, rfl, ?_⟩
      obtain ⟨yf1, qyf1⟩ : ∃ x, x = y2.put (some 15) (.bool false) := ⟨_, rfl⟩
      have zyf1 : yf1.tmps.size = 36 := by rw [qyf1, size_put]; exact zy2
      have dyf1 : yf1.defers = [] := by rw [qyf1, defers_put]; exact dy2
      have gyf1_0 : yf1.tmps.getD 0 undef = (.int .i64 (f : Nat)) := by rw [qyf1]; exact (getD_put_ne (by decide)).trans gy2_0
      have gyf1_1 : yf1.tmps.getD 1 undef = (.pointer (some ⟨(B + 1), 0, none⟩)) := by rw [qyf1]; exact (getD_put_ne (by decide)).trans gy2_1
      have gyf1_2 : yf1.tmps.getD 2 undef = (.pointer (some ⟨bc, 0, none⟩)) := by rw [qyf1]; exact (getD_put_ne (by decide)).trans gy2_2
      have gyf1_3 : yf1.tmps.getD 3 undef = (.pointer (some ⟨B, 0, none⟩)) := by rw [qyf1]; exact (getD_put_ne (by decide)).trans gy2_3
      have gyf1_4 : yf1.tmps.getD 4 undef = (.pointer (some ⟨bn, 0, none⟩)) := by rw [qyf1]; exact (getD_put_ne (by decide)).trans gy2_4
      have gyf1_5 : yf1.tmps.getD 5 undef = (.pointer (some ⟨(B + 2), 0, none⟩)) := by rw [qyf1]; exact (getD_put_ne (by decide)).trans gy2_5
      have gyf1_13 : yf1.tmps.getD 13 undef = yv := by rw [qyf1]; exact (getD_put_ne (by decide)).trans gy2_13
      have gyf1_14 : yf1.tmps.getD 14 undef = v := by rw [qyf1]; exact (getD_put_ne (by decide)).trans gy2_14
      have gyf1_15 : yf1.tmps.getD 15 undef = (.bool false) := by rw [qyf1]; exact getD_put_eq (by rw [zy2]; decide)
      change wpListIn (Fw none) 0 Tryz.prog _ _ _ (y2.put (some 15) (.bool false)) W'
      rw [← qyf1]
      refine list_step rfl (op_val (by intro d h; cases h) (asR yf1 W' _ (.tmp 15) rfl gyf1_15) ?_)
      obtain ⟨yf2, qyf2⟩ : ∃ x, x = yf1.put (some 7) (.bool false) := ⟨_, rfl⟩
      have zyf2 : yf2.tmps.size = 36 := by rw [qyf2, size_put]; exact zyf1
      have dyf2 : yf2.defers = [] := by rw [qyf2, defers_put]; exact dyf1
      have gyf2_0 : yf2.tmps.getD 0 undef = (.int .i64 (f : Nat)) := by rw [qyf2]; exact (getD_put_ne (by decide)).trans gyf1_0
      have gyf2_1 : yf2.tmps.getD 1 undef = (.pointer (some ⟨(B + 1), 0, none⟩)) := by rw [qyf2]; exact (getD_put_ne (by decide)).trans gyf1_1
      have gyf2_2 : yf2.tmps.getD 2 undef = (.pointer (some ⟨bc, 0, none⟩)) := by rw [qyf2]; exact (getD_put_ne (by decide)).trans gyf1_2
      have gyf2_3 : yf2.tmps.getD 3 undef = (.pointer (some ⟨B, 0, none⟩)) := by rw [qyf2]; exact (getD_put_ne (by decide)).trans gyf1_3
      have gyf2_4 : yf2.tmps.getD 4 undef = (.pointer (some ⟨bn, 0, none⟩)) := by rw [qyf2]; exact (getD_put_ne (by decide)).trans gyf1_4
      have gyf2_5 : yf2.tmps.getD 5 undef = (.pointer (some ⟨(B + 2), 0, none⟩)) := by rw [qyf2]; exact (getD_put_ne (by decide)).trans gyf1_5
      have gyf2_13 : yf2.tmps.getD 13 undef = yv := by rw [qyf2]; exact (getD_put_ne (by decide)).trans gyf1_13
      have gyf2_14 : yf2.tmps.getD 14 undef = v := by rw [qyf2]; exact (getD_put_ne (by decide)).trans gyf1_14
      have gyf2_15 : yf2.tmps.getD 15 undef = (.bool false) := by rw [qyf2]; exact (getD_put_ne (by decide)).trans gyf1_15
      have gyf2_7 : yf2.tmps.getD 7 undef = (.bool false) := by rw [qyf2]; exact getD_put_eq (by rw [zyf1]; decide)
      change wpListIn (Fw none) 0 Tryz.prog _ _ _ (yf1.put (some 7) (.bool false)) W'
      rw [← qyf2]
      refine list_nil (wpIn_ret ?_)
      refine (show bodyPost Tryz.prog Tryz.f179 (fun e W' => (e = .returned (.bool true) ∧ J rest W' ∧ ∃ v', HC B bc bn (.func (.yield l) #[] #[]) W' v' xs) ∨ (e = .returned (.bool false) ∧ Jx W')) .ret yf2 W' from ?_)
      exact ret1 dyf2 gyf2_7 (.inr ⟨rfl, hJx⟩)
  | succ k ih =>
    intro f r xs rest W v hk hf H hJ
    obtain ⟨yv, hyv⟩ : ∃ yv, yv = Value.func (.yield l) #[] #[] := ⟨_, rfl⟩
    rw [← hyv] at H
    refine callsIn_of_wp (F := Fw none) (n := 0) (fn := Tryz.f179) Tryz.func179 body179 trivial ?_
    obtain ⟨a0, ha0⟩ : ∃ a0 : Act, a0 = { tmps := (#[.int .i64 (f : Nat)] ++ capt B bc bn) ++ Array.replicate (Tryz.f179.ntmps - (#[Value.int .i64 (f : Nat)] ++ capt B bc bn).size) undef, defers := [] } := ⟨_, rfl⟩
    rw [← ha0]
    have R0 : RS a0 ((f : Nat) : Int) B bc bn := rs_init rfl ha0
    clear ha0
    have hJb := hY.boxes _ _ hJ
    obtain ⟨vad, vc, hv⟩ := ld_len H.ld
    refine wpIn_seq (wpIn_region_list ?_)
    refine list_step rfl (op_val (by intro d h; cases h) (asR a0 W _ (.const (.bool false)) rfl rfl) ?_)
    obtain ⟨u1, qu1⟩ : ∃ x, x = a0.put (some 7) (.bool false) := ⟨_, rfl⟩
    have zu1 : u1.tmps.size = 36 := by rw [qu1, size_put]; exact R0.size
    have du1 : u1.defers = [] := by rw [qu1, defers_put]; exact R0.defers
    have gu1_0 : u1.tmps.getD 0 undef = (.int .i64 (f : Nat)) := by rw [qu1]; exact (getD_put_ne (by decide)).trans R0.s0
    have gu1_1 : u1.tmps.getD 1 undef = (.pointer (some ⟨(B + 1), 0, none⟩)) := by rw [qu1]; exact (getD_put_ne (by decide)).trans R0.s1
    have gu1_2 : u1.tmps.getD 2 undef = (.pointer (some ⟨bc, 0, none⟩)) := by rw [qu1]; exact (getD_put_ne (by decide)).trans R0.s2
    have gu1_3 : u1.tmps.getD 3 undef = (.pointer (some ⟨B, 0, none⟩)) := by rw [qu1]; exact (getD_put_ne (by decide)).trans R0.s3
    have gu1_4 : u1.tmps.getD 4 undef = (.pointer (some ⟨bn, 0, none⟩)) := by rw [qu1]; exact (getD_put_ne (by decide)).trans R0.s4
    have gu1_5 : u1.tmps.getD 5 undef = (.pointer (some ⟨(B + 2), 0, none⟩)) := by rw [qu1]; exact (getD_put_ne (by decide)).trans R0.s5
    have gu1_7 : u1.tmps.getD 7 undef = (.bool false) := by rw [qu1]; exact getD_put_eq (by rw [R0.size]; decide)
    change wpListIn (Fw none) 0 Tryz.prog _ _ _ (a0.put (some 7) (.bool false)) W
    rw [← qu1]
    have R1 : RS u1 f B bc bn := ⟨zu1, du1, gu1_0, gu1_1, gu1_2, gu1_3, gu1_4, gu1_5⟩
    refine list_nil (wpIn_seq (wpIn_seq (wpIn_region_list ?_)))
    refine list_step rfl (op_val (by intro d h; cases h) (ld76 u1 W _ (.tmp 1) rfl R1.s1 H.hl rfl) ?_)
    obtain ⟨v1, qv1⟩ : ∃ x, x = u1.put (some 9) v := ⟨_, rfl⟩
    have zv1 : v1.tmps.size = 36 := by rw [qv1, size_put]; exact R1.size
    have dv1 : v1.defers = [] := by rw [qv1, defers_put]; exact R1.defers
    have gv1_0 : v1.tmps.getD 0 undef = (.int .i64 (f : Nat)) := by rw [qv1]; exact (getD_put_ne (by decide)).trans R1.s0
    have gv1_1 : v1.tmps.getD 1 undef = (.pointer (some ⟨(B + 1), 0, none⟩)) := by rw [qv1]; exact (getD_put_ne (by decide)).trans R1.s1
    have gv1_2 : v1.tmps.getD 2 undef = (.pointer (some ⟨bc, 0, none⟩)) := by rw [qv1]; exact (getD_put_ne (by decide)).trans R1.s2
    have gv1_3 : v1.tmps.getD 3 undef = (.pointer (some ⟨B, 0, none⟩)) := by rw [qv1]; exact (getD_put_ne (by decide)).trans R1.s3
    have gv1_4 : v1.tmps.getD 4 undef = (.pointer (some ⟨bn, 0, none⟩)) := by rw [qv1]; exact (getD_put_ne (by decide)).trans R1.s4
    have gv1_5 : v1.tmps.getD 5 undef = (.pointer (some ⟨(B + 2), 0, none⟩)) := by rw [qv1]; exact (getD_put_ne (by decide)).trans R1.s5
    have gv1_9 : v1.tmps.getD 9 undef = v := by rw [qv1]; exact getD_put_eq (by rw [R1.size]; decide)
    change wpListIn (Fw none) 0 Tryz.prog _ _ _ (u1.put (some 9) v) W
    rw [← qv1]
    refine list_step rfl (op_val (by intro d h; cases h) (lnR Tryz.underlying76 v1 W _ (.tmp 9) rfl (gv1_9.trans hv)) ?_)
    obtain ⟨v2, qv2⟩ : ∃ x, x = v1.put (some 10) (.int .i64 (xs.length : Nat)) := ⟨_, rfl⟩
    have zv2 : v2.tmps.size = 36 := by rw [qv2, size_put]; exact zv1
    have dv2 : v2.defers = [] := by rw [qv2, defers_put]; exact dv1
    have gv2_0 : v2.tmps.getD 0 undef = (.int .i64 (f : Nat)) := by rw [qv2]; exact (getD_put_ne (by decide)).trans gv1_0
    have gv2_1 : v2.tmps.getD 1 undef = (.pointer (some ⟨(B + 1), 0, none⟩)) := by rw [qv2]; exact (getD_put_ne (by decide)).trans gv1_1
    have gv2_2 : v2.tmps.getD 2 undef = (.pointer (some ⟨bc, 0, none⟩)) := by rw [qv2]; exact (getD_put_ne (by decide)).trans gv1_2
    have gv2_3 : v2.tmps.getD 3 undef = (.pointer (some ⟨B, 0, none⟩)) := by rw [qv2]; exact (getD_put_ne (by decide)).trans gv1_3
    have gv2_4 : v2.tmps.getD 4 undef = (.pointer (some ⟨bn, 0, none⟩)) := by rw [qv2]; exact (getD_put_ne (by decide)).trans gv1_4
    have gv2_5 : v2.tmps.getD 5 undef = (.pointer (some ⟨(B + 2), 0, none⟩)) := by rw [qv2]; exact (getD_put_ne (by decide)).trans gv1_5
    have gv2_9 : v2.tmps.getD 9 undef = v := by rw [qv2]; exact (getD_put_ne (by decide)).trans gv1_9
    have gv2_10 : v2.tmps.getD 10 undef = (.int .i64 (xs.length : Nat)) := by rw [qv2]; exact getD_put_eq (by rw [zv1]; decide)
    change wpListIn (Fw none) 0 Tryz.prog _ _ _ (v1.put (some 10) (.int .i64 (xs.length : Nat))) W
    rw [← qv2]
    refine list_step rfl (op_val (by intro d h; cases h) (ld3 v2 W _ (.tmp 2) rfl gv2_2 hJb.1 rfl) ?_)
    obtain ⟨v3, qv3⟩ : ∃ x, x = v2.put (some 11) (.int .i64 (count : Nat)) := ⟨_, rfl⟩
    have zv3 : v3.tmps.size = 36 := by rw [qv3, size_put]; exact zv2
    have dv3 : v3.defers = [] := by rw [qv3, defers_put]; exact dv2
    have gv3_0 : v3.tmps.getD 0 undef = (.int .i64 (f : Nat)) := by rw [qv3]; exact (getD_put_ne (by decide)).trans gv2_0
    have gv3_1 : v3.tmps.getD 1 undef = (.pointer (some ⟨(B + 1), 0, none⟩)) := by rw [qv3]; exact (getD_put_ne (by decide)).trans gv2_1
    have gv3_2 : v3.tmps.getD 2 undef = (.pointer (some ⟨bc, 0, none⟩)) := by rw [qv3]; exact (getD_put_ne (by decide)).trans gv2_2
    have gv3_3 : v3.tmps.getD 3 undef = (.pointer (some ⟨B, 0, none⟩)) := by rw [qv3]; exact (getD_put_ne (by decide)).trans gv2_3
    have gv3_4 : v3.tmps.getD 4 undef = (.pointer (some ⟨bn, 0, none⟩)) := by rw [qv3]; exact (getD_put_ne (by decide)).trans gv2_4
    have gv3_5 : v3.tmps.getD 5 undef = (.pointer (some ⟨(B + 2), 0, none⟩)) := by rw [qv3]; exact (getD_put_ne (by decide)).trans gv2_5
    have gv3_9 : v3.tmps.getD 9 undef = v := by rw [qv3]; exact (getD_put_ne (by decide)).trans gv2_9
    have gv3_10 : v3.tmps.getD 10 undef = (.int .i64 (xs.length : Nat)) := by rw [qv3]; exact (getD_put_ne (by decide)).trans gv2_10
    have gv3_11 : v3.tmps.getD 11 undef = (.int .i64 (count : Nat)) := by rw [qv3]; exact getD_put_eq (by rw [zv2]; decide)
    change wpListIn (Fw none) 0 Tryz.prog _ _ _ (v2.put (some 11) (.int .i64 (count : Nat))) W
    rw [← qv3]
    refine list_step rfl (op_val (by intro d h; cases h) (eqR v3 W _ (.tmp 10) (.tmp 11) rfl gv3_10 gv3_11) ?_)
    obtain ⟨v4, qv4⟩ : ∃ x, x = v3.put (some 12) (.bool (decide (((xs.length : Nat) : Int) = ((count : Nat) : Int)))) := ⟨_, rfl⟩
    have zv4 : v4.tmps.size = 36 := by rw [qv4, size_put]; exact zv3
    have dv4 : v4.defers = [] := by rw [qv4, defers_put]; exact dv3
    have gv4_0 : v4.tmps.getD 0 undef = (.int .i64 (f : Nat)) := by rw [qv4]; exact (getD_put_ne (by decide)).trans gv3_0
    have gv4_1 : v4.tmps.getD 1 undef = (.pointer (some ⟨(B + 1), 0, none⟩)) := by rw [qv4]; exact (getD_put_ne (by decide)).trans gv3_1
    have gv4_2 : v4.tmps.getD 2 undef = (.pointer (some ⟨bc, 0, none⟩)) := by rw [qv4]; exact (getD_put_ne (by decide)).trans gv3_2
    have gv4_3 : v4.tmps.getD 3 undef = (.pointer (some ⟨B, 0, none⟩)) := by rw [qv4]; exact (getD_put_ne (by decide)).trans gv3_3
    have gv4_4 : v4.tmps.getD 4 undef = (.pointer (some ⟨bn, 0, none⟩)) := by rw [qv4]; exact (getD_put_ne (by decide)).trans gv3_4
    have gv4_5 : v4.tmps.getD 5 undef = (.pointer (some ⟨(B + 2), 0, none⟩)) := by rw [qv4]; exact (getD_put_ne (by decide)).trans gv3_5
    have gv4_9 : v4.tmps.getD 9 undef = v := by rw [qv4]; exact (getD_put_ne (by decide)).trans gv3_9
    have gv4_10 : v4.tmps.getD 10 undef = (.int .i64 (xs.length : Nat)) := by rw [qv4]; exact (getD_put_ne (by decide)).trans gv3_10
    have gv4_11 : v4.tmps.getD 11 undef = (.int .i64 (count : Nat)) := by rw [qv4]; exact (getD_put_ne (by decide)).trans gv3_11
    have gv4_12 : v4.tmps.getD 12 undef = (.bool (decide (((xs.length : Nat) : Int) = ((count : Nat) : Int)))) := by rw [qv4]; exact getD_put_eq (by rw [zv3]; decide)
    change wpListIn (Fw none) 0 Tryz.prog _ _ _ (v3.put (some 12) (.bool (decide (((xs.length : Nat) : Int) = ((count : Nat) : Int))))) W
    rw [← qv4]
    have R2 : RS v4 f B bc bn := ⟨zv4, dv4, gv4_0, gv4_1, gv4_2, gv4_3, gv4_4, gv4_5⟩
    have h12 := gv4_12
    refine list_nil ?_
    have h12 : v4.eval (.tmp 12) = .bool false := h12.trans (by rw [decide_eq_false (by omega)])
    refine wpIn_cond_false h12 (wpIn_skip ?_)
    change Code.wpIn (Fw none) 0 Tryz.prog _ _ v4 W
    refine wpIn_seq (wpIn_seq (wpIn_region_list ?_))
    refine list_step rfl (op_val (by intro d h; cases h) (mvR v4 W _ (.tmp 0) rfl R2.s0) ?_)
    obtain ⟨t1, qt1⟩ : ∃ x, x = v4.put (some 16) (.int .i64 (f : Nat)) := ⟨_, rfl⟩
    have zt1 : t1.tmps.size = 36 := by rw [qt1, size_put]; exact R2.size
    have dt1 : t1.defers = [] := by rw [qt1, defers_put]; exact R2.defers
    have gt1_0 : t1.tmps.getD 0 undef = (.int .i64 (f : Nat)) := by rw [qt1]; exact (getD_put_ne (by decide)).trans R2.s0
    have gt1_1 : t1.tmps.getD 1 undef = (.pointer (some ⟨(B + 1), 0, none⟩)) := by rw [qt1]; exact (getD_put_ne (by decide)).trans R2.s1
    have gt1_2 : t1.tmps.getD 2 undef = (.pointer (some ⟨bc, 0, none⟩)) := by rw [qt1]; exact (getD_put_ne (by decide)).trans R2.s2
    have gt1_3 : t1.tmps.getD 3 undef = (.pointer (some ⟨B, 0, none⟩)) := by rw [qt1]; exact (getD_put_ne (by decide)).trans R2.s3
    have gt1_4 : t1.tmps.getD 4 undef = (.pointer (some ⟨bn, 0, none⟩)) := by rw [qt1]; exact (getD_put_ne (by decide)).trans R2.s4
    have gt1_5 : t1.tmps.getD 5 undef = (.pointer (some ⟨(B + 2), 0, none⟩)) := by rw [qt1]; exact (getD_put_ne (by decide)).trans R2.s5
    have gt1_16 : t1.tmps.getD 16 undef = (.int .i64 (f : Nat)) := by rw [qt1]; exact getD_put_eq (by rw [R2.size]; decide)
    change wpListIn (Fw none) 0 Tryz.prog _ _ _ (v4.put (some 16) (.int .i64 (f : Nat))) W
    rw [← qt1]
    refine list_step rfl (op_val (by intro d h; cases h) (asR t1 W _ (.tmp 16) rfl gt1_16) ?_)
    obtain ⟨t2, qt2⟩ : ∃ x, x = t1.put (some 8) (.int .i64 (f : Nat)) := ⟨_, rfl⟩
    have zt2 : t2.tmps.size = 36 := by rw [qt2, size_put]; exact zt1
    have dt2 : t2.defers = [] := by rw [qt2, defers_put]; exact dt1
    have gt2_0 : t2.tmps.getD 0 undef = (.int .i64 (f : Nat)) := by rw [qt2]; exact (getD_put_ne (by decide)).trans gt1_0
    have gt2_1 : t2.tmps.getD 1 undef = (.pointer (some ⟨(B + 1), 0, none⟩)) := by rw [qt2]; exact (getD_put_ne (by decide)).trans gt1_1
    have gt2_2 : t2.tmps.getD 2 undef = (.pointer (some ⟨bc, 0, none⟩)) := by rw [qt2]; exact (getD_put_ne (by decide)).trans gt1_2
    have gt2_3 : t2.tmps.getD 3 undef = (.pointer (some ⟨B, 0, none⟩)) := by rw [qt2]; exact (getD_put_ne (by decide)).trans gt1_3
    have gt2_4 : t2.tmps.getD 4 undef = (.pointer (some ⟨bn, 0, none⟩)) := by rw [qt2]; exact (getD_put_ne (by decide)).trans gt1_4
    have gt2_5 : t2.tmps.getD 5 undef = (.pointer (some ⟨(B + 2), 0, none⟩)) := by rw [qt2]; exact (getD_put_ne (by decide)).trans gt1_5
    have gt2_16 : t2.tmps.getD 16 undef = (.int .i64 (f : Nat)) := by rw [qt2]; exact (getD_put_ne (by decide)).trans gt1_16
    have gt2_8 : t2.tmps.getD 8 undef = (.int .i64 (f : Nat)) := by rw [qt2]; exact getD_put_eq (by rw [zt1]; decide)
    change wpListIn (Fw none) 0 Tryz.prog _ _ _ (t1.put (some 8) (.int .i64 (f : Nat))) W
    rw [← qt2]
    have R3 : RS t2 f B bc bn := ⟨zt2, dt2, gt2_0, gt2_1, gt2_2, gt2_3, gt2_4, gt2_5⟩
    refine list_nil ?_
    refine wpIn_block (wp_loop_rel (fun n a w => ∃ (p s : Nat) (v : Value), p + s = numbers ∧ n = s ∧ RS a ((f : Nat) : Int) B bc bn ∧ a.tmps.getD 8 undef = .int .i64 (p : Nat) ∧ HC B bc bn yv w v xs ∧ J ((combs (k + 1) p s).map (xs ++ ·) ++ rest) w) (n := r) (a := t2) (w := W) ⟨f, r, v, hf, rfl, R3, gt2_8, H, hJ⟩ ?_)
    clear hJb hv hJ H R0 R1 R2 R3
    rintro s a w ⟨p, _, v, hps, rfl, R, h8, H, hJ⟩
    have hJb := hY.boxes _ _ hJ
    refine wpIn_seq (wpIn_seq (wpIn_region_list ?_))
    refine list_step rfl (op_val (by intro d h; cases h) (mvR a w _ (.tmp 8) rfl h8) ?_)
    obtain ⟨l1, ql1⟩ : ∃ x, x = a.put (some 17) (.int .i64 (p : Nat)) := ⟨_, rfl⟩
    have zl1 : l1.tmps.size = 36 := by rw [ql1, size_put]; exact R.size
    have dl1 : l1.defers = [] := by rw [ql1, defers_put]; exact R.defers
    have gl1_0 : l1.tmps.getD 0 undef = (.int .i64 (f : Nat)) := by rw [ql1]; exact (getD_put_ne (by decide)).trans R.s0
    have gl1_1 : l1.tmps.getD 1 undef = (.pointer (some ⟨(B + 1), 0, none⟩)) := by rw [ql1]; exact (getD_put_ne (by decide)).trans R.s1
    have gl1_2 : l1.tmps.getD 2 undef = (.pointer (some ⟨bc, 0, none⟩)) := by rw [ql1]; exact (getD_put_ne (by decide)).trans R.s2
    have gl1_3 : l1.tmps.getD 3 undef = (.pointer (some ⟨B, 0, none⟩)) := by rw [ql1]; exact (getD_put_ne (by decide)).trans R.s3
    have gl1_4 : l1.tmps.getD 4 undef = (.pointer (some ⟨bn, 0, none⟩)) := by rw [ql1]; exact (getD_put_ne (by decide)).trans R.s4
    have gl1_5 : l1.tmps.getD 5 undef = (.pointer (some ⟨(B + 2), 0, none⟩)) := by rw [ql1]; exact (getD_put_ne (by decide)).trans R.s5
    have gl1_8 : l1.tmps.getD 8 undef = (.int .i64 (p : Nat)) := by rw [ql1]; exact (getD_put_ne (by decide)).trans h8
    have gl1_17 : l1.tmps.getD 17 undef = (.int .i64 (p : Nat)) := by rw [ql1]; exact getD_put_eq (by rw [R.size]; decide)
    change wpListIn (Fw none) 0 Tryz.prog _ _ _ (a.put (some 17) (.int .i64 (p : Nat))) w
    rw [← ql1]
    refine list_step rfl (op_val (by intro d h; cases h) (ld3 l1 w _ (.tmp 4) rfl gl1_4 hJb.2 rfl) ?_)
    obtain ⟨l2, ql2⟩ : ∃ x, x = l1.put (some 18) (.int .i64 (numbers : Nat)) := ⟨_, rfl⟩
    have zl2 : l2.tmps.size = 36 := by rw [ql2, size_put]; exact zl1
    have dl2 : l2.defers = [] := by rw [ql2, defers_put]; exact dl1
    have gl2_0 : l2.tmps.getD 0 undef = (.int .i64 (f : Nat)) := by rw [ql2]; exact (getD_put_ne (by decide)).trans gl1_0
    have gl2_1 : l2.tmps.getD 1 undef = (.pointer (some ⟨(B + 1), 0, none⟩)) := by rw [ql2]; exact (getD_put_ne (by decide)).trans gl1_1
    have gl2_2 : l2.tmps.getD 2 undef = (.pointer (some ⟨bc, 0, none⟩)) := by rw [ql2]; exact (getD_put_ne (by decide)).trans gl1_2
    have gl2_3 : l2.tmps.getD 3 undef = (.pointer (some ⟨B, 0, none⟩)) := by rw [ql2]; exact (getD_put_ne (by decide)).trans gl1_3
    have gl2_4 : l2.tmps.getD 4 undef = (.pointer (some ⟨bn, 0, none⟩)) := by rw [ql2]; exact (getD_put_ne (by decide)).trans gl1_4
    have gl2_5 : l2.tmps.getD 5 undef = (.pointer (some ⟨(B + 2), 0, none⟩)) := by rw [ql2]; exact (getD_put_ne (by decide)).trans gl1_5
    have gl2_8 : l2.tmps.getD 8 undef = (.int .i64 (p : Nat)) := by rw [ql2]; exact (getD_put_ne (by decide)).trans gl1_8
    have gl2_17 : l2.tmps.getD 17 undef = (.int .i64 (p : Nat)) := by rw [ql2]; exact (getD_put_ne (by decide)).trans gl1_17
    have gl2_18 : l2.tmps.getD 18 undef = (.int .i64 (numbers : Nat)) := by rw [ql2]; exact getD_put_eq (by rw [zl1]; decide)
    change wpListIn (Fw none) 0 Tryz.prog _ _ _ (l1.put (some 18) (.int .i64 (numbers : Nat))) w
    rw [← ql2]
    refine list_step rfl (op_val (by intro d h; cases h) (ltR l2 w _ (.tmp 17) (.tmp 18) rfl gl2_17 gl2_18) ?_)
    obtain ⟨l3, ql3⟩ : ∃ x, x = l2.put (some 19) (.bool (decide (((p : Nat) : Int) < ((numbers : Nat) : Int)))) := ⟨_, rfl⟩
    have zl3 : l3.tmps.size = 36 := by rw [ql3, size_put]; exact zl2
    have dl3 : l3.defers = [] := by rw [ql3, defers_put]; exact dl2
    have gl3_0 : l3.tmps.getD 0 undef = (.int .i64 (f : Nat)) := by rw [ql3]; exact (getD_put_ne (by decide)).trans gl2_0
    have gl3_1 : l3.tmps.getD 1 undef = (.pointer (some ⟨(B + 1), 0, none⟩)) := by rw [ql3]; exact (getD_put_ne (by decide)).trans gl2_1
    have gl3_2 : l3.tmps.getD 2 undef = (.pointer (some ⟨bc, 0, none⟩)) := by rw [ql3]; exact (getD_put_ne (by decide)).trans gl2_2
    have gl3_3 : l3.tmps.getD 3 undef = (.pointer (some ⟨B, 0, none⟩)) := by rw [ql3]; exact (getD_put_ne (by decide)).trans gl2_3
    have gl3_4 : l3.tmps.getD 4 undef = (.pointer (some ⟨bn, 0, none⟩)) := by rw [ql3]; exact (getD_put_ne (by decide)).trans gl2_4
    have gl3_5 : l3.tmps.getD 5 undef = (.pointer (some ⟨(B + 2), 0, none⟩)) := by rw [ql3]; exact (getD_put_ne (by decide)).trans gl2_5
    have gl3_8 : l3.tmps.getD 8 undef = (.int .i64 (p : Nat)) := by rw [ql3]; exact (getD_put_ne (by decide)).trans gl2_8
    have gl3_17 : l3.tmps.getD 17 undef = (.int .i64 (p : Nat)) := by rw [ql3]; exact (getD_put_ne (by decide)).trans gl2_17
    have gl3_18 : l3.tmps.getD 18 undef = (.int .i64 (numbers : Nat)) := by rw [ql3]; exact (getD_put_ne (by decide)).trans gl2_18
    have gl3_19 : l3.tmps.getD 19 undef = (.bool (decide (((p : Nat) : Int) < ((numbers : Nat) : Int)))) := by rw [ql3]; exact getD_put_eq (by rw [zl2]; decide)
    change wpListIn (Fw none) 0 Tryz.prog _ _ _ (l2.put (some 19) (.bool (decide (((p : Nat) : Int) < ((numbers : Nat) : Int))))) w
    rw [← ql3]
    have R4 : RS l3 f B bc bn := ⟨zl3, dl3, gl3_0, gl3_1, gl3_2, gl3_3, gl3_4, gl3_5⟩
    have h8' := gl3_8
    have h19 := gl3_19
    refine list_nil ?_
    by_cases hlt : p < numbers
    · have h19 : l3.eval (.tmp 19) = .bool true := h19.trans (by rw [decide_eq_true (by omega)])
      refine wpIn_cond_true h19 (wpIn_skip ?_)
      change Code.wpIn (Fw none) 0 Tryz.prog _ _ l3 w
      obtain ⟨s', rfl⟩ : ∃ s', s = s' + 1 := ⟨s - 1, by omega⟩
      refine wpIn_seq (wpIn_block (wpIn_seq (wpIn_region_list ?_)))
      refine list_step rfl (op_val (by intro d h; cases h) (ld76 l3 w _ (.tmp 1) rfl R4.s1 H.hl rfl) ?_)
      obtain ⟨m1, qm1⟩ : ∃ x, x = l3.put (some 22) v := ⟨_, rfl⟩
      have zm1 : m1.tmps.size = 36 := by rw [qm1, size_put]; exact R4.size
      have dm1 : m1.defers = [] := by rw [qm1, defers_put]; exact R4.defers
      have gm1_0 : m1.tmps.getD 0 undef = (.int .i64 (f : Nat)) := by rw [qm1]; exact (getD_put_ne (by decide)).trans R4.s0
      have gm1_1 : m1.tmps.getD 1 undef = (.pointer (some ⟨(B + 1), 0, none⟩)) := by rw [qm1]; exact (getD_put_ne (by decide)).trans R4.s1
      have gm1_2 : m1.tmps.getD 2 undef = (.pointer (some ⟨bc, 0, none⟩)) := by rw [qm1]; exact (getD_put_ne (by decide)).trans R4.s2
      have gm1_3 : m1.tmps.getD 3 undef = (.pointer (some ⟨B, 0, none⟩)) := by rw [qm1]; exact (getD_put_ne (by decide)).trans R4.s3
      have gm1_4 : m1.tmps.getD 4 undef = (.pointer (some ⟨bn, 0, none⟩)) := by rw [qm1]; exact (getD_put_ne (by decide)).trans R4.s4
      have gm1_5 : m1.tmps.getD 5 undef = (.pointer (some ⟨(B + 2), 0, none⟩)) := by rw [qm1]; exact (getD_put_ne (by decide)).trans R4.s5
      have gm1_8 : m1.tmps.getD 8 undef = (.int .i64 (p : Nat)) := by rw [qm1]; exact (getD_put_ne (by decide)).trans h8'
      have gm1_22 : m1.tmps.getD 22 undef = v := by rw [qm1]; exact getD_put_eq (by rw [R4.size]; decide)
      change wpListIn (Fw none) 0 Tryz.prog _ _ _ (l3.put (some 22) v) w
      rw [← qm1]
      refine list_step rfl (op_val (by intro d h; cases h) (mvR m1 w _ (.tmp 8) rfl gm1_8) ?_)
      obtain ⟨m2, qm2⟩ : ∃ x, x = m1.put (some 23) (.int .i64 (p : Nat)) := ⟨_, rfl⟩
      have zm2 : m2.tmps.size = 36 := by rw [qm2, size_put]; exact zm1
      have dm2 : m2.defers = [] := by rw [qm2, defers_put]; exact dm1
      have gm2_0 : m2.tmps.getD 0 undef = (.int .i64 (f : Nat)) := by rw [qm2]; exact (getD_put_ne (by decide)).trans gm1_0
      have gm2_1 : m2.tmps.getD 1 undef = (.pointer (some ⟨(B + 1), 0, none⟩)) := by rw [qm2]; exact (getD_put_ne (by decide)).trans gm1_1
      have gm2_2 : m2.tmps.getD 2 undef = (.pointer (some ⟨bc, 0, none⟩)) := by rw [qm2]; exact (getD_put_ne (by decide)).trans gm1_2
      have gm2_3 : m2.tmps.getD 3 undef = (.pointer (some ⟨B, 0, none⟩)) := by rw [qm2]; exact (getD_put_ne (by decide)).trans gm1_3
      have gm2_4 : m2.tmps.getD 4 undef = (.pointer (some ⟨bn, 0, none⟩)) := by rw [qm2]; exact (getD_put_ne (by decide)).trans gm1_4
      have gm2_5 : m2.tmps.getD 5 undef = (.pointer (some ⟨(B + 2), 0, none⟩)) := by rw [qm2]; exact (getD_put_ne (by decide)).trans gm1_5
      have gm2_8 : m2.tmps.getD 8 undef = (.int .i64 (p : Nat)) := by rw [qm2]; exact (getD_put_ne (by decide)).trans gm1_8
      have gm2_22 : m2.tmps.getD 22 undef = v := by rw [qm2]; exact (getD_put_ne (by decide)).trans gm1_22
      have gm2_23 : m2.tmps.getD 23 undef = (.int .i64 (p : Nat)) := by rw [qm2]; exact getD_put_eq (by rw [zm1]; decide)
      change wpListIn (Fw none) 0 Tryz.prog _ _ _ (m1.put (some 23) (.int .i64 (p : Nat))) w
      rw [← qm2]
      obtain ⟨wb, hwb⟩ : ∃ x, x = w.alloc (.cells #[.int .i64 (p : Nat)] 3 (0, 0)) := ⟨_, rfl⟩
      refine list_step rfl (op_bs (by intro d h; cases h) (bsR m2 w _ (.tmp 23) rfl gm2_23) ?_)
      rw [← hwb]
      obtain ⟨m3, qm3⟩ : ∃ x, x = m2.put (some 24) (.slice (some ⟨w.heap.size, 0, none⟩) 1 1) := ⟨_, rfl⟩
      have zm3 : m3.tmps.size = 36 := by rw [qm3, size_put]; exact zm2
      have dm3 : m3.defers = [] := by rw [qm3, defers_put]; exact dm2
      have gm3_0 : m3.tmps.getD 0 undef = (.int .i64 (f : Nat)) := by rw [qm3]; exact (getD_put_ne (by decide)).trans gm2_0
      have gm3_1 : m3.tmps.getD 1 undef = (.pointer (some ⟨(B + 1), 0, none⟩)) := by rw [qm3]; exact (getD_put_ne (by decide)).trans gm2_1
      have gm3_2 : m3.tmps.getD 2 undef = (.pointer (some ⟨bc, 0, none⟩)) := by rw [qm3]; exact (getD_put_ne (by decide)).trans gm2_2
      have gm3_3 : m3.tmps.getD 3 undef = (.pointer (some ⟨B, 0, none⟩)) := by rw [qm3]; exact (getD_put_ne (by decide)).trans gm2_3
      have gm3_4 : m3.tmps.getD 4 undef = (.pointer (some ⟨bn, 0, none⟩)) := by rw [qm3]; exact (getD_put_ne (by decide)).trans gm2_4
      have gm3_5 : m3.tmps.getD 5 undef = (.pointer (some ⟨(B + 2), 0, none⟩)) := by rw [qm3]; exact (getD_put_ne (by decide)).trans gm2_5
      have gm3_8 : m3.tmps.getD 8 undef = (.int .i64 (p : Nat)) := by rw [qm3]; exact (getD_put_ne (by decide)).trans gm2_8
      have gm3_22 : m3.tmps.getD 22 undef = v := by rw [qm3]; exact (getD_put_ne (by decide)).trans gm2_22
      have gm3_23 : m3.tmps.getD 23 undef = (.int .i64 (p : Nat)) := by rw [qm3]; exact (getD_put_ne (by decide)).trans gm2_23
      have gm3_24 : m3.tmps.getD 24 undef = (.slice (some ⟨w.heap.size, 0, none⟩) 1 1) := by rw [qm3]; exact getD_put_eq (by rw [zm2]; decide)
      change wpListIn (Fw none) 0 Tryz.prog _ _ _ (m2.put (some 24) (.slice (some ⟨w.heap.size, 0, none⟩) 1 1)) wb
      rw [← qm3]
      have hsz : B + 3 ≤ w.heap.size := lt_of_heap H.hm
      have hnew : wb.heap[w.heap.size]? = some (.cells #[.int .i64 (p : Nat)] 3 (0, 0)) := by
        rw [hwb]; show (w.heap.push _)[w.heap.size]? = _; simp
      have hbel : Bel w.heap.size w wb := by rw [hwb]; exact bel_alloc
      have Hb : HC B bc bn yv wb v xs := H.abv (fun b _ hs => hbel.keep b hs hs)
      refine list_step rfl (op_ap (by intro d h; cases h) (x := .tmp 22) (y := .tmp 24) rfl gm3_22 Hb.ld (by omega) gm3_24 hnew (Nat.le_trans hsz hbel.size) fun v' wc hld hbel2 => ?_)
      obtain ⟨vad', vc', hv'⟩ := ld_len hld
      have hlc : wc.heap[B + 1]? = some (.cells #[v] 76 (0, 0)) := (hbel2.keep (B + 1) (by omega) (lt_of_heap Hb.hl)).trans Hb.hl
      obtain ⟨n1, qn1⟩ : ∃ x, x = m3.put (some 25) v' := ⟨_, rfl⟩
      have zn1 : n1.tmps.size = 36 := by rw [qn1, size_put]; exact zm3
      have dn1 : n1.defers = [] := by rw [qn1, defers_put]; exact dm3
      have gn1_0 : n1.tmps.getD 0 undef = (.int .i64 (f : Nat)) := by rw [qn1]; exact (getD_put_ne (by decide)).trans gm3_0
      have gn1_1 : n1.tmps.getD 1 undef = (.pointer (some ⟨(B + 1), 0, none⟩)) := by rw [qn1]; exact (getD_put_ne (by decide)).trans gm3_1
      have gn1_2 : n1.tmps.getD 2 undef = (.pointer (some ⟨bc, 0, none⟩)) := by rw [qn1]; exact (getD_put_ne (by decide)).trans gm3_2
      have gn1_3 : n1.tmps.getD 3 undef = (.pointer (some ⟨B, 0, none⟩)) := by rw [qn1]; exact (getD_put_ne (by decide)).trans gm3_3
      have gn1_4 : n1.tmps.getD 4 undef = (.pointer (some ⟨bn, 0, none⟩)) := by rw [qn1]; exact (getD_put_ne (by decide)).trans gm3_4
      have gn1_5 : n1.tmps.getD 5 undef = (.pointer (some ⟨(B + 2), 0, none⟩)) := by rw [qn1]; exact (getD_put_ne (by decide)).trans gm3_5
      have gn1_8 : n1.tmps.getD 8 undef = (.int .i64 (p : Nat)) := by rw [qn1]; exact (getD_put_ne (by decide)).trans gm3_8
      have gn1_22 : n1.tmps.getD 22 undef = v := by rw [qn1]; exact (getD_put_ne (by decide)).trans gm3_22
      have gn1_23 : n1.tmps.getD 23 undef = (.int .i64 (p : Nat)) := by rw [qn1]; exact (getD_put_ne (by decide)).trans gm3_23
      have gn1_24 : n1.tmps.getD 24 undef = (.slice (some ⟨w.heap.size, 0, none⟩) 1 1) := by rw [qn1]; exact (getD_put_ne (by decide)).trans gm3_24
      have gn1_25 : n1.tmps.getD 25 undef = v' := by rw [qn1]; exact getD_put_eq (by rw [zm3]; decide)
      change wpListIn (Fw none) 0 Tryz.prog _ _ _ (m3.put (some 25) v') wc
      rw [← qn1]
      refine list_step rfl (op_skip (by intro d h; cases h) (st76 n1 wc _ (.tmp 1) (.tmp 25) rfl gn1_1 (gn1_25.trans hv') hlc Nat.zero_lt_one) ?_)
      rw [← hv']
      obtain ⟨wd, hwd⟩ : ∃ x, x = wc.setRow (B + 1) ((#[v] : Array Value).set! 0 v') := ⟨_, rfl⟩
      change wpListIn (Fw none) 0 Tryz.prog _ _ _ n1 (wc.setRow (B + 1) ((#[v] : Array Value).set! 0 v'))
      rw [← hwd]
      refine list_nil ?_
      have R6 : RS n1 f B bc bn := ⟨zn1, dn1, gn1_0, gn1_1, gn1_2, gn1_3, gn1_4, gn1_5⟩
      have h8'' := gn1_8
      have H2 : HC B bc bn yv wd v' (xs ++ [((p : Nat) : Int)]) := by
        rw [hwd]
        exact ⟨(setRow_other wc (B + 1) B _ (by omega)).trans ((hbel2.keep B (by omega) (lt_of_heap Hb.hy)).trans Hb.hy), setRow_heap wc (B + 1) _ _ 76 (0, 0) hlc, (setRow_other wc (B + 1) (B + 2) _ (by omega)).trans ((hbel2.keep (B + 2) (by omega) (lt_of_heap Hb.hm)).trans Hb.hm), ld_mono hld fun b hb hs => setRow_other wc (B + 1) b _ (by omega)⟩
      have hbd : Bel B w wd := ((hbel.le (by omega)).trans (hbel2.le (by omega))).trans (by rw [hwd]; exact bel_setRow (by omega))
      have hJ2 : J ((combs k (p + 1) s').map ((xs ++ [((p : Nat) : Int)]) ++ ·) ++ ((combs (k + 1) (p + 1) s').map (xs ++ ·) ++ rest)) wd := by
        have h := hY.below _ _ _ hJ hbd
        simpa [combs, List.map_append, List.map_map, Function.comp_def, List.append_assoc] using h
      refine wpIn_seq (wpIn_seq (wpIn_region_list ?_))
      refine list_step rfl (op_val (by intro d h; cases h) (ldF agg202 n1 wd _ (.tmp 5) rfl R6.s5 H2.hm rfl) ?_)
      obtain ⟨o1, qo1⟩ : ∃ x, x = n1.put (some 26) (.func (.func 179) #[] (capt B bc bn)) := ⟨_, rfl⟩
      have zo1 : o1.tmps.size = 36 := by rw [qo1, size_put]; exact R6.size
      have do1 : o1.defers = [] := by rw [qo1, defers_put]; exact R6.defers
      have go1_0 : o1.tmps.getD 0 undef = (.int .i64 (f : Nat)) := by rw [qo1]; exact (getD_put_ne (by decide)).trans R6.s0
      have go1_1 : o1.tmps.getD 1 undef = (.pointer (some ⟨(B + 1), 0, none⟩)) := by rw [qo1]; exact (getD_put_ne (by decide)).trans R6.s1
      have go1_2 : o1.tmps.getD 2 undef = (.pointer (some ⟨bc, 0, none⟩)) := by rw [qo1]; exact (getD_put_ne (by decide)).trans R6.s2
      have go1_3 : o1.tmps.getD 3 undef = (.pointer (some ⟨B, 0, none⟩)) := by rw [qo1]; exact (getD_put_ne (by decide)).trans R6.s3
      have go1_4 : o1.tmps.getD 4 undef = (.pointer (some ⟨bn, 0, none⟩)) := by rw [qo1]; exact (getD_put_ne (by decide)).trans R6.s4
      have go1_5 : o1.tmps.getD 5 undef = (.pointer (some ⟨(B + 2), 0, none⟩)) := by rw [qo1]; exact (getD_put_ne (by decide)).trans R6.s5
      have go1_8 : o1.tmps.getD 8 undef = (.int .i64 (p : Nat)) := by rw [qo1]; exact (getD_put_ne (by decide)).trans h8''
      have go1_26 : o1.tmps.getD 26 undef = (.func (.func 179) #[] (capt B bc bn)) := by rw [qo1]; exact getD_put_eq (by rw [R6.size]; decide)
      change wpListIn (Fw none) 0 Tryz.prog _ _ _ (n1.put (some 26) (.func (.func 179) #[] (capt B bc bn))) wd
      rw [← qo1]
      refine list_step rfl (op_val (by intro d h; cases h) (mvR o1 wd _ (.tmp 8) rfl go1_8) ?_)
      obtain ⟨o2, qo2⟩ : ∃ x, x = o1.put (some 27) (.int .i64 (p : Nat)) := ⟨_, rfl⟩
      have zo2 : o2.tmps.size = 36 := by rw [qo2, size_put]; exact zo1
      have do2 : o2.defers = [] := by rw [qo2, defers_put]; exact do1
      have go2_0 : o2.tmps.getD 0 undef = (.int .i64 (f : Nat)) := by rw [qo2]; exact (getD_put_ne (by decide)).trans go1_0
      have go2_1 : o2.tmps.getD 1 undef = (.pointer (some ⟨(B + 1), 0, none⟩)) := by rw [qo2]; exact (getD_put_ne (by decide)).trans go1_1
      have go2_2 : o2.tmps.getD 2 undef = (.pointer (some ⟨bc, 0, none⟩)) := by rw [qo2]; exact (getD_put_ne (by decide)).trans go1_2
      have go2_3 : o2.tmps.getD 3 undef = (.pointer (some ⟨B, 0, none⟩)) := by rw [qo2]; exact (getD_put_ne (by decide)).trans go1_3
      have go2_4 : o2.tmps.getD 4 undef = (.pointer (some ⟨bn, 0, none⟩)) := by rw [qo2]; exact (getD_put_ne (by decide)).trans go1_4
      have go2_5 : o2.tmps.getD 5 undef = (.pointer (some ⟨(B + 2), 0, none⟩)) := by rw [qo2]; exact (getD_put_ne (by decide)).trans go1_5
      have go2_8 : o2.tmps.getD 8 undef = (.int .i64 (p : Nat)) := by rw [qo2]; exact (getD_put_ne (by decide)).trans go1_8
      have go2_26 : o2.tmps.getD 26 undef = (.func (.func 179) #[] (capt B bc bn)) := by rw [qo2]; exact (getD_put_ne (by decide)).trans go1_26
      have go2_27 : o2.tmps.getD 27 undef = (.int .i64 (p : Nat)) := by rw [qo2]; exact getD_put_eq (by rw [zo1]; decide)
      change wpListIn (Fw none) 0 Tryz.prog _ _ _ (o1.put (some 27) (.int .i64 (p : Nat))) wd
      rw [← qo2]
      refine list_step rfl (op_val (by intro d h; cases h) (adR o2 wd _ (.tmp 27) (.const (.int .i64 1)) rfl go2_27 rfl (by omega)) ?_)
      obtain ⟨o3, qo3⟩ : ∃ x, x = o2.put (some 28) (.int .i64 ((p : Nat) + (1 : Int))) := ⟨_, rfl⟩
      have zo3 : o3.tmps.size = 36 := by rw [qo3, size_put]; exact zo2
      have do3 : o3.defers = [] := by rw [qo3, defers_put]; exact do2
      have go3_0 : o3.tmps.getD 0 undef = (.int .i64 (f : Nat)) := by rw [qo3]; exact (getD_put_ne (by decide)).trans go2_0
      have go3_1 : o3.tmps.getD 1 undef = (.pointer (some ⟨(B + 1), 0, none⟩)) := by rw [qo3]; exact (getD_put_ne (by decide)).trans go2_1
      have go3_2 : o3.tmps.getD 2 undef = (.pointer (some ⟨bc, 0, none⟩)) := by rw [qo3]; exact (getD_put_ne (by decide)).trans go2_2
      have go3_3 : o3.tmps.getD 3 undef = (.pointer (some ⟨B, 0, none⟩)) := by rw [qo3]; exact (getD_put_ne (by decide)).trans go2_3
      have go3_4 : o3.tmps.getD 4 undef = (.pointer (some ⟨bn, 0, none⟩)) := by rw [qo3]; exact (getD_put_ne (by decide)).trans go2_4
      have go3_5 : o3.tmps.getD 5 undef = (.pointer (some ⟨(B + 2), 0, none⟩)) := by rw [qo3]; exact (getD_put_ne (by decide)).trans go2_5
      have go3_8 : o3.tmps.getD 8 undef = (.int .i64 (p : Nat)) := by rw [qo3]; exact (getD_put_ne (by decide)).trans go2_8
      have go3_26 : o3.tmps.getD 26 undef = (.func (.func 179) #[] (capt B bc bn)) := by rw [qo3]; exact (getD_put_ne (by decide)).trans go2_26
      have go3_27 : o3.tmps.getD 27 undef = (.int .i64 (p : Nat)) := by rw [qo3]; exact (getD_put_ne (by decide)).trans go2_27
      have go3_28 : o3.tmps.getD 28 undef = (.int .i64 ((p : Nat) + (1 : Int))) := by rw [qo3]; exact getD_put_eq (by rw [zo2]; decide)
      change wpListIn (Fw none) 0 Tryz.prog _ _ _ (o2.put (some 28) (.int .i64 ((p : Nat) + (1 : Int)))) wd
      rw [← qo3]
      have hc := ih (p + 1) s' (xs ++ [((p : Nat) : Int)]) _ wd v' (by rw [List.length_append, List.length_singleton]; omega) (by omega) (by rw [← hyv]; exact H2) hJ2
      obtain ⟨args, hargs⟩ : ∃ x, x = (#[.int .i64 ((p + 1 : Nat) : Int)] ++ capt B bc bn : Array Value) := ⟨_, rfl⟩
      rw [← hargs] at hc
      refine list_step rfl ?_
      refine op_enterIn (f := 179) (args := args) ?_ ?_ (hc.mono ?_)
      · intro d h; cases h
      · obtain ⟨fn, e1, e2, e3⟩ : Enters Tryz.prog 179 := ⟨Tryz.f179, Tryz.func179, by kernel_rfl, by kernel_rfl⟩
        have e2' : ¬ fn.name = "runtime.NumGoroutine" := by simpa using e2
        have e3' : ¬ fn.body = none := by intro hn; rw [hn] at e3; cases e3
        rw [hargs]
        simp [execOp, resolve, Deferred.ofValue, ev, go3_26, go3_28, invoke, callFunc, e1, e2', e3', capt]
      rintro e we (⟨rfl, hJ3, v3, H3⟩ | ⟨rfl, hJx⟩)
      · refine ⟨.bool true, rfl, ?_⟩
        rw [← hyv] at H3
        obtain ⟨ls, c, hv3, hlc3, hld3⟩ := ld_cut H3.ld
        obtain ⟨ot1, qot1⟩ : ∃ x, x = o3.put (some 29) (.bool true) := ⟨_, rfl⟩
        have zot1 : ot1.tmps.size = 36 := by rw [qot1, size_put]; exact zo3
        have dot1 : ot1.defers = [] := by rw [qot1, defers_put]; exact do3
        have got1_0 : ot1.tmps.getD 0 undef = (.int .i64 (f : Nat)) := by rw [qot1]; exact (getD_put_ne (by decide)).trans go3_0
        have got1_1 : ot1.tmps.getD 1 undef = (.pointer (some ⟨(B + 1), 0, none⟩)) := by rw [qot1]; exact (getD_put_ne (by decide)).trans go3_1
        have got1_2 : ot1.tmps.getD 2 undef = (.pointer (some ⟨bc, 0, none⟩)) := by rw [qot1]; exact (getD_put_ne (by decide)).trans go3_2
        have got1_3 : ot1.tmps.getD 3 undef = (.pointer (some ⟨B, 0, none⟩)) := by rw [qot1]; exact (getD_put_ne (by decide)).trans go3_3
        have got1_4 : ot1.tmps.getD 4 undef = (.pointer (some ⟨bn, 0, none⟩)) := by rw [qot1]; exact (getD_put_ne (by decide)).trans go3_4
        have got1_5 : ot1.tmps.getD 5 undef = (.pointer (some ⟨(B + 2), 0, none⟩)) := by rw [qot1]; exact (getD_put_ne (by decide)).trans go3_5
        have got1_8 : ot1.tmps.getD 8 undef = (.int .i64 (p : Nat)) := by rw [qot1]; exact (getD_put_ne (by decide)).trans go3_8
        have got1_26 : ot1.tmps.getD 26 undef = (.func (.func 179) #[] (capt B bc bn)) := by rw [qot1]; exact (getD_put_ne (by decide)).trans go3_26
        have got1_27 : ot1.tmps.getD 27 undef = (.int .i64 (p : Nat)) := by rw [qot1]; exact (getD_put_ne (by decide)).trans go3_27
        have got1_28 : ot1.tmps.getD 28 undef = (.int .i64 ((p : Nat) + (1 : Int))) := by rw [qot1]; exact (getD_put_ne (by decide)).trans go3_28
        have got1_29 : ot1.tmps.getD 29 undef = (.bool true) := by rw [qot1]; exact getD_put_eq (by rw [zo3]; decide)
        change wpListIn (Fw none) 0 Tryz.prog _ _ _ (o3.put (some 29) (.bool true)) we
        rw [← qot1]
        refine list_step rfl (op_val (by intro d h; cases h) (ntR ot1 we _ (.tmp 29) rfl got1_29) ?_)
        obtain ⟨ot2, qot2⟩ : ∃ x, x = ot1.put (some 30) (.bool false) := ⟨_, rfl⟩
        have zot2 : ot2.tmps.size = 36 := by rw [qot2, size_put]; exact zot1
        have dot2 : ot2.defers = [] := by rw [qot2, defers_put]; exact dot1
        have got2_0 : ot2.tmps.getD 0 undef = (.int .i64 (f : Nat)) := by rw [qot2]; exact (getD_put_ne (by decide)).trans got1_0
        have got2_1 : ot2.tmps.getD 1 undef = (.pointer (some ⟨(B + 1), 0, none⟩)) := by rw [qot2]; exact (getD_put_ne (by decide)).trans got1_1
        have got2_2 : ot2.tmps.getD 2 undef = (.pointer (some ⟨bc, 0, none⟩)) := by rw [qot2]; exact (getD_put_ne (by decide)).trans got1_2
        have got2_3 : ot2.tmps.getD 3 undef = (.pointer (some ⟨B, 0, none⟩)) := by rw [qot2]; exact (getD_put_ne (by decide)).trans got1_3
        have got2_4 : ot2.tmps.getD 4 undef = (.pointer (some ⟨bn, 0, none⟩)) := by rw [qot2]; exact (getD_put_ne (by decide)).trans got1_4
        have got2_5 : ot2.tmps.getD 5 undef = (.pointer (some ⟨(B + 2), 0, none⟩)) := by rw [qot2]; exact (getD_put_ne (by decide)).trans got1_5
        have got2_8 : ot2.tmps.getD 8 undef = (.int .i64 (p : Nat)) := by rw [qot2]; exact (getD_put_ne (by decide)).trans got1_8
        have got2_26 : ot2.tmps.getD 26 undef = (.func (.func 179) #[] (capt B bc bn)) := by rw [qot2]; exact (getD_put_ne (by decide)).trans got1_26
        have got2_27 : ot2.tmps.getD 27 undef = (.int .i64 (p : Nat)) := by rw [qot2]; exact (getD_put_ne (by decide)).trans got1_27
        have got2_28 : ot2.tmps.getD 28 undef = (.int .i64 ((p : Nat) + (1 : Int))) := by rw [qot2]; exact (getD_put_ne (by decide)).trans got1_28
        have got2_29 : ot2.tmps.getD 29 undef = (.bool true) := by rw [qot2]; exact (getD_put_ne (by decide)).trans got1_29
        have got2_30 : ot2.tmps.getD 30 undef = (.bool false) := by rw [qot2]; exact getD_put_eq (by rw [zot1]; decide)
        change wpListIn (Fw none) 0 Tryz.prog _ _ _ (ot1.put (some 30) (.bool false)) we
        rw [← qot2]
        have R7 : RS ot2 f B bc bn := ⟨zot2, dot2, got2_0, got2_1, got2_2, got2_3, got2_4, got2_5⟩
        have h8a := got2_8
        have h30 := got2_30
        refine list_nil (wpIn_cond_false h30 (wpIn_skip ?_))
        change Code.wpIn (Fw none) 0 Tryz.prog N9 _ ot2 we
        refine wpIn_region_list ?_
        refine list_step rfl (op_val (by intro d h; cases h) (ld76 ot2 we _ (.tmp 1) rfl R7.s1 H3.hl rfl) ?_)
        obtain ⟨r1, qr1⟩ : ∃ x, x = ot2.put (some 31) v3 := ⟨_, rfl⟩
        have zr1 : r1.tmps.size = 36 := by rw [qr1, size_put]; exact R7.size
        have dr1 : r1.defers = [] := by rw [qr1, defers_put]; exact R7.defers
        have gr1_0 : r1.tmps.getD 0 undef = (.int .i64 (f : Nat)) := by rw [qr1]; exact (getD_put_ne (by decide)).trans R7.s0
        have gr1_1 : r1.tmps.getD 1 undef = (.pointer (some ⟨(B + 1), 0, none⟩)) := by rw [qr1]; exact (getD_put_ne (by decide)).trans R7.s1
        have gr1_2 : r1.tmps.getD 2 undef = (.pointer (some ⟨bc, 0, none⟩)) := by rw [qr1]; exact (getD_put_ne (by decide)).trans R7.s2
        have gr1_3 : r1.tmps.getD 3 undef = (.pointer (some ⟨B, 0, none⟩)) := by rw [qr1]; exact (getD_put_ne (by decide)).trans R7.s3
        have gr1_4 : r1.tmps.getD 4 undef = (.pointer (some ⟨bn, 0, none⟩)) := by rw [qr1]; exact (getD_put_ne (by decide)).trans R7.s4
        have gr1_5 : r1.tmps.getD 5 undef = (.pointer (some ⟨(B + 2), 0, none⟩)) := by rw [qr1]; exact (getD_put_ne (by decide)).trans R7.s5
        have gr1_8 : r1.tmps.getD 8 undef = (.int .i64 (p : Nat)) := by rw [qr1]; exact (getD_put_ne (by decide)).trans h8a
        have gr1_31 : r1.tmps.getD 31 undef = v3 := by rw [qr1]; exact getD_put_eq (by rw [R7.size]; decide)
        change wpListIn (Fw none) 0 Tryz.prog _ _ _ (ot2.put (some 31) v3) we
        rw [← qr1]
        refine list_step rfl (op_val (by intro d h; cases h) (ld76 r1 we _ (.tmp 1) rfl gr1_1 H3.hl rfl) ?_)
        obtain ⟨r2, qr2⟩ : ∃ x, x = r1.put (some 32) v3 := ⟨_, rfl⟩
        have zr2 : r2.tmps.size = 36 := by rw [qr2, size_put]; exact zr1
        have dr2 : r2.defers = [] := by rw [qr2, defers_put]; exact dr1
        have gr2_0 : r2.tmps.getD 0 undef = (.int .i64 (f : Nat)) := by rw [qr2]; exact (getD_put_ne (by decide)).trans gr1_0
        have gr2_1 : r2.tmps.getD 1 undef = (.pointer (some ⟨(B + 1), 0, none⟩)) := by rw [qr2]; exact (getD_put_ne (by decide)).trans gr1_1
        have gr2_2 : r2.tmps.getD 2 undef = (.pointer (some ⟨bc, 0, none⟩)) := by rw [qr2]; exact (getD_put_ne (by decide)).trans gr1_2
        have gr2_3 : r2.tmps.getD 3 undef = (.pointer (some ⟨B, 0, none⟩)) := by rw [qr2]; exact (getD_put_ne (by decide)).trans gr1_3
        have gr2_4 : r2.tmps.getD 4 undef = (.pointer (some ⟨bn, 0, none⟩)) := by rw [qr2]; exact (getD_put_ne (by decide)).trans gr1_4
        have gr2_5 : r2.tmps.getD 5 undef = (.pointer (some ⟨(B + 2), 0, none⟩)) := by rw [qr2]; exact (getD_put_ne (by decide)).trans gr1_5
        have gr2_8 : r2.tmps.getD 8 undef = (.int .i64 (p : Nat)) := by rw [qr2]; exact (getD_put_ne (by decide)).trans gr1_8
        have gr2_31 : r2.tmps.getD 31 undef = v3 := by rw [qr2]; exact (getD_put_ne (by decide)).trans gr1_31
        have gr2_32 : r2.tmps.getD 32 undef = v3 := by rw [qr2]; exact getD_put_eq (by rw [zr1]; decide)
        change wpListIn (Fw none) 0 Tryz.prog _ _ _ (r1.put (some 32) v3) we
        rw [← qr2]
        refine list_step rfl (op_val (by intro d h; cases h) (lnR Tryz.underlying76 r2 we _ (.tmp 32) rfl (gr2_32.trans hv3)) ?_)
        obtain ⟨r3, qr3⟩ : ∃ x, x = r2.put (some 33) (.int .i64 ((xs.length + 1 : Nat))) := ⟨_, rfl⟩
        have zr3 : r3.tmps.size = 36 := by rw [qr3, size_put]; exact zr2
        have dr3 : r3.defers = [] := by rw [qr3, defers_put]; exact dr2
        have gr3_0 : r3.tmps.getD 0 undef = (.int .i64 (f : Nat)) := by rw [qr3]; exact (getD_put_ne (by decide)).trans gr2_0
        have gr3_1 : r3.tmps.getD 1 undef = (.pointer (some ⟨(B + 1), 0, none⟩)) := by rw [qr3]; exact (getD_put_ne (by decide)).trans gr2_1
        have gr3_2 : r3.tmps.getD 2 undef = (.pointer (some ⟨bc, 0, none⟩)) := by rw [qr3]; exact (getD_put_ne (by decide)).trans gr2_2
        have gr3_3 : r3.tmps.getD 3 undef = (.pointer (some ⟨B, 0, none⟩)) := by rw [qr3]; exact (getD_put_ne (by decide)).trans gr2_3
        have gr3_4 : r3.tmps.getD 4 undef = (.pointer (some ⟨bn, 0, none⟩)) := by rw [qr3]; exact (getD_put_ne (by decide)).trans gr2_4
        have gr3_5 : r3.tmps.getD 5 undef = (.pointer (some ⟨(B + 2), 0, none⟩)) := by rw [qr3]; exact (getD_put_ne (by decide)).trans gr2_5
        have gr3_8 : r3.tmps.getD 8 undef = (.int .i64 (p : Nat)) := by rw [qr3]; exact (getD_put_ne (by decide)).trans gr2_8
        have gr3_31 : r3.tmps.getD 31 undef = v3 := by rw [qr3]; exact (getD_put_ne (by decide)).trans gr2_31
        have gr3_32 : r3.tmps.getD 32 undef = v3 := by rw [qr3]; exact (getD_put_ne (by decide)).trans gr2_32
        have gr3_33 : r3.tmps.getD 33 undef = (.int .i64 ((xs.length + 1 : Nat))) := by rw [qr3]; exact getD_put_eq (by rw [zr2]; decide)
        change wpListIn (Fw none) 0 Tryz.prog _ _ _ (r2.put (some 33) (.int .i64 ((xs.length + 1 : Nat)))) we
        rw [← qr3]
        refine list_step rfl (op_val (by intro d h; cases h) (suR r3 we _ (.tmp 33) (.const (.int .i64 1)) rfl gr3_33 rfl (by omega)) ?_)
        obtain ⟨r4, qr4⟩ : ∃ x, x = r3.put (some 34) (.int .i64 (((xs.length + 1 : Nat) : Int) - 1)) := ⟨_, rfl⟩
        have zr4 : r4.tmps.size = 36 := by rw [qr4, size_put]; exact zr3
        have dr4 : r4.defers = [] := by rw [qr4, defers_put]; exact dr3
        have gr4_0 : r4.tmps.getD 0 undef = (.int .i64 (f : Nat)) := by rw [qr4]; exact (getD_put_ne (by decide)).trans gr3_0
        have gr4_1 : r4.tmps.getD 1 undef = (.pointer (some ⟨(B + 1), 0, none⟩)) := by rw [qr4]; exact (getD_put_ne (by decide)).trans gr3_1
        have gr4_2 : r4.tmps.getD 2 undef = (.pointer (some ⟨bc, 0, none⟩)) := by rw [qr4]; exact (getD_put_ne (by decide)).trans gr3_2
        have gr4_3 : r4.tmps.getD 3 undef = (.pointer (some ⟨B, 0, none⟩)) := by rw [qr4]; exact (getD_put_ne (by decide)).trans gr3_3
        have gr4_4 : r4.tmps.getD 4 undef = (.pointer (some ⟨bn, 0, none⟩)) := by rw [qr4]; exact (getD_put_ne (by decide)).trans gr3_4
        have gr4_5 : r4.tmps.getD 5 undef = (.pointer (some ⟨(B + 2), 0, none⟩)) := by rw [qr4]; exact (getD_put_ne (by decide)).trans gr3_5
        have gr4_8 : r4.tmps.getD 8 undef = (.int .i64 (p : Nat)) := by rw [qr4]; exact (getD_put_ne (by decide)).trans gr3_8
        have gr4_31 : r4.tmps.getD 31 undef = v3 := by rw [qr4]; exact (getD_put_ne (by decide)).trans gr3_31
        have gr4_32 : r4.tmps.getD 32 undef = v3 := by rw [qr4]; exact (getD_put_ne (by decide)).trans gr3_32
        have gr4_33 : r4.tmps.getD 33 undef = (.int .i64 ((xs.length + 1 : Nat))) := by rw [qr4]; exact (getD_put_ne (by decide)).trans gr3_33
        have gr4_34 : r4.tmps.getD 34 undef = (.int .i64 (((xs.length + 1 : Nat) : Int) - 1)) := by rw [qr4]; exact getD_put_eq (by rw [zr3]; decide)
        change wpListIn (Fw none) 0 Tryz.prog _ _ _ (r3.put (some 34) (.int .i64 (((xs.length + 1 : Nat) : Int) - 1))) we
        rw [← qr4]
        refine list_step rfl (op_val (by intro d h; cases h) (slR r4 we _ (.tmp 31) (.tmp 34) rfl (gr4_31.trans hv3) (gr4_34.trans (by rw [show ((xs.length + 1 : Nat) : Int) - 1 = (xs.length : Nat) by omega])) hlc3) ?_)
        obtain ⟨r5, qr5⟩ : ∃ x, x = r4.put (some 35) (.slice (some ⟨ls, 0, none⟩) xs.length c) := ⟨_, rfl⟩
        have zr5 : r5.tmps.size = 36 := by rw [qr5, size_put]; exact zr4
        have dr5 : r5.defers = [] := by rw [qr5, defers_put]; exact dr4
        have gr5_0 : r5.tmps.getD 0 undef = (.int .i64 (f : Nat)) := by rw [qr5]; exact (getD_put_ne (by decide)).trans gr4_0
        have gr5_1 : r5.tmps.getD 1 undef = (.pointer (some ⟨(B + 1), 0, none⟩)) := by rw [qr5]; exact (getD_put_ne (by decide)).trans gr4_1
        have gr5_2 : r5.tmps.getD 2 undef = (.pointer (some ⟨bc, 0, none⟩)) := by rw [qr5]; exact (getD_put_ne (by decide)).trans gr4_2
        have gr5_3 : r5.tmps.getD 3 undef = (.pointer (some ⟨B, 0, none⟩)) := by rw [qr5]; exact (getD_put_ne (by decide)).trans gr4_3
        have gr5_4 : r5.tmps.getD 4 undef = (.pointer (some ⟨bn, 0, none⟩)) := by rw [qr5]; exact (getD_put_ne (by decide)).trans gr4_4
        have gr5_5 : r5.tmps.getD 5 undef = (.pointer (some ⟨(B + 2), 0, none⟩)) := by rw [qr5]; exact (getD_put_ne (by decide)).trans gr4_5
        have gr5_8 : r5.tmps.getD 8 undef = (.int .i64 (p : Nat)) := by rw [qr5]; exact (getD_put_ne (by decide)).trans gr4_8
        have gr5_31 : r5.tmps.getD 31 undef = v3 := by rw [qr5]; exact (getD_put_ne (by decide)).trans gr4_31
        have gr5_32 : r5.tmps.getD 32 undef = v3 := by rw [qr5]; exact (getD_put_ne (by decide)).trans gr4_32
        have gr5_33 : r5.tmps.getD 33 undef = (.int .i64 ((xs.length + 1 : Nat))) := by rw [qr5]; exact (getD_put_ne (by decide)).trans gr4_33
        have gr5_34 : r5.tmps.getD 34 undef = (.int .i64 (((xs.length + 1 : Nat) : Int) - 1)) := by rw [qr5]; exact (getD_put_ne (by decide)).trans gr4_34
        have gr5_35 : r5.tmps.getD 35 undef = (.slice (some ⟨ls, 0, none⟩) xs.length c) := by rw [qr5]; exact getD_put_eq (by rw [zr4]; decide)
        change wpListIn (Fw none) 0 Tryz.prog _ _ _ (r4.put (some 35) (.slice (some ⟨ls, 0, none⟩) xs.length c)) we
        rw [← qr5]
        refine list_step rfl (op_skip (by intro d h; cases h) (st76 r5 we _ (.tmp 1) (.tmp 35) rfl gr5_1 gr5_35 H3.hl Nat.zero_lt_one) ?_)
        obtain ⟨wf, hwf⟩ : ∃ x, x = we.setRow (B + 1) ((#[v3] : Array Value).set! 0 (.slice (some ⟨ls, 0, none⟩) xs.length c)) := ⟨_, rfl⟩
        change wpListIn (Fw none) 0 Tryz.prog _ _ _ r5 (we.setRow (B + 1) ((#[v3] : Array Value).set! 0 (.slice (some ⟨ls, 0, none⟩) xs.length c)))
        rw [← hwf]
        refine list_nil ?_
        have R9 : RS r5 f B bc bn := ⟨zr5, dr5, gr5_0, gr5_1, gr5_2, gr5_3, gr5_4, gr5_5⟩
        have h8b := gr5_8
        change Code.wpIn (Fw none) 0 Tryz.prog N5 _ r5 wf
        refine wpIn_region_list ?_
        refine list_step rfl (op_val (by intro d h; cases h) (mvR r5 wf _ (.tmp 8) rfl h8b) ?_)
        obtain ⟨s1, qs1⟩ : ∃ x, x = r5.put (some 20) (.int .i64 (p : Nat)) := ⟨_, rfl⟩
        have zs1 : s1.tmps.size = 36 := by rw [qs1, size_put]; exact R9.size
        have ds1 : s1.defers = [] := by rw [qs1, defers_put]; exact R9.defers
        have gs1_0 : s1.tmps.getD 0 undef = (.int .i64 (f : Nat)) := by rw [qs1]; exact (getD_put_ne (by decide)).trans R9.s0
        have gs1_1 : s1.tmps.getD 1 undef = (.pointer (some ⟨(B + 1), 0, none⟩)) := by rw [qs1]; exact (getD_put_ne (by decide)).trans R9.s1
        have gs1_2 : s1.tmps.getD 2 undef = (.pointer (some ⟨bc, 0, none⟩)) := by rw [qs1]; exact (getD_put_ne (by decide)).trans R9.s2
        have gs1_3 : s1.tmps.getD 3 undef = (.pointer (some ⟨B, 0, none⟩)) := by rw [qs1]; exact (getD_put_ne (by decide)).trans R9.s3
        have gs1_4 : s1.tmps.getD 4 undef = (.pointer (some ⟨bn, 0, none⟩)) := by rw [qs1]; exact (getD_put_ne (by decide)).trans R9.s4
        have gs1_5 : s1.tmps.getD 5 undef = (.pointer (some ⟨(B + 2), 0, none⟩)) := by rw [qs1]; exact (getD_put_ne (by decide)).trans R9.s5
        have gs1_8 : s1.tmps.getD 8 undef = (.int .i64 (p : Nat)) := by rw [qs1]; exact (getD_put_ne (by decide)).trans h8b
        have gs1_20 : s1.tmps.getD 20 undef = (.int .i64 (p : Nat)) := by rw [qs1]; exact getD_put_eq (by rw [R9.size]; decide)
        change wpListIn (Fw none) 0 Tryz.prog _ _ _ (r5.put (some 20) (.int .i64 (p : Nat))) wf
        rw [← qs1]
        refine list_step rfl (op_val (by intro d h; cases h) (adN s1 wf _ (.tmp 20) (.const (.int .i64 1)) rfl gs1_20 rfl (by omega)) ?_)
        obtain ⟨s2, qs2⟩ : ∃ x, x = s1.put (some 21) (.int .i64 ((p + 1 : Nat))) := ⟨_, rfl⟩
        have zs2 : s2.tmps.size = 36 := by rw [qs2, size_put]; exact zs1
        have ds2 : s2.defers = [] := by rw [qs2, defers_put]; exact ds1
        have gs2_0 : s2.tmps.getD 0 undef = (.int .i64 (f : Nat)) := by rw [qs2]; exact (getD_put_ne (by decide)).trans gs1_0
        have gs2_1 : s2.tmps.getD 1 undef = (.pointer (some ⟨(B + 1), 0, none⟩)) := by rw [qs2]; exact (getD_put_ne (by decide)).trans gs1_1
        have gs2_2 : s2.tmps.getD 2 undef = (.pointer (some ⟨bc, 0, none⟩)) := by rw [qs2]; exact (getD_put_ne (by decide)).trans gs1_2
        have gs2_3 : s2.tmps.getD 3 undef = (.pointer (some ⟨B, 0, none⟩)) := by rw [qs2]; exact (getD_put_ne (by decide)).trans gs1_3
        have gs2_4 : s2.tmps.getD 4 undef = (.pointer (some ⟨bn, 0, none⟩)) := by rw [qs2]; exact (getD_put_ne (by decide)).trans gs1_4
        have gs2_5 : s2.tmps.getD 5 undef = (.pointer (some ⟨(B + 2), 0, none⟩)) := by rw [qs2]; exact (getD_put_ne (by decide)).trans gs1_5
        have gs2_8 : s2.tmps.getD 8 undef = (.int .i64 (p : Nat)) := by rw [qs2]; exact (getD_put_ne (by decide)).trans gs1_8
        have gs2_20 : s2.tmps.getD 20 undef = (.int .i64 (p : Nat)) := by rw [qs2]; exact (getD_put_ne (by decide)).trans gs1_20
        have gs2_21 : s2.tmps.getD 21 undef = (.int .i64 ((p + 1 : Nat))) := by rw [qs2]; exact getD_put_eq (by rw [zs1]; decide)
        change wpListIn (Fw none) 0 Tryz.prog _ _ _ (s1.put (some 21) (.int .i64 ((p + 1 : Nat)))) wf
        rw [← qs2]
        refine list_step rfl (op_val (by intro d h; cases h) (asR s2 wf _ (.tmp 21) rfl gs2_21) ?_)
        obtain ⟨s3, qs3⟩ : ∃ x, x = s2.put (some 8) (.int .i64 ((p + 1 : Nat))) := ⟨_, rfl⟩
        have zs3 : s3.tmps.size = 36 := by rw [qs3, size_put]; exact zs2
        have ds3 : s3.defers = [] := by rw [qs3, defers_put]; exact ds2
        have gs3_0 : s3.tmps.getD 0 undef = (.int .i64 (f : Nat)) := by rw [qs3]; exact (getD_put_ne (by decide)).trans gs2_0
        have gs3_1 : s3.tmps.getD 1 undef = (.pointer (some ⟨(B + 1), 0, none⟩)) := by rw [qs3]; exact (getD_put_ne (by decide)).trans gs2_1
        have gs3_2 : s3.tmps.getD 2 undef = (.pointer (some ⟨bc, 0, none⟩)) := by rw [qs3]; exact (getD_put_ne (by decide)).trans gs2_2
        have gs3_3 : s3.tmps.getD 3 undef = (.pointer (some ⟨B, 0, none⟩)) := by rw [qs3]; exact (getD_put_ne (by decide)).trans gs2_3
        have gs3_4 : s3.tmps.getD 4 undef = (.pointer (some ⟨bn, 0, none⟩)) := by rw [qs3]; exact (getD_put_ne (by decide)).trans gs2_4
        have gs3_5 : s3.tmps.getD 5 undef = (.pointer (some ⟨(B + 2), 0, none⟩)) := by rw [qs3]; exact (getD_put_ne (by decide)).trans gs2_5
        have gs3_20 : s3.tmps.getD 20 undef = (.int .i64 (p : Nat)) := by rw [qs3]; exact (getD_put_ne (by decide)).trans gs2_20
        have gs3_21 : s3.tmps.getD 21 undef = (.int .i64 ((p + 1 : Nat))) := by rw [qs3]; exact (getD_put_ne (by decide)).trans gs2_21
        have gs3_8 : s3.tmps.getD 8 undef = (.int .i64 ((p + 1 : Nat))) := by rw [qs3]; exact getD_put_eq (by rw [zs2]; decide)
        change wpListIn (Fw none) 0 Tryz.prog _ _ _ (s2.put (some 8) (.int .i64 ((p + 1 : Nat)))) wf
        rw [← qs3]
        have R10 : RS s3 f B bc bn := ⟨zs3, ds3, gs3_0, gs3_1, gs3_2, gs3_3, gs3_4, gs3_5⟩
        have h8c := gs3_8
        refine list_nil ?_
        have H4 : HC B bc bn yv wf (.slice (some ⟨ls, 0, none⟩) xs.length c) xs := by
          rw [hwf]
          exact ⟨(setRow_other we (B + 1) B _ (by omega)).trans H3.hy, setRow_heap we (B + 1) _ _ 76 (0, 0) H3.hl, (setRow_other we (B + 1) (B + 2) _ (by omega)).trans H3.hm, ld_mono hld3 fun b hb hs => setRow_other we (B + 1) b _ (by omega)⟩
        exact ⟨s', Nat.lt_succ_self s', p + 1, s', _, by omega, rfl, R10, h8c, H4, hY.below _ _ _ hJ3 (by rw [hwf]; exact bel_setRow (by omega))⟩
      · refine ⟨.bool false, rfl, ?_⟩
        obtain ⟨of1, qof1⟩ : ∃ x, x = o3.put (some 29) (.bool false) := ⟨_, rfl⟩
        have zof1 : of1.tmps.size = 36 := by rw [qof1, size_put]; exact zo3
        have dof1 : of1.defers = [] := by rw [qof1, defers_put]; exact do3
        have gof1_0 : of1.tmps.getD 0 undef = (.int .i64 (f : Nat)) := by rw [qof1]; exact (getD_put_ne (by decide)).trans go3_0
        have gof1_1 : of1.tmps.getD 1 undef = (.pointer (some ⟨(B + 1), 0, none⟩)) := by rw [qof1]; exact (getD_put_ne (by decide)).trans go3_1
        have gof1_2 : of1.tmps.getD 2 undef = (.pointer (some ⟨bc, 0, none⟩)) := by rw [qof1]; exact (getD_put_ne (by decide)).trans go3_2
        have gof1_3 : of1.tmps.getD 3 undef = (.pointer (some ⟨B, 0, none⟩)) := by rw [qof1]; exact (getD_put_ne (by decide)).trans go3_3
        have gof1_4 : of1.tmps.getD 4 undef = (.pointer (some ⟨bn, 0, none⟩)) := by rw [qof1]; exact (getD_put_ne (by decide)).trans go3_4
        have gof1_5 : of1.tmps.getD 5 undef = (.pointer (some ⟨(B + 2), 0, none⟩)) := by rw [qof1]; exact (getD_put_ne (by decide)).trans go3_5
        have gof1_8 : of1.tmps.getD 8 undef = (.int .i64 (p : Nat)) := by rw [qof1]; exact (getD_put_ne (by decide)).trans go3_8
        have gof1_26 : of1.tmps.getD 26 undef = (.func (.func 179) #[] (capt B bc bn)) := by rw [qof1]; exact (getD_put_ne (by decide)).trans go3_26
        have gof1_27 : of1.tmps.getD 27 undef = (.int .i64 (p : Nat)) := by rw [qof1]; exact (getD_put_ne (by decide)).trans go3_27
        have gof1_28 : of1.tmps.getD 28 undef = (.int .i64 ((p : Nat) + (1 : Int))) := by rw [qof1]; exact (getD_put_ne (by decide)).trans go3_28
        have gof1_29 : of1.tmps.getD 29 undef = (.bool false) := by rw [qof1]; exact getD_put_eq (by rw [zo3]; decide)
        change wpListIn (Fw none) 0 Tryz.prog _ _ _ (o3.put (some 29) (.bool false)) we
        rw [← qof1]
        refine list_step rfl (op_val (by intro d h; cases h) (ntR of1 we _ (.tmp 29) rfl gof1_29) ?_)
        obtain ⟨of2, qof2⟩ : ∃ x, x = of1.put (some 30) (.bool true) := ⟨_, rfl⟩
        have zof2 : of2.tmps.size = 36 := by rw [qof2, size_put]; exact zof1
        have dof2 : of2.defers = [] := by rw [qof2, defers_put]; exact dof1
        have gof2_0 : of2.tmps.getD 0 undef = (.int .i64 (f : Nat)) := by rw [qof2]; exact (getD_put_ne (by decide)).trans gof1_0
        have gof2_1 : of2.tmps.getD 1 undef = (.pointer (some ⟨(B + 1), 0, none⟩)) := by rw [qof2]; exact (getD_put_ne (by decide)).trans gof1_1
        have gof2_2 : of2.tmps.getD 2 undef = (.pointer (some ⟨bc, 0, none⟩)) := by rw [qof2]; exact (getD_put_ne (by decide)).trans gof1_2
        have gof2_3 : of2.tmps.getD 3 undef = (.pointer (some ⟨B, 0, none⟩)) := by rw [qof2]; exact (getD_put_ne (by decide)).trans gof1_3
        have gof2_4 : of2.tmps.getD 4 undef = (.pointer (some ⟨bn, 0, none⟩)) := by rw [qof2]; exact (getD_put_ne (by decide)).trans gof1_4
        have gof2_5 : of2.tmps.getD 5 undef = (.pointer (some ⟨(B + 2), 0, none⟩)) := by rw [qof2]; exact (getD_put_ne (by decide)).trans gof1_5
        have gof2_8 : of2.tmps.getD 8 undef = (.int .i64 (p : Nat)) := by rw [qof2]; exact (getD_put_ne (by decide)).trans gof1_8
        have gof2_26 : of2.tmps.getD 26 undef = (.func (.func 179) #[] (capt B bc bn)) := by rw [qof2]; exact (getD_put_ne (by decide)).trans gof1_26
        have gof2_27 : of2.tmps.getD 27 undef = (.int .i64 (p : Nat)) := by rw [qof2]; exact (getD_put_ne (by decide)).trans gof1_27
        have gof2_28 : of2.tmps.getD 28 undef = (.int .i64 ((p : Nat) + (1 : Int))) := by rw [qof2]; exact (getD_put_ne (by decide)).trans gof1_28
        have gof2_29 : of2.tmps.getD 29 undef = (.bool false) := by rw [qof2]; exact (getD_put_ne (by decide)).trans gof1_29
        have gof2_30 : of2.tmps.getD 30 undef = (.bool true) := by rw [qof2]; exact getD_put_eq (by rw [zof1]; decide)
        change wpListIn (Fw none) 0 Tryz.prog _ _ _ (of1.put (some 30) (.bool true)) we
        rw [← qof2]
        have R7 : RS of2 f B bc bn := ⟨zof2, dof2, gof2_0, gof2_1, gof2_2, gof2_3, gof2_4, gof2_5⟩
        have h8a := gof2_8
        have h30 := gof2_30
        refine list_nil (wpIn_cond_true h30 (wpIn_seq ?_))
        change Code.wpIn (Fw none) 0 Tryz.prog N8 _ of2 we
        refine wpIn_region_list ?_
        refine list_step rfl (op_val (by intro d h; cases h) (asR of2 we _ (.const (.bool false)) rfl rfl) ?_)
        obtain ⟨e1, qe1⟩ : ∃ x, x = of2.put (some 7) (.bool false) := ⟨_, rfl⟩
        have ze1 : e1.tmps.size = 36 := by rw [qe1, size_put]; exact R7.size
        have de1 : e1.defers = [] := by rw [qe1, defers_put]; exact R7.defers
        have ge1_0 : e1.tmps.getD 0 undef = (.int .i64 (f : Nat)) := by rw [qe1]; exact (getD_put_ne (by decide)).trans R7.s0
        have ge1_1 : e1.tmps.getD 1 undef = (.pointer (some ⟨(B + 1), 0, none⟩)) := by rw [qe1]; exact (getD_put_ne (by decide)).trans R7.s1
        have ge1_2 : e1.tmps.getD 2 undef = (.pointer (some ⟨bc, 0, none⟩)) := by rw [qe1]; exact (getD_put_ne (by decide)).trans R7.s2
        have ge1_3 : e1.tmps.getD 3 undef = (.pointer (some ⟨B, 0, none⟩)) := by rw [qe1]; exact (getD_put_ne (by decide)).trans R7.s3
        have ge1_4 : e1.tmps.getD 4 undef = (.pointer (some ⟨bn, 0, none⟩)) := by rw [qe1]; exact (getD_put_ne (by decide)).trans R7.s4
        have ge1_5 : e1.tmps.getD 5 undef = (.pointer (some ⟨(B + 2), 0, none⟩)) := by rw [qe1]; exact (getD_put_ne (by decide)).trans R7.s5
        have ge1_7 : e1.tmps.getD 7 undef = (.bool false) := by rw [qe1]; exact getD_put_eq (by rw [R7.size]; decide)
        change wpListIn (Fw none) 0 Tryz.prog _ _ _ (of2.put (some 7) (.bool false)) we
        rw [← qe1]
        refine list_nil (wpIn_ret ?_)
        refine (show bodyPost Tryz.prog Tryz.f179 (fun e W' => (e = .returned (.bool true) ∧ J rest W' ∧ ∃ v', HC B bc bn (.func (.yield l) #[] #[]) W' v' xs) ∨ (e = .returned (.bool false) ∧ Jx W')) .ret e1 we from ?_)
        exact ret1 de1 ge1_7 (.inr ⟨rfl, hJx⟩)
    · have h19 : l3.eval (.tmp 19) = .bool false := h19.trans (by rw [decide_eq_false (by omega)])
      refine wpIn_cond_false h19 (wpIn_exit ?_)
      change Code.wpIn (Fw none) 0 Tryz.prog (.seq N10 .ret) _ l3 w
      refine wpIn_seq (wpIn_region_list ?_)
      refine list_step rfl (op_val (by intro d h; cases h) (asR l3 w _ (.const (.bool true)) rfl rfl) ?_)
      obtain ⟨x1, qx1⟩ : ∃ x, x = l3.put (some 7) (.bool true) := ⟨_, rfl⟩
      have zx1 : x1.tmps.size = 36 := by rw [qx1, size_put]; exact R4.size
      have dx1 : x1.defers = [] := by rw [qx1, defers_put]; exact R4.defers
      have gx1_0 : x1.tmps.getD 0 undef = (.int .i64 (f : Nat)) := by rw [qx1]; exact (getD_put_ne (by decide)).trans R4.s0
      have gx1_1 : x1.tmps.getD 1 undef = (.pointer (some ⟨(B + 1), 0, none⟩)) := by rw [qx1]; exact (getD_put_ne (by decide)).trans R4.s1
      have gx1_2 : x1.tmps.getD 2 undef = (.pointer (some ⟨bc, 0, none⟩)) := by rw [qx1]; exact (getD_put_ne (by decide)).trans R4.s2
      have gx1_3 : x1.tmps.getD 3 undef = (.pointer (some ⟨B, 0, none⟩)) := by rw [qx1]; exact (getD_put_ne (by decide)).trans R4.s3
      have gx1_4 : x1.tmps.getD 4 undef = (.pointer (some ⟨bn, 0, none⟩)) := by rw [qx1]; exact (getD_put_ne (by decide)).trans R4.s4
      have gx1_5 : x1.tmps.getD 5 undef = (.pointer (some ⟨(B + 2), 0, none⟩)) := by rw [qx1]; exact (getD_put_ne (by decide)).trans R4.s5
      have gx1_7 : x1.tmps.getD 7 undef = (.bool true) := by rw [qx1]; exact getD_put_eq (by rw [R4.size]; decide)
      change wpListIn (Fw none) 0 Tryz.prog _ _ _ (l3.put (some 7) (.bool true)) w
      rw [← qx1]
      refine list_nil (wpIn_ret ?_)
      refine (show bodyPost Tryz.prog Tryz.f179 (fun e W' => (e = .returned (.bool true) ∧ J rest W' ∧ ∃ v', HC B bc bn (.func (.yield l) #[] #[]) W' v' xs) ∨ (e = .returned (.bool false) ∧ Jx W')) .ret x1 w from ?_)
      refine ret1 dx1 gx1_7 (.inl ⟨rfl, ?_, v, by rw [← hyv]; exact H⟩)
      have e : s = 0 := by omega
      subst e
      simpa [combs] using hJ
end Go.Eng.Ar

namespace Go.Eng.Ar
open Go.Eng Go.Proofs Go
set_option linter.all false
set_option maxRecDepth 100000
set_option maxHeartbeats 2000000
theorem info202 : Tryz.prog.info? 202 = some Tryz.t202 := by kernel_rfl
theorem size202 : Tryz.t202.size = 1 := by kernel_rfl
theorem zero202 : Tryz.t202.zero = some .nilFunc := by kernel_rfl
theorem info234 : Tryz.prog.info? 234 = some Tryz.t234 := by kernel_rfl
theorem size234 : Tryz.t234.size = 1 := by kernel_rfl
theorem bx234 (a : Act) (w : World) (o : Oper) (x : Operand) (ho : o.op = .box 234 x) {fn : Fn} {p q : Array Value} (hx : a.eval x = .func fn p q) : (execOp a.eval o).run Tryz.prog w = .ok (.value (.pointer (some ⟨w.heap.size, 0, none⟩))) (w.alloc (.cells #[.func fn p q] 234 (0, 0))) := by
  simp [execOp, ho, hx, Instr.box, sizeOf, typeInfo, info234, size234, newVar, agg234, newRow, Value.cells]
theorem al76 (a : Act) (w : World) (o : Oper) (ho : o.op = .alloc 76) : (execOp a.eval o).run Tryz.prog w = .ok (.value (.pointer (some ⟨w.heap.size, 0, none⟩))) (w.alloc (.cells #[.slice none 0 0] 76 (0, 0))) := by
  have hz := run_zeroValue row76 w
  simp [execOp, ho, hz, newRow, Value.cells]
  try rfl
theorem al202 (a : Act) (w : World) (o : Oper) (ho : o.op = .alloc 202) : (execOp a.eval o).run Tryz.prog w = .ok (.value (.pointer (some ⟨w.heap.size, 0, none⟩))) (w.alloc (.cells #[.nilFunc] 202 (0, 0))) := by
  simp [execOp, ho, Instr.alloc, newRow, Value.cells, zeroValue, typeInfo, info202, zero202, newVar, agg202]
theorem mfR (a : Act) (w : World) (o : Oper) (ho : o.op = .makeFunc (.func 179) #[] #[.tmp 4, .tmp 1, .tmp 3, .tmp 2, .tmp 5]) {v1 v2 v3 v4 v5 : Value} (h4 : a.eval (.tmp 4) = v1) (h1 : a.eval (.tmp 1) = v2) (h3 : a.eval (.tmp 3) = v3) (h2 : a.eval (.tmp 2) = v4) (h5 : a.eval (.tmp 5) = v5) :
    (execOp a.eval o).run Tryz.prog w = .ok (.value (.func (.func 179) #[] #[v1, v2, v3, v4, v5])) w := by
  simp [execOp, ho, h1, h2, h3, h4, h5, Instr.makeFunc]
theorem st202 (a : Act) (w : World) (o : Oper) (x y : Operand) (ho : o.op = .store 202 x y) {b el : Nat} {u : Value} {fn : Fn} {p q : Array Value} (hx : a.eval x = .pointer (some ⟨b, 0, none⟩)) (hy : a.eval y = .func fn p q) (hb : w.heap[b]? = some (.cells #[u] el (0, 0))) :
    (execOp a.eval o).run Tryz.prog w = .ok .skip (w.setRow b #[.func fn p q]) := by
  have h1 := run_storeCells_at Tryz.prog b 0 el [.func fn p q] 0 #[u] w hb (by simp) (by simp [Value.oneCell'])
  have hst : (storeVar 202 ⟨b, 0, none⟩ (.func fn p q)).run Tryz.prog w = .ok () (w.setRow b #[.func fn p q]) := by
    simp only [storeVar, Value.cells]
    simp [sizeOf, typeInfo, info202, size202]
    rw [h1]; simp
  simp [execOp, ho, hx, hy, Instr.storeAt, Instr.sureAddr, hst]
noncomputable def b178 : Code := bodyOf Tryz.f178
noncomputable def C0 : Code := match b178 with | .seq x _ => x | c => c
noncomputable def C1 : Code := match b178 with | .seq _ (.seq x _) => x | c => c
noncomputable def C2 : Code := match b178 with | .seq _ (.seq _ (.seq x _)) => x | c => c
noncomputable def C3 : Code := match b178 with | .seq _ (.seq _ (.seq _ (.seq x _))) => x | c => c
noncomputable def C4 : Code := match b178 with | .seq _ (.seq _ (.seq _ (.seq _ x))) => x | c => c
theorem body178 : (Tryz.f178.body : Option Code) = some (.seq C0 (.seq C1 (.seq C2 (.seq C3 C4)))) := rfl
theorem init178 {n : Nat} (hn : n = 9) {x0 x1 x2 : Value} {a0 : Act} (ha : a0 = { tmps := (#[x0] ++ #[x1, x2]) ++ Array.replicate (n - (#[x0] ++ #[x1, x2]).size) undef, defers := [] }) : a0.tmps.size = 9 ∧ a0.defers = [] ∧ a0.tmps.getD 0 undef = x0 ∧ a0.tmps.getD 1 undef = x1 ∧ a0.tmps.getD 2 undef = x2 := by
  subst hn
  have e : (#[x0] ++ #[x1, x2]) ++ Array.replicate (9 - (#[x0] ++ #[x1, x2]).size) undef = #[x0, x1, x2] ++ Array.replicate 6 undef := rfl
  rw [e] at ha
  rw [ha]
  refine ⟨by simp, rfl, ?_, ?_, ?_⟩ <;> simp
theorem heap_new {w : World} {o : Obj} {B : Nat} (h : B = w.heap.size) : (w.alloc o).heap[B]? = some o := by
  subst h; show (w.heap.push o)[w.heap.size]? = _; simp
theorem heap_old {w : World} {o p : Obj} {b : Nat} (h : w.heap[b]? = some p) : (w.alloc o).heap[b]? = some p := by
  show (w.heap.push o)[b]? = _
  rw [Array.getElem?_push, if_neg (Nat.ne_of_lt (lt_of_heap h))]; exact h
theorem size_new {w : World} {o : Obj} : (w.alloc o).heap.size = w.heap.size + 1 := by
  show (w.heap.push o).size = _
  rw [Array.size_push]
theorem chosen1_in {l B bc bn count numbers : Nat} {J : List (List Int) → World → Prop} {Jx : World → Prop} (hY : Yld l B bc bn count numbers J Jx) (hcn : count ≤ 100 ∧ 0 < count) (hnn : numbers ≤ 100) (hbc : bc < B ∧ bn < B) (W : World) (hB : B = W.heap.size) (hJ : J (combs count 0 numbers) W) :
    CallsIn (Fw none) 0 Tryz.prog 178 (#[Value.func (.yield l) #[] #[]] ++ #[Value.pointer (some ⟨bc, 0, none⟩), Value.pointer (some ⟨bn, 0, none⟩)]) W fun e W' => (∃ v, e = .returned v) ∧ (J [] W' ∨ Jx W') := by
  refine callsIn_of_wp (F := Fw none) (n := 0) (fn := Tryz.f178) Tryz.func178 body178 trivial ?_
  obtain ⟨a0, ha0⟩ : ∃ a0 : Act, a0 = { tmps := (#[Value.func (.yield l) #[] #[]] ++ #[Value.pointer (some ⟨bc, 0, none⟩), Value.pointer (some ⟨bn, 0, none⟩)]) ++ Array.replicate (Tryz.f178.ntmps - (#[Value.func (.yield l) #[] #[]] ++ #[Value.pointer (some ⟨bc, 0, none⟩), Value.pointer (some ⟨bn, 0, none⟩)]).size) undef, defers := [] } := ⟨_, rfl⟩
  rw [← ha0]
  obtain ⟨za0, da0, g0, g1, g2⟩ := init178 rfl ha0
  clear ha0
  refine wpIn_seq (wpIn_region_list ?_)
  obtain ⟨W1, hW1⟩ : ∃ x, x = W.alloc (.cells #[.func (.yield l) #[] #[]] 234 (0, 0)) := ⟨_, rfl⟩
  refine list_step rfl (op_bs (by intro d h; cases h) (bx234 a0 W _ (.tmp 0) rfl g0) ?_)
  rw [← hW1]
  obtain ⟨a1, qa1⟩ : ∃ x, x = a0.put (some 3) (.pointer (some ⟨W.heap.size, 0, none⟩)) := ⟨_, rfl⟩
  have za1 : a1.tmps.size = 9 := by rw [qa1, size_put]; exact za0
  have da1 : a1.defers = [] := by rw [qa1, defers_put]; exact da0
  have ga1_0 : a1.tmps.getD 0 undef = (.func (.yield l) #[] #[]) := by rw [qa1]; exact (getD_put_ne (by decide)).trans g0
  have ga1_1 : a1.tmps.getD 1 undef = (.pointer (some ⟨bc, 0, none⟩)) := by rw [qa1]; exact (getD_put_ne (by decide)).trans g1
  have ga1_2 : a1.tmps.getD 2 undef = (.pointer (some ⟨bn, 0, none⟩)) := by rw [qa1]; exact (getD_put_ne (by decide)).trans g2
  have ga1_3 : a1.tmps.getD 3 undef = (.pointer (some ⟨W.heap.size, 0, none⟩)) := by rw [qa1]; exact getD_put_eq (by rw [za0]; decide)
  change wpListIn (Fw none) 0 Tryz.prog _ _ _ (a0.put (some 3) (.pointer (some ⟨W.heap.size, 0, none⟩))) W1
  rw [← qa1]
  have eW1 : W.heap.size = B := by exact hB.symm
  rw [eW1] at ga1_3
  refine list_nil (wpIn_seq (wpIn_region_list ?_))
  obtain ⟨W2, hW2⟩ : ∃ x, x = W1.alloc (.cells #[.slice none 0 0] 76 (0, 0)) := ⟨_, rfl⟩
  refine list_step rfl (op_bs (by intro d h; cases h) (al76 a1 W1 _ rfl) ?_)
  rw [← hW2]
  obtain ⟨a2, qa2⟩ : ∃ x, x = a1.put (some 4) (.pointer (some ⟨W1.heap.size, 0, none⟩)) := ⟨_, rfl⟩
  have za2 : a2.tmps.size = 9 := by rw [qa2, size_put]; exact za1
  have da2 : a2.defers = [] := by rw [qa2, defers_put]; exact da1
  have ga2_0 : a2.tmps.getD 0 undef = (.func (.yield l) #[] #[]) := by rw [qa2]; exact (getD_put_ne (by decide)).trans ga1_0
  have ga2_1 : a2.tmps.getD 1 undef = (.pointer (some ⟨bc, 0, none⟩)) := by rw [qa2]; exact (getD_put_ne (by decide)).trans ga1_1
  have ga2_2 : a2.tmps.getD 2 undef = (.pointer (some ⟨bn, 0, none⟩)) := by rw [qa2]; exact (getD_put_ne (by decide)).trans ga1_2
  have ga2_3 : a2.tmps.getD 3 undef = (.pointer (some ⟨B, 0, none⟩)) := by rw [qa2]; exact (getD_put_ne (by decide)).trans ga1_3
  have ga2_4 : a2.tmps.getD 4 undef = (.pointer (some ⟨W1.heap.size, 0, none⟩)) := by rw [qa2]; exact getD_put_eq (by rw [za1]; decide)
  change wpListIn (Fw none) 0 Tryz.prog _ _ _ (a1.put (some 4) (.pointer (some ⟨W1.heap.size, 0, none⟩))) W2
  rw [← qa2]
  have eW2 : W1.heap.size = (B + 1) := by rw [hW1, size_new, eW1]
  rw [eW2] at ga2_4
  refine list_nil (wpIn_seq (wpIn_region_list ?_))
  obtain ⟨W3, hW3⟩ : ∃ x, x = W2.alloc (.cells #[.nilFunc] 202 (0, 0)) := ⟨_, rfl⟩
  refine list_step rfl (op_bs (by intro d h; cases h) (al202 a2 W2 _ rfl) ?_)
  rw [← hW3]
  obtain ⟨a3, qa3⟩ : ∃ x, x = a2.put (some 5) (.pointer (some ⟨W2.heap.size, 0, none⟩)) := ⟨_, rfl⟩
  have za3 : a3.tmps.size = 9 := by rw [qa3, size_put]; exact za2
  have da3 : a3.defers = [] := by rw [qa3, defers_put]; exact da2
  have ga3_0 : a3.tmps.getD 0 undef = (.func (.yield l) #[] #[]) := by rw [qa3]; exact (getD_put_ne (by decide)).trans ga2_0
  have ga3_1 : a3.tmps.getD 1 undef = (.pointer (some ⟨bc, 0, none⟩)) := by rw [qa3]; exact (getD_put_ne (by decide)).trans ga2_1
  have ga3_2 : a3.tmps.getD 2 undef = (.pointer (some ⟨bn, 0, none⟩)) := by rw [qa3]; exact (getD_put_ne (by decide)).trans ga2_2
  have ga3_3 : a3.tmps.getD 3 undef = (.pointer (some ⟨B, 0, none⟩)) := by rw [qa3]; exact (getD_put_ne (by decide)).trans ga2_3
  have ga3_4 : a3.tmps.getD 4 undef = (.pointer (some ⟨(B + 1), 0, none⟩)) := by rw [qa3]; exact (getD_put_ne (by decide)).trans ga2_4
  have ga3_5 : a3.tmps.getD 5 undef = (.pointer (some ⟨W2.heap.size, 0, none⟩)) := by rw [qa3]; exact getD_put_eq (by rw [za2]; decide)
  change wpListIn (Fw none) 0 Tryz.prog _ _ _ (a2.put (some 5) (.pointer (some ⟨W2.heap.size, 0, none⟩))) W3
  rw [← qa3]
  have eW3 : W2.heap.size = (B + 2) := by rw [hW2, size_new, eW2]
  rw [eW3] at ga3_5
  refine list_nil (wpIn_seq (wpIn_region_list ?_))
  refine list_step rfl (op_val (by intro d h; cases h) (mfR a3 W3 _ rfl ga3_4 ga3_1 ga3_3 ga3_2 ga3_5) ?_)
  obtain ⟨a4, qa4⟩ : ∃ x, x = a3.put (some 6) (.func (.func 179) #[] (capt B bc bn)) := ⟨_, rfl⟩
  have za4 : a4.tmps.size = 9 := by rw [qa4, size_put]; exact za3
  have da4 : a4.defers = [] := by rw [qa4, defers_put]; exact da3
  have ga4_0 : a4.tmps.getD 0 undef = (.func (.yield l) #[] #[]) := by rw [qa4]; exact (getD_put_ne (by decide)).trans ga3_0
  have ga4_1 : a4.tmps.getD 1 undef = (.pointer (some ⟨bc, 0, none⟩)) := by rw [qa4]; exact (getD_put_ne (by decide)).trans ga3_1
  have ga4_2 : a4.tmps.getD 2 undef = (.pointer (some ⟨bn, 0, none⟩)) := by rw [qa4]; exact (getD_put_ne (by decide)).trans ga3_2
  have ga4_3 : a4.tmps.getD 3 undef = (.pointer (some ⟨B, 0, none⟩)) := by rw [qa4]; exact (getD_put_ne (by decide)).trans ga3_3
  have ga4_4 : a4.tmps.getD 4 undef = (.pointer (some ⟨(B + 1), 0, none⟩)) := by rw [qa4]; exact (getD_put_ne (by decide)).trans ga3_4
  have ga4_5 : a4.tmps.getD 5 undef = (.pointer (some ⟨(B + 2), 0, none⟩)) := by rw [qa4]; exact (getD_put_ne (by decide)).trans ga3_5
  have ga4_6 : a4.tmps.getD 6 undef = (.func (.func 179) #[] (capt B bc bn)) := by rw [qa4]; exact getD_put_eq (by rw [za3]; decide)
  change wpListIn (Fw none) 0 Tryz.prog _ _ _ (a3.put (some 6) (.func (.func 179) #[] (capt B bc bn))) W3
  rw [← qa4]
  have x1 : W1.heap[B]? = some (.cells #[.func (.yield l) #[] #[]] 234 (0, 0)) := by rw [hW1]; exact heap_new eW1.symm
  have x2 : W2.heap[B + 1]? = some (.cells #[.slice none 0 0] 76 (0, 0)) := by rw [hW2]; exact heap_new eW2.symm
  have x3 : W3.heap[B + 2]? = some (.cells #[.nilFunc] 202 (0, 0)) := by rw [hW3]; exact heap_new eW3.symm
  have x13 : W3.heap[B]? = some (.cells #[.func (.yield l) #[] #[]] 234 (0, 0)) := by rw [hW3]; exact heap_old (by rw [hW2]; exact heap_old x1)
  have x23 : W3.heap[B + 1]? = some (.cells #[.slice none 0 0] 76 (0, 0)) := by rw [hW3]; exact heap_old x2
  refine list_step rfl (op_skip (by intro d h; cases h) (st202 a4 W3 _ (.tmp 5) (.tmp 6) rfl ga4_5 ga4_6 x3) ?_)
  obtain ⟨W4, hW4⟩ : ∃ x, x = W3.setRow (B + 2) #[.func (.func 179) #[] (capt B bc bn)] := ⟨_, rfl⟩
  change wpListIn (Fw none) 0 Tryz.prog _ _ _ a4 (W3.setRow (B + 2) #[.func (.func 179) #[] (capt B bc bn)])
  rw [← hW4]
  have H : HC B bc bn (.func (.yield l) #[] #[]) W4 (.slice none 0 0) [] := by
    rw [hW4]
    exact ⟨(setRow_other W3 (B + 2) B _ (by omega)).trans x13, (setRow_other W3 (B + 2) (B + 1) _ (by omega)).trans x23, setRow_heap W3 (B + 2) _ _ 202 (0, 0) x3, .inl ⟨rfl, rfl⟩⟩
  have hbel : Bel B W W4 := by
    rw [hW4, hW3, hW2, hW1]
    exact ((bel_alloc.trans bel_alloc).trans bel_alloc).trans (bel_setRow (by omega))
  have hJ4 : J ((combs count 0 numbers).map ([] ++ ·) ++ []) W4 := by simpa using hY.below _ _ _ hJ hbel
  refine list_nil ?_
  change Code.wpIn (Fw none) 0 Tryz.prog C4 _ a4 W4
  refine wpIn_region_list ?_
  refine list_step rfl (op_val (by intro d h; cases h) (ldF agg202 a4 W4 _ (.tmp 5) rfl ga4_5 H.hm rfl) ?_)
  obtain ⟨a5, qa5⟩ : ∃ x, x = a4.put (some 7) (.func (.func 179) #[] (capt B bc bn)) := ⟨_, rfl⟩
  have za5 : a5.tmps.size = 9 := by rw [qa5, size_put]; exact za4
  have da5 : a5.defers = [] := by rw [qa5, defers_put]; exact da4
  have ga5_0 : a5.tmps.getD 0 undef = (.func (.yield l) #[] #[]) := by rw [qa5]; exact (getD_put_ne (by decide)).trans ga4_0
  have ga5_1 : a5.tmps.getD 1 undef = (.pointer (some ⟨bc, 0, none⟩)) := by rw [qa5]; exact (getD_put_ne (by decide)).trans ga4_1
  have ga5_2 : a5.tmps.getD 2 undef = (.pointer (some ⟨bn, 0, none⟩)) := by rw [qa5]; exact (getD_put_ne (by decide)).trans ga4_2
  have ga5_3 : a5.tmps.getD 3 undef = (.pointer (some ⟨B, 0, none⟩)) := by rw [qa5]; exact (getD_put_ne (by decide)).trans ga4_3
  have ga5_4 : a5.tmps.getD 4 undef = (.pointer (some ⟨(B + 1), 0, none⟩)) := by rw [qa5]; exact (getD_put_ne (by decide)).trans ga4_4
  have ga5_5 : a5.tmps.getD 5 undef = (.pointer (some ⟨(B + 2), 0, none⟩)) := by rw [qa5]; exact (getD_put_ne (by decide)).trans ga4_5
  have ga5_6 : a5.tmps.getD 6 undef = (.func (.func 179) #[] (capt B bc bn)) := by rw [qa5]; exact (getD_put_ne (by decide)).trans ga4_6
  have ga5_7 : a5.tmps.getD 7 undef = (.func (.func 179) #[] (capt B bc bn)) := by rw [qa5]; exact getD_put_eq (by rw [za4]; decide)
  change wpListIn (Fw none) 0 Tryz.prog _ _ _ (a4.put (some 7) (.func (.func 179) #[] (capt B bc bn))) W4
  rw [← qa5]
  have hc := more_in hY hcn hnn hbc count 0 numbers [] [] W4 (.slice none 0 0) (by rw [List.length_nil]; omega) (by omega) H hJ4
  obtain ⟨args, hargs⟩ : ∃ x, x = (#[.int .i64 ((0 : Nat) : Int)] ++ capt B bc bn : Array Value) := ⟨_, rfl⟩
  rw [← hargs] at hc
  refine list_step rfl ?_
  refine op_enterIn (f := 179) (args := args) ?_ ?_ (hc.mono ?_)
  · intro d h; cases h
  · obtain ⟨fn, e1, e2, e3⟩ : Enters Tryz.prog 179 := ⟨Tryz.f179, Tryz.func179, by kernel_rfl, by kernel_rfl⟩
    have e2' : ¬ fn.name = "runtime.NumGoroutine" := by simpa using e2
    have e3' : ¬ fn.body = none := by intro hn; rw [hn] at e3; cases e3
    rw [hargs]
    have evc : ∀ (a : Act) (v : Value), a.eval (.const v) = v := fun a v => rfl
    simp [execOp, resolve, Deferred.ofValue, ev, evc, ga5_7, invoke, callFunc, e1, e2', e3', capt]
  have fin : ∀ (v : Value) (W' : World), (J [] W' ∨ Jx W') → bodyPost Tryz.prog Tryz.f178 (fun e W' => (∃ v, e = .returned v) ∧ (J [] W' ∨ Jx W')) .normal (a5.put (some 8) v) W' := by
    intro v W' h
    refine ⟨by rw [defers_put]; exact da5, .tuple #[], results_run (P := Tryz.prog) (fn := Tryz.f178) (vs := []) rfl, ⟨_, rfl⟩, h⟩
  rintro e we (⟨rfl, hJ3, _⟩ | ⟨rfl, hJx⟩)
  · exact ⟨.bool true, rfl, list_nil (fin _ _ (.inl hJ3))⟩
  · exact ⟨.bool false, rfl, list_nil (fin _ _ (.inr hJx))⟩
end Go.Eng.Ar

namespace Go.Eng.Ar
open Go.Eng Go.Proofs Go
set_option linter.all false
set_option maxRecDepth 100000
set_option maxHeartbeats 2000000
theorem chosen_calls (c n : Int) (w : World) : Calls Tryz.prog 163 #[.int .i64 c, .int .i64 n] w fun e w' => e = .returned (.func (.func 178) #[] #[.pointer (some ⟨w.heap.size, 0, none⟩), .pointer (some ⟨w.heap.size + 1, 0, none⟩)]) ∧ w' = (w.alloc (.cells #[.int .i64 c] 3 (0, 0))).alloc (.cells #[.int .i64 n] 3 (0, 0)) := by
  have mixed := mixed
  have t3 := Tryz.underlying3
  have hn : Tryz.f163.ntmps = 6 := rfl
  go_enter Tryz.func163, hn
  go_wp2
  go_ret
  exact ⟨rfl, rfl⟩
def bestL (b : List BndD) : List (List Int) → Option CornD
  | [] => none
  | c :: r => if (atR b c).2.1 = true then some (atR b c).1 else bestL b r
def bestR (b : List BndD) (n : Nat) : Option CornD := bestL b (combs (n + 1) 0 b.length)
noncomputable def b143 : Code := bodyOf Tryz.f143
noncomputable def B0 : Code := match b143 with | .seq x _ => x | c => c
noncomputable def B1 : Code := match b143 with | .seq _ (.seq (.seq x _) _) => x | c => c
noncomputable def B2 : Code := match b143 with | .seq _ (.seq (.seq _ (.block _ (.rangeFunc _ _ x _))) _) => x | c => c
noncomputable def BB : Code := match b143 with | .seq _ (.seq (.seq _ (.block _ (.rangeFunc _ _ _ x))) _) => x | c => c
noncomputable def BT : Code := match b143 with | .seq _ (.seq _ x) => x | c => c
noncomputable def opsB1 : List Oper := match B1 with | .region _ x _ => x.toList | _ => []
theorem body143 : (Tryz.f143.body : Option Code) = some (.seq B0 (.seq (.seq B1 (.block 0 (.rangeFunc (.tmp 12) #[13] B2 BB))) BT)) := rfl
abbrev cAt : List (Nat × Spec) := [(164, sAt)]
theorem cAt_ok : All cAt := ⟨h164, trivial⟩
@[reducible] def cfB : Cfg := cfg {} cAt 23
theorem cB_ok : CfgOk Tryz.prog OB cfB := cfgOk (X := {}) trivial cAt_ok
abbrev ProgD : Type := ProgT.Den
@[reducible] def sBest : Spec := { pats := [.dat ProgT], res := [{ t := CornerT }], pre := fun x => ∃ n : Nat, x.1.2.1 = (n : Int) ∧ n ≤ 3 ∧ (bestR x.1.2.2.1 n).isSome = true ∧ (List.length (α := BndD) x.1.2.2.1 ≤ 100) ∧ ∀ c ∈ combs (n + 1) 0 (List.length (α := BndD) x.1.2.2.1), goodA x.1.2.2.1 c, f := fun x => ((bestR x.1.2.2.1 x.1.2.1.toNat).getD cornZ, ()) }
@[reducible] def stB0 (p : ProgD) : St := [.slot 1 (.one (.p 1 0)), .cell 1 0 (.d I64 p.1), .cell 1 1 (.d I64 p.2.1), .cell 1 2 (.d (.sl BoundT) p.2.2.1), .slot 2 (.one (.p 2 0)), .cell 2 0 (.v (.slice none 0 0)), .cell 2 1 (.d I64 0), .cell 2 2 (.v (.slice none 0 0)), .cell 2 3 (.d I64 0)]
theorem vB0 (p : ProgD) : vc cfB (par cfB) [] B0 0 [.slot 0 (.one (.d ProgT p))] (fun e st => match e with | .normal => Goal (∃ _ : Unit, ent st (stB0 p) ∧ True) | .ret => False | _ => False) := by
  repeat' (intro hzz; (try (rename Two => hq; cases hq)); (try dsimp only at hzz); (try simp only [resTy, argTy, eqD, inR, big, wantOf, zB] at hzz); (try (revert hzz; intro _)))
  all_goals try (rename Unit => hq; clear hq)
  all_goals try ((with_reducible refine Held.mk ?_); (with_reducible (first | refine Frz.mk ?_ | refine And.intro (Frz.mk ?_) ?_ | refine And.intro ?_ (Frz.mk ?_))); repeat' first | exact True.intro | (change _ = _; with_reducible rfl) | refine And.intro ?_ ?_ | (with_reducible refine Frz.mk ?_))
  all_goals try (refine Held.mk ?_; (try dsimp only at *); (try simp only [resTy, argTy, eqD, inR, big, wantOf, zB] at *))
  all_goals try omega
  ·
    refine GHeld.mk ?_
    refine Exists.intro () ?_
    refine And.intro (Leaf.mk ?_) ?_
    · repeat' first | exact True.intro | refine And.intro ?_ ?_
      all_goals try ((change _ = _ <;> try dsimp only) <;> try with_reducible rfl)
      all_goals try omega
      all_goals (rfl)
    trivial
theorem vB1 (p : ProgD) (n : Nat) (hn : p.2.1 = (n : Int)) (hn3 : n ≤ 3) : runOps cfB opsB1.toArray (opsB1.take 6) (stB0 p) (fun st => Goal (∃ _ : Unit, ent st (sI 8 ((n + 1 : Nat) : Int) :: sI 11 ((List.length (α := BndD) p.2.2.1 : Nat) : Int) :: stB0 p) ∧ True)) := by
  have e : p.2.1 + 1 = ((n + 1 : Nat) : Int) := by rw [hn]; rfl
  repeat' (intro hzz; (try (rename Two => hq; cases hq)); (try dsimp only at hzz); (try simp only [resTy, argTy, eqD, inR, big, wantOf, zB] at hzz); (try (revert hzz; intro _)))
  all_goals try (rename Unit => hq; clear hq)
  all_goals try ((with_reducible refine Held.mk ?_); (with_reducible (first | refine Frz.mk ?_ | refine And.intro (Frz.mk ?_) ?_ | refine And.intro ?_ (Frz.mk ?_))); repeat' first | exact True.intro | (change _ = _; with_reducible rfl) | refine And.intro ?_ ?_ | (with_reducible refine Frz.mk ?_))
  all_goals try (refine Held.mk ?_; (try dsimp only at *); (try simp only [resTy, argTy, eqD, inR, big, wantOf, zB] at *))
  · have hn : p.2.1 = (n : Int) := hn
    rw [hn]; omega
  ·
    refine GHeld.mk ?_
    refine Exists.intro () ?_
    refine And.intro (Leaf.mk ?_) ?_
    · repeat' first | exact True.intro | refine And.intro ?_ ?_
      all_goals try ((change _ = _ <;> try dsimp only) <;> try with_reducible rfl)
      all_goals try omega
      all_goals (first | rfl | exact e)
    trivial
@[reducible] def stR (p : ProgD) (c : List Int) : St := [.slot 1 (.one (.pd ProgT p)), .slot 3 (.one (.d (.sl I64) c)), .slot 2 (.one (.p 2 0)), .cell 2 0 .u, .cell 2 1 .u, .cell 2 2 .u, .cell 2 3 .u]
@[reducible] def stC (x : CornD) : St := [.slot 2 (.one (.p 2 0)), .cell 2 0 (.d (.sl I64) x.1), .cell 2 1 (.d I64 x.2.1), .cell 2 2 (.d (.sl I64) x.2.2.1), .cell 2 3 (.d I64 x.2.2.2.1)]
@[reducible] def stUp : St := [.slot 2 (.one (.p 2 0)), .cell 2 0 .u, .cell 2 1 .u, .cell 2 2 .u, .cell 2 3 .u]
theorem vBB (p : ProgD) (c : List Int) (hg : goodA p.2.2.1 c) : vc cfB (par cfB) [] BB 0 (stR p c) (fun e st => match e with | .normal => Goal (∃ _ : Unit, ent st stUp ∧ (atR p.2.2.1 c).2.1 = false) | .ret => Goal (∃ _ : Unit, ent st (stC (atR p.2.2.1 c).1) ∧ (atR p.2.2.1 c).2.1 = true) | _ => False) := by
  repeat' (intro hzz; (try (rename Two => hq; cases hq)); (try dsimp only at hzz); (try simp only [resTy, argTy, eqD, inR, big, wantOf, zB] at hzz); (try (revert hzz; intro _)))
  all_goals try (rename Unit => hq; clear hq)
  all_goals try ((with_reducible refine Held.mk ?_); (with_reducible (first | refine Frz.mk ?_ | refine And.intro (Frz.mk ?_) ?_ | refine And.intro ?_ (Frz.mk ?_))); repeat' first | exact True.intro | (change _ = _; with_reducible rfl) | refine And.intro ?_ ?_ | (with_reducible refine Frz.mk ?_))
  all_goals try (refine Held.mk ?_; (try dsimp only at *); (try simp only [resTy, argTy, eqD, inR, big, wantOf, zB] at *))
  · exact hg
  · rename_i h
    refine GHeld.mk ?_
    refine Exists.intro () ?_
    refine And.intro (Leaf.mk ?_) ?_
    · repeat' first | exact True.intro | refine And.intro ?_ ?_
      all_goals try ((change _ = _ <;> try dsimp only) <;> try with_reducible rfl)
      all_goals try omega
      all_goals (rfl)
    exact h
  · rename_i h
    refine GHeld.mk ?_
    refine Exists.intro () ?_
    refine And.intro (Leaf.mk ?_) ?_
    · repeat' first | exact True.intro | refine And.intro ?_ ?_
      all_goals try ((change _ = _ <;> try dsimp only) <;> try with_reducible rfl)
      all_goals try omega
      all_goals (rfl)
    exact h
theorem rel_raw {E : Env} {nt : Nat} {st : St} {a : Act} {w : World} {t : Nat} {s : SV} (hR : RelS E nt st a w) (h : Fact.slot t s ∈ st) (ht : t < 1000000) : ∃ η, (∀ f ∈ st, Fact.holds E η a w f) ∧ holdsV (vw E η w) η s (a.tmps.getD t undef) := by
  obtain ⟨η, g, H⟩ := hR
  have h1 := H _ h
  simp only [Fact.holds] at h1
  rw [sval_lt ht] at h1
  exact ⟨η, H, h1⟩
structure RawB (M : Nat → Prop) (w : World) (p : ProgD) (b1 b2 : Nat) (cur1 : Array Value) (e1 : Nat) (f1 : Nat × Nat) (cur2 : Array Value) (V : View) : Prop where
  h1 : w.heap[b1]? = some (.cells cur1 e1 f1)
  h2 : ∃ e2, w.heap[b2]? = some (.cells cur2 e2 (0, 0))
  v1 : ¬ M b1
  n12 : b1 ≠ b2
  z1 : 3 ≤ cur1.size
  rep : Rep V ProgT p (cur1.toList.take 3)
  hV : ∀ b c, V b c → ¬ M b ∧ b ≠ b2 ∧ ∃ el f, w.heap[b]? = some (.cells c el f)
  one : ∀ j, j < 4 → ∃ v, cur2[j]? = some v ∧ v.oneCell' = true
theorem raw_b {M : Nat → Prop} {bs : List Nat} {w0 w : World} {a : Act} {p : ProgD} {st : St} (hR : RelS (EH M bs w0 true) 23 (st ++ stB0 p) a w) : ∃ b1 b2 cur1 e1 f1 cur2 V, RawB M w p b1 b2 cur1 e1 f1 cur2 V ∧ a.tmps.getD 1 undef = .pointer (some ⟨b1, 0, none⟩) ∧ a.tmps.getD 2 undef = .pointer (some ⟨b2, 0, none⟩) ∧ w0.heap.size ≤ b2 := by
  obtain ⟨η, g, H⟩ := hR
  have m : ∀ f, f ∈ stB0 p → f ∈ st ++ stB0 p := fun f h => List.mem_append.2 (.inr h)
  have s1 := H (.slot 1 (.one (.p 1 0))) (m _ (by simp))
  have s2 := H (.slot 2 (.one (.p 2 0))) (m _ (by simp))
  have k10 := H (.cell 1 0 (.d I64 p.1)) (m _ (by simp))
  have k11 := H (.cell 1 1 (.d I64 p.2.1)) (m _ (by simp))
  have k12 := H (.cell 1 2 (.d (.sl BoundT) p.2.2.1)) (m _ (by simp))
  have k20 := H (.cell 2 0 (.v (.slice none 0 0))) (m _ (by simp))
  have k21 := H (.cell 2 1 (.d I64 0)) (m _ (by simp))
  have k22 := H (.cell 2 2 (.v (.slice none 0 0))) (m _ (by simp))
  have k23 := H (.cell 2 3 (.d I64 0)) (m _ (by simp))
  simp only [Fact.holds, holdsV, holds1] at s1 s2 k10 k11 k12 k20 k21 k22 k23
  rw [sval_lt (by decide)] at s1 s2
  obtain ⟨b1, c1, y1, s1⟩ := s1
  obtain ⟨b2, c2, y2, s2⟩ := s2
  obtain ⟨q1, q2, cur1, e1, v10, l1, q3, h1, g10, o10, r10⟩ := k10
  rw [y1] at q3; cases q3
  obtain ⟨q1, q2, cur1', e1', v11, _, q3, h1', g11, o11, r11⟩ := k11
  rw [y1] at q3; cases q3
  rw [h1] at h1'; cases h1'
  obtain ⟨q1, q2, cur1', e1', v12, _, q3, h1', g12, o12, r12⟩ := k12
  rw [y1] at q3; cases q3
  rw [h1] at h1'; cases h1'
  obtain ⟨q1, q2, cur2, e2, v20, l2, q3, h2, g20, o20, _⟩ := k20
  rw [y2] at q3; cases q3
  obtain ⟨q1, q2, cur2', e2', v21, _, q3, h2', g21, o21, _⟩ := k21
  rw [y2] at q3; cases q3
  rw [h2] at h2'; cases h2'
  obtain ⟨q1, q2, cur2', e2', v22, _, q3, h2', g22, o22, _⟩ := k22
  rw [y2] at q3; cases q3
  rw [h2] at h2'; cases h2'
  obtain ⟨q1, q2, cur2', e2', v23, _, q3, h2', g23, o23, _⟩ := k23
  rw [y2] at q3; cases q3
  rw [h2] at h2'; cases h2'
  have hlow : ∀ b, (EH M bs w0 true).low b → w0.heap.size ≤ b := fun b h => h.elim id (fun h => h.elim)
  have hne : b1 ≠ b2 := fun e => by
    subst e
    have := g.inj _ _ _ _ _ y1 y2
    cases this
  have hM : ∀ b, M b → ¬ w0.heap.size ≤ b := fun b hb h => g.old b hb (.inl h)
  have hsz : 3 ≤ cur1.size := by
    have := (Array.getElem?_eq_some_iff.1 g12).1; omega
  have e10 : v10 = .int .i64 p.1 := v_int r10
  have e11 : v11 = .int .i64 p.2.1 := v_int r11
  refine ⟨b1, b2, cur1, e1, (0, 0), cur2, vw (EH M bs w0 true) η w, ⟨h1, ⟨e2, h2⟩, fun h => hM b1 h (hlow b1 l1), hne, hsz, ?_, ?_, ?_⟩, s1, s2, hlow b2 l2⟩
  · obtain ⟨l, hl, ⟨hf, _⟩ | ⟨_, hv⟩⟩ := r12
    · cases hf
    subst hv
    have ht : cur1.toList.take 3 = [v10, v11, v12] := by
      have hl3 : (cur1.toList.take 3).length = 3 := by rw [List.length_take]; simp; omega
      obtain ⟨x, y, z, h3⟩ := len3 hl3
      have f : ∀ j, j < 3 → (cur1.toList.take 3)[j]? = cur1[j]? := fun j hj => by simp [List.getElem?_take, hj]
      have f0 := f 0 (by decide); have f1 := f 1 (by decide); have f2 := f 2 (by decide)
      rw [h3, g10] at f0; rw [h3, g11] at f1; rw [h3, g12] at f2
      simp at f0 f1 f2
      rw [h3, f0, f1, f2]
    rw [ht, e10, e11]
    exact ⟨[_], _, rfl, rfl, [_], _, rfl, rfl, [_], [], rfl, hl, rfl⟩
  · intro b c ⟨h3, h4, h5⟩
    exact ⟨fun h => h3 (.inl h), fun e => h4 2 c2 (by rw [e]; exact y2), h5⟩
  · intro j hj
    have : j = 0 ∨ j = 1 ∨ j = 2 ∨ j = 3 := by omega
    rcases this with rfl | rfl | rfl | rfl
    · exact ⟨_, g20, o20⟩
    · exact ⟨_, g21, o21⟩
    · exact ⟨_, g22, o22⟩
    · exact ⟨_, g23, o23⟩
@[reducible] noncomputable def ER (M : Nat → Prop) (b2 : Nat) (w : World) : Env := { P := Tryz.prog, M := M, mu := fun _ => False, w0 := w, OB := OB, x := { mw := fun b => b = b2, nd := true } }
theorem round_rel {M : Nat → Prop} {w : World} {p : ProgD} {b1 b2 : Nat} {cur1 : Array Value} {e1 : Nat} {f1 : Nat × Nat} {cur2 : Array Value} {V : View} (r : RawB M w p b1 b2 cur1 e1 f1 cur2 V) (hM : ∀ b, M b → b < w.heap.size) (hM2 : ¬ M b2) {a : Act} (hsz : a.tmps.size = 23) (hd : a.defers = []) (s1 : a.tmps.getD 1 undef = .pointer (some ⟨b1, 0, none⟩)) (s2 : a.tmps.getD 2 undef = .pointer (some ⟨b2, 0, none⟩))
    {c : List Int} {ls cap : Nat} {cur : Array Value} (s3 : a.tmps.getD 3 undef = .slice (some ⟨ls, 0, none⟩) c.length cap) (hls : w.heap[ls]? = some (.cells cur 3 (0, 0))) (hrow : rowI c cap cur) (hl2 : ls ≠ b2) (hlM : ¬ M ls) : RelS (ER M b2 w) 23 (stR p c) a w := by
  obtain ⟨e2, h2⟩ := r.h2
  refine ⟨fun k => if k = 2 then some (b2, 4) else none, {
    size := hsz, lim := by decide, defers := ⟨⟨[], hd, List.nodup_nil, fun _ h => by cases h⟩, fun _ h => by cases h⟩, os := rfl, tape := rfl, output := rfl, grow := Nat.le_refl _, keep := fun _ _ _ _ => rfl,
    own := fun k b n hk => ?_, dis := fun b hb => hb.elim, inj := fun k k' b n n' hk hk' => ?_, old := fun b hb h => ?_, obkeep := fun b i o _ h => h.elim, nd := fun _ => hd }, fun f hf => ?_⟩
  · split at hk
    · cases hk; exact ⟨lt_of_heap h2, .inl (.inr rfl)⟩
    · cases hk
  · split at hk
    · split at hk'
      · omega
      · cases hk'
    · cases hk
  · rcases h with h | h
    · exact absurd (hM b hb) (Nat.not_lt_of_le h)
    · have h : b = b2 := h
      subst h; exact hM2 hb
  · have hv : ∀ b c el f, ¬ M b → b ≠ b2 → w.heap[b]? = some (.cells c el f) → vw (ER M b2 w) (fun k => if k = 2 then some (b2, 4) else none) w b c := fun b c el f hm hn hb => ⟨fun h => h.elim hm (fun ⟨_, h⟩ => (by cases h)), (fun k n hk => by
      have hk : (if k = 2 then some (b2, 4) else none) = some (b, n) := hk
      split at hk
      · cases hk; exact hn rfl
      · cases hk), el, f, hb⟩
    have hcell : ∀ j, j < 4 → Fact.holds (ER M b2 w) (fun k => if k = 2 then some (b2, 4) else none) a w (.cell 2 j .u) := fun j hj => by
      obtain ⟨v, hv1, hv2⟩ := r.one j hj
      exact ⟨b2, 4, cur2, e2, v, .inr rfl, rfl, h2, hv1, hv2, trivial⟩
    simp only [stR, List.mem_cons, List.not_mem_nil, or_false] at hf
    rcases hf with rfl | rfl | rfl | rfl | rfl | rfl | rfl
    · simp only [Fact.holds, holdsV, holds1]; rw [sval_lt (by decide), s1]
      refine ⟨⟨b1, 0, none⟩, cur1, rfl, rfl, hv b1 cur1 e1 f1 r.v1 r.n12 r.h1, by show 0 + 3 ≤ cur1.size; have := r.z1; omega, ?_⟩
      show Rep _ ProgT p ((cur1.toList.drop 0).take 3)
      rw [List.drop_zero]
      exact Rep.mono (fun b c h => by obtain ⟨q1, q2, el, f, q3⟩ := r.hV b c h; exact hv b c el f q1 q2 q3) _ _ _ r.rep
    · simp only [Fact.holds, holdsV, holds1]; rw [sval_lt (by decide), s3]
      refine ⟨_, ⟨some ⟨ls, 0, none⟩, cap, rfl, hrow.2.1, hrow.2.2.1, (fun h => (by cases h)), fun ad had hne => ?_⟩, .inr ⟨rfl, rfl⟩⟩
      cases had
      have hin := rowI_in (V := vw (ER M b2 w) (fun k => if k = 2 then some (b2, 4) else none) w) hrow
      refine ⟨rfl, cur, hv ls cur 3 (0, 0) hlM hl2 hls, by show 0 + c.length * 1 ≤ cur.size; have h1 := hrow.1; have h2 := hrow.2.1; omega, fun i x hx => ?_⟩
      have := hin.2.2.2 i x hx
      show Rep _ I64 x ((cur.toList.drop (0 + i * 1)).take 1)
      rw [Nat.zero_add]; exact this
    · simp only [Fact.holds, holdsV, holds1]; rw [sval_lt (by decide), s2]
      exact ⟨b2, 4, rfl, rfl⟩
    · exact hcell 0 (by decide)
    · exact hcell 1 (by decide)
    · exact hcell 2 (by decide)
    · exact hcell 3 (by decide)
end Go.Eng.Ar

namespace Go.Eng.Ar
open Go.Eng Go.Proofs Go
set_option linter.all false
set_option maxRecDepth 100000
set_option maxHeartbeats 2000000
theorem pieceB {b : Code} {st0 target : St} {a : Act} {M : Nat → Prop} {bs : List Nat} {w0 w : World} {Q : Exit → Act → World → Prop} (hR : RelS (EH M bs w0 true) 23 st0 a w) (hd : dstOk 23 b = true) (hnr : noRange b = true)
    (hvc : vc cfB (par cfB) [] b 0 st0 (fun e st => match e with | .normal => Goal (∃ s : Unit, ent st target ∧ True) | .ret => False | _ => False))
    (hQ : ∀ a' w', RelS (EH M bs w0 true) 23 target a' w' → Q .normal a' w') : b.wpIn (Fw none) 0 Tryz.prog Q a w := by
  refine wpIn_mono (vc_sound cB_ok (par_sound mixed cB_ok) b 0 st0 _ a w (EH M bs w0 true) none rfl rfl (.inr hnr) hd hvc hR) ?_
  rintro e a' w' ⟨⟨xe, st', h1, h2, h3⟩, hag⟩
  subst h1
  cases xe with
  | normal =>
    obtain ⟨_, h4, h5⟩ := h2.out
    exact hQ a' w' (ent_sound h4 h3)
  | exit id => exact h2.elim
  | ret => exact h2.elim
theorem lpieceB {ops : Array Oper} {l : List Oper} {st0 target : St} {a : Act} {M : Nat → Prop} {bs : List Nat} {w0 w : World} {Q : Exit → Act → World → Prop} (hR : RelS (EH M bs w0 true) 23 st0 a w)
    (hsub : ∀ o ∈ l, o ∈ ops.toList) (hdst : ∀ o ∈ ops.toList, ∀ t, o.dst = some t → t < 23)
    (hvc : runOps cfB ops l st0 (fun st => Goal (∃ s : Unit, ent st target ∧ True)))
    (hQ : ∀ a' w', RelS (EH M bs w0 true) 23 target a' w' → Q .normal a' w') : wpListIn (Fw none) 0 Tryz.prog ops Q l a w := by
  refine list_mono ?_ l a w (runOps_sound (E := EH M bs w0 true) (c := cfB) (ro := none) (q := 0) cB_ok (ops := ops) (Q := fun e a' w' => e = .normal ∧ RelS (EH M bs w0 true) 23 target a' w') hdst l hsub st0 _ a w hvc hR ?_)
  · rintro e a' w' ⟨rfl, h1⟩
    exact hQ a' w' h1
  · intro st' a' w' h1 h2
    obtain ⟨_, h4, _⟩ := h1.out
    exact ⟨rfl, ent_sound h4 h2⟩
theorem vRet0 (x : CornD) : vc cfB (par cfB) [] .ret 0 (stC x) (fun e st => match e with | .ret | .normal => retVC cfB Tryz.f143.results.toList sBest.res (x, ()) st | _ => False) := by
  repeat' (intro hzz; (try (rename Two => hq; cases hq)); (try dsimp only at hzz); (try simp only [resTy, argTy, eqD, inR, big, wantOf, zB] at hzz); (try (revert hzz; intro _)))
  all_goals try (rename Unit => hq; clear hq)
  all_goals try ((with_reducible refine Held.mk ?_); (with_reducible (first | refine Frz.mk ?_ | refine And.intro (Frz.mk ?_) ?_ | refine And.intro ?_ (Frz.mk ?_))); repeat' first | exact True.intro | (change _ = _; with_reducible rfl) | refine And.intro ?_ ?_ | (with_reducible refine Frz.mk ?_))
  all_goals try (refine Held.mk ?_; (try dsimp only at *); (try simp only [resTy, argTy, eqD, inR, big, wantOf, zB] at *))
  all_goals first | exact ⟨rfl, rfl, rfl, rfl⟩ | trace_state
theorem vRet (x : CornD) : retVC cfB Tryz.f143.results.toList sBest.res (x, ()) (stC x) := vRet0 x
def CB (M : Nat → Prop) (b2 : Nat) (x : CornD) (w : World) : Prop :=
  ∃ cur el v0 v2, w.heap[b2]? = some (.cells cur el (0, 0)) ∧ cur[0]? = some v0 ∧ RepV (fun b c => ¬ M b ∧ b ≠ b2 ∧ ∃ el f, w.heap[b]? = some (.cells c el f)) (.sl I64) x.1 v0 ∧ cur[1]? = some (.int .i64 x.2.1) ∧
    cur[2]? = some v2 ∧ RepV (fun b c => ¬ M b ∧ b ≠ b2 ∧ ∃ el f, w.heap[b]? = some (.cells c el f)) (.sl I64) x.2.2.1 v2 ∧ cur[3]? = some (.int .i64 x.2.2.2.1)
theorem cb_of {M : Nat → Prop} {b2 : Nat} {w w' : World} {a : Act} {x : CornD} (hR : RelS (ER M b2 w) 23 (stC x) a w') (h2 : a.tmps.getD 2 undef = .pointer (some ⟨b2, 0, none⟩)) : CB M b2 x w' := by
  obtain ⟨η, g, H⟩ := hR
  have s2 := H (.slot 2 (.one (.p 2 0))) (by simp)
  have k0 := H (.cell 2 0 (.d (.sl I64) x.1)) (by simp)
  have k1 := H (.cell 2 1 (.d I64 x.2.1)) (by simp)
  have k2 := H (.cell 2 2 (.d (.sl I64) x.2.2.1)) (by simp)
  have k3 := H (.cell 2 3 (.d I64 x.2.2.2.1)) (by simp)
  simp only [Fact.holds, holdsV, holds1] at s2 k0 k1 k2 k3
  rw [sval_lt (by decide), h2] at s2
  obtain ⟨b, c, y, s2⟩ := s2
  have hb : b2 = b := by
    have := s2; simp at this; exact this
  subst hb
  obtain ⟨q1, q2, cur, el, v0, _, q3, h, g0, _, r0⟩ := k0
  rw [y] at q3; cases q3
  obtain ⟨q1, q2, cur', el', v1, _, q3, h', g1, _, r1⟩ := k1
  rw [y] at q3; cases q3
  rw [h] at h'; cases h'
  obtain ⟨q1, q2, cur', el', v2, _, q3, h', g2, _, r2⟩ := k2
  rw [y] at q3; cases q3
  rw [h] at h'; cases h'
  obtain ⟨q1, q2, cur', el', v3, _, q3, h', g3, _, r3⟩ := k3
  rw [y] at q3; cases q3
  rw [h] at h'; cases h'
  have hv : ∀ b' c', vw (ER M b2 w) η w' b' c' → ¬ M b' ∧ b' ≠ b2 ∧ ∃ el f, w'.heap[b']? = some (.cells c' el f) := fun b' c' ⟨h1, h2, h3⟩ => ⟨fun hm => h1 (.inl hm), fun e => h2 2 c (by rw [e]; exact y), h3⟩
  rw [v_int r1] at g1
  rw [v_int r3] at g3
  exact ⟨cur, el, v0, v2, h, g0, r0.mono hv, g1, g2, r2.mono hv, g3⟩
theorem cu_of {M : Nat → Prop} {b2 : Nat} {w w' : World} {a : Act} (hR : RelS (ER M b2 w) 23 stUp a w') (h2 : a.tmps.getD 2 undef = .pointer (some ⟨b2, 0, none⟩)) : ∃ cur el, w'.heap[b2]? = some (.cells cur el (0, 0)) ∧ ∀ j, j < 4 → ∃ v, cur[j]? = some v ∧ v.oneCell' = true := by
  obtain ⟨η, g, H⟩ := hR
  have s2 := H (.slot 2 (.one (.p 2 0))) (by simp)
  have k0 := H (.cell 2 0 .u) (by simp)
  have k1 := H (.cell 2 1 .u) (by simp)
  have k2 := H (.cell 2 2 .u) (by simp)
  have k3 := H (.cell 2 3 .u) (by simp)
  simp only [Fact.holds, holdsV, holds1] at s2 k0 k1 k2 k3
  rw [sval_lt (by decide), h2] at s2
  obtain ⟨b, c, y, s2⟩ := s2
  have hb : b2 = b := by
    have := s2; simp at this; exact this
  subst hb
  obtain ⟨q1, q2, cur, el, v0, _, q3, h, g0, r0, _⟩ := k0
  rw [y] at q3; cases q3
  obtain ⟨q1, q2, cur', el', v1, _, q3, h', g1, r1, _⟩ := k1
  rw [y] at q3; cases q3
  rw [h] at h'; cases h'
  obtain ⟨q1, q2, cur', el', v2, _, q3, h', g2, r2, _⟩ := k2
  rw [y] at q3; cases q3
  rw [h] at h'; cases h'
  obtain ⟨q1, q2, cur', el', v3, _, q3, h', g3, r3, _⟩ := k3
  rw [y] at q3; cases q3
  rw [h] at h'; cases h'
  refine ⟨cur, el, h, fun j hj => ?_⟩
  have : j = 0 ∨ j = 1 ∨ j = 2 ∨ j = 3 := by omega
  rcases this with rfl | rfl | rfl | rfl
  · exact ⟨_, g0, r0⟩
  · exact ⟨_, g1, r1⟩
  · exact ⟨_, g2, r2⟩
  · exact ⟨_, g3, r3⟩
theorem cb_put {M : Nat → Prop} {b2 l : Nat} {x : CornD} {w : World} {o : Obj} {r : Loop} (h : CB M b2 x w) (hl : w.heap[l]? = some (.loop r)) : CB M b2 x (w.putObj l o) := by
  obtain ⟨cur, el, v0, v2, h1, h2, h3, h4, h5, h6, h7⟩ := h
  have hne : ∀ b c el f, w.heap[b]? = some (.cells c el f) → b ≠ l := fun b c el f hb e => by subst e; rw [hl] at hb; cases hb
  have hv : ∀ b c, (¬ M b ∧ b ≠ b2 ∧ ∃ el f, w.heap[b]? = some (.cells c el f)) → ¬ M b ∧ b ≠ b2 ∧ ∃ el f, (w.putObj l o).heap[b]? = some (.cells c el f) := fun b c ⟨q1, q2, el, f, q3⟩ => ⟨q1, q2, el, f, (World.putObj_heap_other (hne b c el f q3)).trans q3⟩
  exact ⟨cur, el, v0, v2, (World.putObj_heap_other (hne b2 cur el _ h1)).trans h1, h2, h3.mono hv, h4, h5, h6.mono hv, h7⟩
theorem final_rel {M : Nat → Prop} {bs : List Nat} {w0 w : World} {b2 D : Nat} {x : CornD} {a : Act} (hM : ∀ b, M b → b < w0.heap.size) (hbs : ∀ b, b ∈ bs → b < w0.heap.size) (hobk : ∀ b i o, b < w0.heap.size → b ∈ bs → w0.heap[b]? = some o → OB i o → ∃ o', w.heap[b]? = some o' ∧ OB i o') (hsz : a.tmps.size = 23) (hd : a.defers = [mkD D]) (s2 : a.tmps.getD 2 undef = .pointer (some ⟨b2, 0, none⟩)) (hb2 : w0.heap.size ≤ b2) (hD : w0.heap.size ≤ D) (hDo : w.heap[D]? = some (.deferred (some [])))
    (hos : w.os = w0.os) (htape : w.tape = w0.tape) (hout : w.output = w0.output) (hsize : w0.heap.size ≤ w.heap.size) (hkeep : ∀ b, b < w0.heap.size → b ∉ bs → w.heap[b]? = w0.heap[b]?) (hc : CB M b2 x w) : RelS (EH M bs w0 false) 23 (stC x) a w := by
  obtain ⟨cur, el, v0, v2, h1, h2, h3, h4, h5, h6, h7⟩ := hc
  have hDb : D ≠ b2 := fun e => by subst e; rw [h1] at hDo; cases hDo
  refine ⟨fun k => if k = 2 then some (b2, 4) else none, {
    size := hsz, lim := by decide, defers := ⟨⟨[D], hd, by simp, fun D' hD' => ?_⟩, fun _ h => by cases h⟩, os := hos, tape := htape, output := hout, grow := hsize, keep := fun b hb hm _ => hkeep b hb hm,
    own := fun k b n hk => ?_, dis := fun b hb h => ?_, inj := fun k k' b n n' hk hk' => ?_, old := fun b hb h => ?_, obkeep := fun b i o hb hm h1 h2 => hobk b i o hb hm h1 h2, nd := fun h => by cases h }, fun f hf => ?_⟩
  · have e : D' = D := List.mem_singleton.1 hD'
    subst e
    refine ⟨hD, hDo, fun k c hk => ?_⟩
    have hk : (if k = 2 then some (b2, 4) else none) = some (D', c) := hk
    split at hk
    · cases hk; exact hDb rfl
    · cases hk
  · have hk : (if k = 2 then some (b2, 4) else none) = some (b, n) := hk
    split at hk
    · cases hk; exact ⟨lt_of_heap h1, .inl (.inl hb2)⟩
    · cases hk
  · exact h.elim (fun h => absurd (hbs b hb) (Nat.not_lt_of_le h)) (fun h => h)
  · have hk : (if k = 2 then some (b2, 4) else none) = some (b, n) := hk
    have hk' : (if k' = 2 then some (b2, 4) else none) = some (b, n') := hk'
    split at hk
    · split at hk'
      · omega
      · cases hk'
    · cases hk
  · exact h.elim (fun h => absurd (hM b hb) (Nat.not_lt_of_le h)) (fun h => h)
  · have hv : ∀ b c, (¬ M b ∧ b ≠ b2 ∧ ∃ el f, w.heap[b]? = some (.cells c el f)) → vw (EH M bs w0 false) (fun k => if k = 2 then some (b2, 4) else none) w b c := fun b c ⟨q1, q2, q3⟩ => ⟨fun h => h.elim q1 (fun ⟨_, h⟩ => (by cases h)), (fun k n hk => by
      have hk : (if k = 2 then some (b2, 4) else none) = some (b, n) := hk
      split at hk
      · cases hk; exact q2 rfl
      · cases hk), q3⟩
    have hone : ∀ (t : Ty) (y : t.Den) (v : Value) (V : View), t.agg = false → RepV V t y v → v.oneCell' = true := fun t y v V ht ⟨l, q1, q2⟩ => by
      rcases q2 with ⟨h, _⟩ | ⟨_, h⟩
      · rw [ht] at h; cases h
      · subst h; exact Rep.oneCell _ _ _ q1 v (by simp)
    simp only [stC, List.mem_cons, List.not_mem_nil, or_false] at hf
    rcases hf with rfl | rfl | rfl | rfl | rfl
    · simp only [Fact.holds, holdsV, holds1]; rw [sval_lt (by decide), s2]
      exact ⟨b2, 4, rfl, rfl⟩
    · exact ⟨b2, 4, cur, el, v0, .inl hb2, rfl, h1, h2, hone _ _ _ _ rfl h3, h3.mono hv⟩
    · exact ⟨b2, 4, cur, el, _, .inl hb2, rfl, h1, h4, rfl, RepV.mk1 rfl rfl⟩
    · exact ⟨b2, 4, cur, el, v2, .inl hb2, rfl, h1, h5, hone _ _ _ _ rfl h6, h6.mono hv⟩
    · exact ⟨b2, 4, cur, el, _, .inl hb2, rfl, h1, h7, rfl, RepV.mk1 rfl rfl⟩
end Go.Eng.Ar

namespace Go.Eng.Ar
open Go.Eng Go.Proofs Go
set_option linter.all false
set_option maxRecDepth 100000
set_option maxHeartbeats 2000000
structure JB (w1 : World) (base l b2 : Nat) (o : Obj) (W : World) : Prop where
  os : W.os = w1.os
  tape : W.tape = w1.tape
  output : W.output = w1.output
  size : base ≤ W.heap.size
  keep : ∀ b, b < base → b ≠ l → b ≠ b2 → W.heap[b]? = w1.heap[b]?
  loop : W.heap[l]? = some o
  two : ∃ cur el, W.heap[b2]? = some (.cells cur el (0, 0)) ∧ ∀ j, j < 4 → ∃ v, cur[j]? = some v ∧ v.oneCell' = true
structure JX (M : Nat → Prop) (w1 : World) (base l b2 : Nat) (o : Obj) (x : CornD) (W : World) : Prop where
  os : W.os = w1.os
  tape : W.tape = w1.tape
  output : W.output = w1.output
  size : base ≤ W.heap.size
  keep : ∀ b, b < base → b ≠ l → b ≠ b2 → W.heap[b]? = w1.heap[b]?
  loop : W.heap[l]? = some o
  cb : CB M b2 x W
theorem yields_b {M : Nat → Prop} {w0s : Nat} {w1 : World} {p : ProgD} {b1 b2 : Nat} {cur1 : Array Value} {e1 : Nat} {f1 : Nat × Nat} {cur2 : Array Value} {V : View} (rb : RawB M w1 p b1 b2 cur1 e1 f1 cur2 V) (hM : ∀ b, M b → b < w0s) (hb2 : w0s ≤ b2) {base l D : Nat} (hl : l < base) (hlb : l ≠ b1 ∧ l ≠ b2) (hw0 : w0s ≤ base) (hbase : base = w1.heap.size)
    {fn : FuncId} {a3 : Act} (hsz : a3.tmps.size = 23) (s1 : a3.tmps.getD 1 undef = .pointer (some ⟨b1, 0, none⟩)) (s2 : a3.tmps.getD 2 undef = .pointer (some ⟨b2, 0, none⟩)) (rc : LoopState → Option Code → Loop) (hrc : rc = fun st pe => { state := st, pending := pe, fn, tmps := a3.tmps, params := #[13], assign := B2, body := BB, defers := D })
    (hl1 : ∃ o, w1.heap[l]? = some (.loop o)) {x : CornD}
    {c : List Int} {rest : List (List Int)} {W : World} {ls cap : Nat} {cur : Array Value} (hJ : JB w1 base l b2 (.loop (rc .ready none)) W) (hx : bestL p.2.2.1 (c :: rest) = some x) (hg : goodA p.2.2.1 c) (hls : base ≤ ls) (hcur : W.heap[ls]? = some (.cells cur 3 (0, 0))) (hrow : rowI c cap cur) :
    YieldAt (Fw none) 0 Tryz.prog l #[.slice (some ⟨ls, 0, none⟩) c.length cap] W fun e w' => (∀ b, base ≤ b → b < W.heap.size → w'.heap[b]? = W.heap[b]?) ∧ ((e = .returned (.bool true) ∧ (JB w1 base l b2 (.loop (rc .ready none)) w' ∧ bestL p.2.2.1 rest = some x)) ∨ (e = .returned (.bool false) ∧ JX M w1 base l b2 (.loop (rc .done (some .ret))) x w')) := by
  obtain ⟨sl, hsl⟩ : ∃ sl, sl = Value.slice (some ⟨ls, 0, none⟩) c.length cap := ⟨_, rfl⟩
  have hloop := hJ.loop
  have hy := run_yield (P := Tryz.prog) (args := #[sl]) hloop (by rw [hrc]; rfl)
  have htm : ((rc .ready none).params.zip #[sl]).foldl (fun tmps (t, a) => tmps.setIfInBounds t a) (rc .ready none).tmps = a3.tmps.setIfInBounds 13 sl := by rw [hrc]; simp
  rw [htm] at hy
  rw [← hsl]
  have e1' : (rc .ready none).fn = fn := by rw [hrc]
  have e2' : (rc .ready none).assign = B2 := by rw [hrc]
  have e3' : (rc .ready none).body = BB := by rw [hrc]
  rw [e1', e2', e3'] at hy
  refine ⟨fn, _, B2, BB, hy, roundIn_of_wpIn trivial ?_⟩
  obtain ⟨a4, ha4⟩ : ∃ a4 : Act, a4 = { tmps := a3.tmps.setIfInBounds 13 sl, defers := [] } := ⟨_, rfl⟩
  rw [← ha4]
  have hap : a4 = ({ tmps := a3.tmps, defers := [] } : Act).put (some 13) sl := ha4
  have z4 : a4.tmps.size = 23 := by rw [hap, size_put]; exact hsz
  have g13 : a4.tmps.getD 13 undef = sl := by rw [hap]; exact getD_put_eq (by show 13 < a3.tmps.size; omega)
  have g1 : a4.tmps.getD 1 undef = .pointer (some ⟨b1, 0, none⟩) := by rw [hap]; exact (getD_put_ne (by decide)).trans s1
  have g2 : a4.tmps.getD 2 undef = .pointer (some ⟨b2, 0, none⟩) := by rw [hap]; exact (getD_put_ne (by decide)).trans s2
  have d4 : a4.defers = [] := by rw [ha4]
  clear ha4 hap
  refine wpIn_region_list ?_
  have hstep : ∀ {o : Oper} {ops : Array Oper} {rest : List Oper} {Q : Exit → Act → World → Prop}, o.guard = none → o.wpIn (Fw (some l)) 0 Tryz.prog a4 W (wpListIn (Fw (some l)) 0 Tryz.prog ops Q rest) Q → wpListIn (Fw (some l)) 0 Tryz.prog ops Q (o :: rest) a4 W := by
    intro o ops rest Q hg h
    have hw : Region.wanted o (yielded ops a4.tmps) = true := by simp [Region.wanted, hg]
    simp only [wpListIn, hw, if_true]
    exact h
  refine hstep rfl (wpIn_of_run (r := .ok (.value sl) W) (by intro d h; cases h) (asR a4 W _ (.tmp 13) rfl g13) ?_)
  obtain ⟨a5, ha5⟩ : ∃ a5, a5 = a4.put (some 3) sl := ⟨_, rfl⟩
  have z5 : a5.tmps.size = 23 := by rw [ha5, size_put]; exact z4
  have d5 : a5.defers = [] := by rw [ha5, defers_put]; exact d4
  have k1 : a5.tmps.getD 1 undef = .pointer (some ⟨b1, 0, none⟩) := by rw [ha5]; exact (getD_put_ne (by decide)).trans g1
  have k2 : a5.tmps.getD 2 undef = .pointer (some ⟨b2, 0, none⟩) := by rw [ha5]; exact (getD_put_ne (by decide)).trans g2
  have k3 : a5.tmps.getD 3 undef = sl := by rw [ha5]; exact getD_put_eq (by rw [z4]; decide)
  refine (show Exit.then (fun a₁ w₁ => ∃ w₂, (Instr.beginRound l).run Tryz.prog w₁ = .ok () w₂ ∧ BB.wpIn (Fw (some l)) 0 Tryz.prog (roundPost Tryz.prog l _) a₁ w₂) (fun _ _ _ => False) .normal (a4.put (some 3) sl) W from ?_)
  rw [← ha5]
  refine ⟨_, run_beginRound hloop (by rw [hrc]), ?_⟩
  obtain ⟨W2, hW2⟩ : ∃ W2, W2 = W.putObj l (.loop { rc .ready none with state := .busy }) := ⟨_, rfl⟩
  rw [← hW2]
  have s2z : W2.heap.size = W.heap.size := by rw [hW2]; exact World.putObj_size
  have o2 : ∀ b, b ≠ l → W2.heap[b]? = W.heap[b]? := fun b h => by rw [hW2]; exact World.putObj_heap_other h
  have l2 : W2.heap[l]? = some (.loop { rc .ready none with state := .busy }) := by rw [hW2]; exact World.putObj_heap_same (lt_of_heap hloop)
  have old : ∀ b, b < base → b ≠ l → b ≠ b2 → W2.heap[b]? = w1.heap[b]? := fun b h1 h2 h3 => (o2 b h2).trans (hJ.keep b h1 h2 h3)
  have notl : ∀ b c el f, w1.heap[b]? = some (.cells c el f) → b ≠ l := fun b c el f h e => by
    obtain ⟨o, ho⟩ := hl1
    subst e; rw [ho] at h; cases h
  obtain ⟨e2, hb2h⟩ := rb.h2
  have b2b : b2 < base := by rw [hbase]; exact lt_of_heap hb2h
  obtain ⟨curU, elU, hU, hU4⟩ := hJ.two
  have rb2 : RawB M W2 p b1 b2 cur1 e1 f1 curU V := ⟨(old b1 (by rw [hbase]; exact lt_of_heap rb.h1) hlb.1.symm rb.n12).trans rb.h1, ⟨elU, (o2 b2 hlb.2.symm).trans hU⟩, rb.v1, rb.n12, rb.z1, rb.rep, fun b c h => by
    obtain ⟨q1, q2, el, f, q3⟩ := rb.hV b c h
    exact ⟨q1, q2, el, f, (old b (by rw [hbase]; exact lt_of_heap q3) (notl b c el f q3) q2).trans q3⟩, hU4⟩
  have hrel := round_rel rb2 (fun b hb => by have := hM b hb; have := hJ.size; omega) (fun h => by have := hM b2 h; omega) z5 d5 k1 k2 (c := c) (ls := ls) (cap := cap) (cur := cur) (k3.trans hsl) ((o2 ls (by omega)).trans hcur) hrow (by omega) (fun h => by have := hM ls h; omega)
  refine wpIn_mono (vc_sound cB_ok (par_sound mixed cB_ok) BB 0 (stR p c) _ a5 W2 (ER M b2 W2) (some l) rfl rfl (.inr (by kernel_rfl)) (by kernel_rfl) (vBB p c hg) hrel) ?_
  rintro e a6 W3 ⟨⟨xe, st', q1, q2, q3⟩, hag⟩
  subst q1
  have hkeep : ∀ b, b < W2.heap.size → b ≠ b2 → W3.heap[b]? = W2.heap[b]? := fun b h1 h2 => by
    obtain ⟨η, g, _⟩ := q3
    exact g.keep b h1 (fun h => h) h2
  have hs3 : W2.heap.size ≤ W3.heap.size := by obtain ⟨η, g, _⟩ := q3; exact g.grow
  have hst : W3.os = W2.os ∧ W3.tape = W2.tape ∧ W3.output = W2.output := by obtain ⟨η, g, _⟩ := q3; exact ⟨g.os, g.tape, g.output⟩
  have hw2 : W2.os = W.os ∧ W2.tape = W.tape ∧ W2.output = W.output := by rw [hW2]; exact ⟨rfl, rfl, rfl⟩
  have l3 : W3.heap[l]? = some (.loop { rc .ready none with state := .busy }) := (hkeep l (by rw [s2z]; have := hJ.size; omega) hlb.2).trans l2
  have hJs := hJ.size
  have up : ∀ (o : Obj) b, base ≤ b → b < W.heap.size → (W3.putObj l o).heap[b]? = W.heap[b]? := fun o b h1 h2 => (World.putObj_heap_other (by omega)).trans ((hkeep b (by omega) (by omega)).trans (o2 b (by omega)))
  cases xe with
  | normal =>
    obtain ⟨_, hent, hat⟩ := q2.out
    obtain ⟨curN, elN, hN, hN4⟩ := cu_of (ent_sound hent q3) ((hag (by intro h; cases h) 2 (by decide)).trans k2)
    refine ⟨_, _, run_endRound none l3, up _, .inl ⟨rfl, ?_, ?_⟩⟩
    · have e4 : (Obj.loop { ({ rc .ready none with state := .busy } : Loop) with state := if (none : Option Code).isNone = true then .ready else .done, pending := none }) = .loop (rc .ready none) := by rw [hrc]; rfl
      refine ⟨hst.1.trans (hw2.1.trans hJ.os), hst.2.1.trans (hw2.2.1.trans hJ.tape), hst.2.2.trans (hw2.2.2.trans hJ.output), ?_, fun b h1 h2 h3 => ?_, ?_, curN, elN, (World.putObj_heap_other hlb.2.symm).trans hN, hN4⟩
      · rw [World.putObj_size]; omega
      · exact (World.putObj_heap_other h2).trans ((hkeep b (by omega) h3).trans (old b h1 h2 h3))
      · refine (World.putObj_heap_same (lt_of_heap l3)).trans ?_
        exact congrArg some e4
    · simp only [bestL, hat] at hx
      simpa using hx
  | exit id => exact q2.elim
  | ret =>
    obtain ⟨_, hent, hat⟩ := q2.out
    have hcb := cb_of (ent_sound hent q3) ((hag (by intro h; cases h) 2 (by decide)).trans k2)
    refine ⟨_, _, run_endRound (some .ret) l3, up _, .inr ⟨rfl, ?_⟩⟩
    have hx : (atR p.2.2.1 c).1 = x := by
      simp only [bestL, hat, if_true] at hx
      exact Option.some.inj hx
    rw [hx] at hcb
    have e4 : (Obj.loop { ({ rc .ready none with state := .busy } : Loop) with state := if (some Code.ret).isNone = true then .ready else .done, pending := some .ret }) = .loop (rc .done (some .ret)) := by rw [hrc]; rfl
    refine ⟨hst.1.trans (hw2.1.trans hJ.os), hst.2.1.trans (hw2.2.1.trans hJ.tape), hst.2.2.trans (hw2.2.2.trans hJ.output), ?_, fun b h1 h2 h3 => ?_, ?_, ?_⟩
    · rw [World.putObj_size]; omega
    · exact (World.putObj_heap_other h2).trans ((hkeep b (by omega) h3).trans (old b h1 h2 h3))
    · exact (World.putObj_heap_same (lt_of_heap l3)).trans (congrArg some e4)
    · exact cb_put hcb l3
end Go.Eng.Ar

namespace Go.Eng.Ar
open Go.Eng Go.Proofs Go
set_option linter.all false
set_option maxRecDepth 100000
set_option maxHeartbeats 2000000
theorem enters178 : Enters Tryz.prog 178 := ⟨Tryz.f178, Tryz.func178, by kernel_rfl, by kernel_rfl⟩
theorem enters163 : Enters Tryz.prog 163 := ⟨Tryz.f163, Tryz.func163, by kernel_rfl, by kernel_rfl⟩
theorem hBest : Ok 143 sBest := by
  refine ⟨fn_hand (c := cfB) cB_ok Tryz.func143 body143 rfl (by decide) (by decide) (by decide) rfl ?_, Tryz.f143, Tryz.func143, by kernel_rfl, by kernel_rfl⟩
  rintro ⟨(p : ProgD), _⟩ ⟨n, (hn : p.2.1 = (n : Int)), hn3, (hsome : (bestR p.2.2.1 n).isSome = true), (hbl : List.length (α := BndD) p.2.2.1 ≤ 100), (hgood : ∀ c ∈ combs (n + 1) 0 (List.length (α := BndD) p.2.2.1), goodA p.2.2.1 c)⟩ M bs w0 a hd hR
  obtain ⟨x, hx⟩ := Option.isSome_iff_exists.1 hsome
  have hfin : sBest.f (p, ()) = (x, ()) := by
    show ((bestR p.2.2.1 p.2.1.toNat).getD cornZ, ()) = (x, ())
    rw [hn, show ((n : Int)).toNat = n from rfl, hx]; rfl
  have hR0 := hR
  have hMlt : ∀ b, M b → b < w0.heap.size := fun b hb => by
    obtain ⟨η, g, _⟩ := hR0
    exact Nat.lt_of_not_le fun h => g.old b hb (.inl h)
  have hbslt : ∀ b, b ∈ bs → b < w0.heap.size := fun b hb => by
    obtain ⟨η, g, _⟩ := hR0
    exact Nat.lt_of_not_le fun h => g.dis b hb (.inl h)
  have hR : RelS (EH M bs w0 true) 23 [.slot 0 (.one (.d ProgT p))] a w0 := nd_on hR hd
  have evt : ∀ (a : Act) (t : Nat), a.eval (.tmp t) = a.tmps.getD t undef := fun a t => rfl
  refine wpIn_seq (pieceB hR (by kernel_rfl) (by kernel_rfl) (vB0 p) fun a1 w1 hR1 => ?_)
  refine wpIn_seq (wpIn_seq (wpIn_region_list ?_))
  change wpListIn (Fw none) 0 Tryz.prog _ _ (opsB1.take 6 ++ opsB1.drop 6) a1 w1
  refine list_app _ _ _ (lpieceB hR1 ?_ ?_ (vB1 p n hn hn3) fun a2 w2 hR2 => ?_)
  · exact fun o ho => by
      change o ∈ opsB1
      exact List.mem_of_mem_take ho
  · intro o ho t ht
    change o ∈ opsB1 at ho
    have hall : (opsB1.all fun o => match o.dst with | some t => Nat.blt t 23 | none => true) = true := by kernel_rfl
    have := List.all_eq_true.1 hall o ho
    rw [ht] at this
    exact Nat.le_of_ble_eq_true this
  have hR2' : RelS (EH M bs w0 true) 23 ([sI 8 ((n + 1 : Nat) : Int), sI 11 ((List.length (α := BndD) p.2.2.1 : Nat) : Int)] ++ stB0 p) a2 w2 := hR2
  obtain ⟨b1, b2, cur1, e1, f1, cur2, V, rb, s1, s2, hb2⟩ := raw_b hR2'
  have z2 : a2.tmps.size = 23 := by obtain ⟨η, g, _⟩ := hR2; exact g.size
  have d2 : a2.defers = [] := (nd_off hR2).2
  have g8 : a2.tmps.getD 8 undef = .int .i64 ((n + 1 : Nat) : Int) := by
    obtain ⟨η, H, h⟩ := rel_raw hR2 (t := 8) (s := .one (.d I64 ((n + 1 : Nat) : Int))) (by simp) (by decide)
    exact v_int h
  have g11 : a2.tmps.getD 11 undef = .int .i64 ((List.length (α := BndD) p.2.2.1 : Nat) : Int) := by
    obtain ⟨η, H, h⟩ := rel_raw hR2 (t := 11) (s := .one (.d I64 ((List.length (α := BndD) p.2.2.1 : Nat) : Int))) (by simp) (by decide)
    exact v_int h
  obtain ⟨gos, gtape, gout, ggrow, gkeep, gobk⟩ : w2.os = w0.os ∧ w2.tape = w0.tape ∧ w2.output = w0.output ∧ w0.heap.size ≤ w2.heap.size ∧ (∀ b, b < w0.heap.size → b ∉ bs → w2.heap[b]? = w0.heap[b]?) ∧ (∀ b i o, b < w0.heap.size → b ∈ bs → w0.heap[b]? = some o → OB i o → ∃ o', w2.heap[b]? = some o' ∧ OB i o') := by
    obtain ⟨η, g, _⟩ := hR2
    exact ⟨g.os, g.tape, g.output, g.grow, fun b h1 h2 => g.keep b h1 h2 (fun h => h), fun b i o h1 h2 h3 h4 => g.obkeep b i o h1 h2 h3 h4⟩
  -- the call of chosen
  refine list_step rfl (op_enter (f := 163) (args := #[.int .i64 ((n + 1 : Nat) : Int), .int .i64 ((List.length (α := BndD) p.2.2.1 : Nat) : Int)]) (by intro d h; cases h) ?_ ?_)
  · obtain ⟨fn, e1, e2, e3⟩ := enters163
    have e2' : ¬ fn.name = "runtime.NumGoroutine" := by simpa using e2
    have e3' : ¬ fn.body = none := by intro hn; rw [hn] at e3; cases e3
    have evf : ∀ (a : Act) (t : Nat), a.eval (.func t) = .func (.func t) #[] #[] := fun a t => rfl
    simp [execOp, resolve, Deferred.ofValue, evt, evf, g8, g11, invoke, callFunc, e1, e2', e3']
  refine (chosen_calls _ _ w2).mono ?_
  rintro e w3 ⟨rfl, hw3⟩
  refine ⟨_, rfl, list_nil ?_⟩
  obtain ⟨bc, hbc⟩ : ∃ bc, bc = w2.heap.size := ⟨_, rfl⟩
  rw [← hbc]
  obtain ⟨cv, hcv⟩ : ∃ cv : Array Value, cv = #[Value.pointer (some ⟨bc, 0, none⟩), Value.pointer (some ⟨bc + 1, 0, none⟩)] := ⟨_, rfl⟩
  rw [← hcv]
  obtain ⟨a3, ha3⟩ : ∃ a3, a3 = a2.put (some 12) (.func (.func 178) #[] cv) := ⟨_, rfl⟩
  have z3 : a3.tmps.size = 23 := by rw [ha3, size_put]; exact z2
  have d3 : a3.defers = [] := by rw [ha3, defers_put]; exact d2
  have t1 : a3.tmps.getD 1 undef = .pointer (some ⟨b1, 0, none⟩) := by rw [ha3]; exact (getD_put_ne (by decide)).trans s1
  have t2 : a3.tmps.getD 2 undef = .pointer (some ⟨b2, 0, none⟩) := by rw [ha3]; exact (getD_put_ne (by decide)).trans s2
  have t12 : a3.tmps.getD 12 undef = .func (.func 178) #[] cv := by rw [ha3]; exact getD_put_eq (by rw [z2]; decide)
  change Code.wpIn (Fw none) 0 Tryz.prog (.block 0 (.rangeFunc (.tmp 12) #[13] B2 BB)) _ (a2.put (some 12) (.func (.func 178) #[] cv)) w3
  rw [← ha3]
  have z3w : w3.heap.size = bc + 2 := by rw [hw3, size_new, size_new, hbc]
  have c1 : w3.heap[bc]? = some (.cells #[.int .i64 ((n + 1 : Nat) : Int)] 3 (0, 0)) := by rw [hw3]; exact heap_old (heap_new hbc)
  have c2 : w3.heap[bc + 1]? = some (.cells #[.int .i64 ((List.length (α := BndD) p.2.2.1 : Nat) : Int)] 3 (0, 0)) := by rw [hw3]; exact heap_new (by rw [size_new, hbc])
  have o3 : ∀ b, b < w2.heap.size → w3.heap[b]? = w2.heap[b]? := fun b hb => by
    obtain ⟨o, ho⟩ : ∃ o, w2.heap[b]? = some o := ⟨_, Array.getElem?_eq_getElem hb⟩
    rw [ho, hw3]; exact heap_old (heap_old ho)
  have st3 : w3.os = w2.os ∧ w3.tape = w2.tape ∧ w3.output = w2.output := by rw [hw3]; exact ⟨rfl, rfl, rfl⟩
  refine wpIn_block (wpIn_rangeFunc fun fn hfn => ?_)
  obtain ⟨D, hD⟩ : ∃ D, D = w3.heap.size := ⟨_, rfl⟩
  obtain ⟨rc, hrc⟩ : ∃ rc : LoopState → Option Code → Loop, rc = fun st pe => { state := st, pending := pe, fn, tmps := a3.tmps, params := #[13], assign := B2, body := BB, defers := D } := ⟨_, rfl⟩
  obtain ⟨W1, hW1⟩ : ∃ W1, W1 = (w3.alloc (.deferred (some []))).alloc (.loop (rc .ready none)) := ⟨_, rfl⟩
  have zW1 : W1.heap.size = D + 2 := by rw [hW1, size_new, size_new, hD]
  have oW1 : ∀ b, b < D → W1.heap[b]? = w3.heap[b]? := fun b hb => by
    obtain ⟨o, ho⟩ : ∃ o, w3.heap[b]? = some o := ⟨_, Array.getElem?_eq_getElem (by omega)⟩
    rw [ho, hW1]; exact heap_old (heap_old ho)
  have hDo : W1.heap[D]? = some (.deferred (some [])) := by rw [hW1]; exact heap_old (heap_new hD)
  have hlo : W1.heap[D + 1]? = some (.loop (rc .ready none)) := by rw [hW1]; exact heap_new (by rw [size_new, hD])
  have stW1 : W1.os = w2.os ∧ W1.tape = w2.tape ∧ W1.output = w2.output := by rw [hW1]; exact st3
  have hfe : a3.eval (.tmp 12) = .func (.func 178) #[] cv := t12
  obtain ⟨e2', h2h⟩ := rb.h2
  have lt1 : b1 < bc := by rw [hbc]; exact lt_of_heap rb.h1
  have lt2 : b2 < bc := by rw [hbc]; exact lt_of_heap h2h
  have down : ∀ b, b < bc → W1.heap[b]? = w2.heap[b]? := fun b hb => (oW1 b (by omega)).trans (o3 b (by omega))
  have rb1 : RawB M W1 p b1 b2 cur1 e1 f1 cur2 V := ⟨(down b1 lt1).trans rb.h1, ⟨e2', (down b2 lt2).trans h2h⟩, rb.v1, rb.n12, rb.z1, rb.rep, fun b c h => by
    obtain ⟨q1, q2, el, f, q3⟩ := rb.hV b c h
    exact ⟨q1, q2, el, f, (down b (by rw [hbc]; exact lt_of_heap q3)).trans q3⟩, rb.one⟩
  refine ⟨D + 1, [mkD D], W1, { target := .fn (.func 178) cv, args := #[] ++ #[.func (.yield (D + 1)) #[] #[]] }, W1, 178, #[] ++ #[.func (.yield (D + 1)) #[] #[]] ++ cv, W1, ?_, ?_, ?_, ?_, fun h => (by cases h), ?_⟩
  · rw [hW1, hrc, hD]; exact run_enterLoop_outer _ _ _ _ _
  · simp only [resolve, hfe]
    simp [go_sem, Deferred.ofValue]
  · intro f' _; trivial
  · obtain ⟨fn', e1, e2, e3⟩ := enters178
    have e2' : ¬ fn'.name = "runtime.NumGoroutine" := by simpa using e2
    have e3' : ¬ fn'.body = none := by intro hn; rw [hn] at e3; cases e3
    simp [invoke, callFunc, e1, e2', e3']
  · have hY : Yld (D + 1) (D + 2) bc (bc + 1) (n + 1) (List.length (α := BndD) p.2.2.1) (fun rest W => (JB W1 (D + 2) (D + 1) b2 (.loop (rc .ready none)) W ∧ bestL p.2.2.1 rest = some x) ∧ ∀ c ∈ rest, goodA p.2.2.1 c) (JX M W1 (D + 2) (D + 1) b2 (.loop (rc .done (some .ret))) x) := by
      refine ⟨?_, ?_, ?_, ?_⟩
      · rintro rest w w' ⟨⟨h, h2⟩, h3⟩ hb
        have hk : ∀ b, b < D + 2 → w'.heap[b]? = w.heap[b]? := fun b h1 => hb.keep b h1 (Nat.lt_of_lt_of_le h1 h.size)
        obtain ⟨cu, el, q1, q2⟩ := h.two
        exact ⟨⟨⟨hb.os.trans h.os, hb.tape.trans h.tape, hb.output.trans h.output, Nat.le_trans h.size hb.size, fun b h1 h2 h3 => (hk b h1).trans (h.keep b h1 h2 h3), (hk _ (by omega)).trans h.loop, cu, el, (hk b2 (by omega)).trans q1, q2⟩, h2⟩, h3⟩
      · rintro rest w ⟨⟨h, _⟩, _⟩
        exact h.size
      · rintro rest w ⟨⟨h, _⟩, _⟩
        exact ⟨(h.keep bc (by omega) (by omega) (by omega)).trans ((oW1 bc (by omega)).trans c1), (h.keep (bc + 1) (by omega) (by omega) (by omega)).trans ((oW1 (bc + 1) (by omega)).trans c2)⟩
      · rintro c rest w ls cap cur ⟨⟨h, h2⟩, h3⟩ hls hcur hrow
        have hy := yields_b (w0s := w0.heap.size) rb1 hMlt hb2 (base := D + 2) (l := D + 1) (D := D) (by omega) ⟨by omega, by omega⟩ (by omega) zW1.symm (fn := fn) (a3 := a3) z3 t1 t2 rc hrc ⟨_, hlo⟩ (x := x) h h2 (h3 c List.mem_cons_self) hls hcur hrow
        obtain ⟨q1, q2, q3, q4, q5, q6⟩ := hy
        refine ⟨q1, q2, q3, q4, q5, RoundIn.mono q6 ?_⟩
        rintro e w' ⟨k1, ⟨k2, k3⟩ | ⟨k2, k3⟩⟩
        · exact ⟨k1, .inl ⟨k2, k3, fun c hc => h3 c (List.mem_cons_of_mem _ hc)⟩⟩
        · exact ⟨k1, .inr ⟨k2, k3⟩⟩
    have hJ0 : (JB W1 (D + 2) (D + 1) b2 (.loop (rc .ready none)) W1 ∧ bestL p.2.2.1 (combs (n + 1) 0 (List.length (α := BndD) p.2.2.1)) = some x) ∧ ∀ c ∈ combs (n + 1) 0 (List.length (α := BndD) p.2.2.1), goodA p.2.2.1 c := by
      refine ⟨⟨⟨rfl, rfl, rfl, by omega, fun _ _ _ _ => rfl, hlo, cur2, e2', (down b2 lt2).trans h2h, rb.one⟩, hx⟩, hgood⟩
    have hc := chosen1_in hY ⟨by omega, by omega⟩ hbl ⟨by omega, by omega⟩ W1 zW1.symm hJ0
    rw [← hcv] at hc
    have hargs : (#[] ++ #[Value.func (.yield (D + 1)) #[] #[]] ++ cv : Array Value) = #[Value.func (.yield (D + 1)) #[] #[]] ++ cv := by simp
    rw [hargs]
    refine hc.mono ?_
    rintro e W2 ⟨⟨v, rfl⟩, ⟨⟨_, h2⟩, _⟩ | h⟩
    · cases h2
    · refine ⟨_, _, run_endLoop h.loop (by rw [hrc]; simp), ?_⟩
      have hpd : (rc .done (some .ret)).pending = some .ret := by rw [hrc]
      rw [hpd]
      refine wpIn_ret ⟨.ret, stC x, rfl, ?_, ?_⟩
      · show retVC cfB Tryz.f143.results.toList sBest.res (sBest.f (p, ())) (stC x)
        rw [hfin]; exact vRet x
      · have keepW : ∀ b, b < bc → b ≠ b2 → W2.heap[b]? = w2.heap[b]? := fun b h1 h2 => (h.keep b (by omega) (by omega) h2).trans (down b h1)
        have nl : ∀ (o : Obj) b, b ≠ D + 1 → (W2.putObj (D + 1) o).heap[b]? = W2.heap[b]? := fun o b hb => World.putObj_heap_other hb
        refine final_rel (D := D) (b2 := b2) hMlt hbslt (fun b i o h1 h2 h3 h4 => ?_) z3 (by show mkD D :: a3.defers = _; rw [d3]) t2 hb2 (by omega) ((nl _ D (by omega)).trans ((h.keep D (by omega) (by omega) (by omega)).trans hDo)) (h.os.trans (stW1.1.trans gos)) (h.tape.trans (stW1.2.1.trans gtape)) (h.output.trans (stW1.2.2.trans gout)) (by rw [World.putObj_size]; have := h.size; omega) (fun b h1 h2 => ?_) (cb_put h.cb h.loop)
        · obtain ⟨o', q1, q2⟩ := gobk b i o h1 h2 h3 h4
          exact ⟨o', (nl _ b (by omega)).trans ((keepW b (by omega) (by omega)).trans q1), q2⟩
        · exact (nl _ b (by omega)).trans ((keepW b (by omega) (by omega)).trans (gkeep b h1 h2))
end Go.Eng.Ar

namespace Go.Eng.Ar
open Go.Eng Go.Proofs
set_option linter.all false
set_option maxRecDepth 100000
set_option maxHeartbeats 8000000
theorem combs_mem : ∀ (k f r : Nat) (c : List Int), c ∈ combs k f r → c.length = k ∧ ∀ x ∈ c, (f : Int) ≤ x ∧ x < (f : Int) + r
  | 0, f, r, c, h => by
    simp only [combs, List.mem_singleton] at h
    subst h; exact ⟨rfl, fun x hx => by cases hx⟩
  | k + 1, f, 0, c, h => by simp [combs] at h
  | k + 1, f, r + 1, c, h => by
    simp only [combs, List.mem_append, List.mem_map] at h
    rcases h with ⟨d, hd, rfl⟩ | h
    · obtain ⟨h1, h2⟩ := combs_mem k (f + 1) r d hd
      refine ⟨by simp [h1], fun x hx => ?_⟩
      rcases List.mem_cons.1 hx with rfl | hx
      · omega
      · have := h2 x hx; omega
    · obtain ⟨h1, h2⟩ := combs_mem (k + 1) (f + 1) r c h
      exact ⟨h1, fun x hx => by have := h2 x hx; omega⟩
def okBd (N : Nat) (d : BndD) : Prop := d.1.length = N ∧ (∀ x ∈ d.1, (-1000 : Int) ≤ x ∧ x ≤ (1000 : Int)) ∧ (0 : Int) ≤ d.2.1 ∧ d.2.1 ≤ (1000 : Int)
theorem bnds_len {t : List (List Int)} {cap : Int} {k : Nat} : (bndsT t cap k).length = t.length + t.length + ncol t + k := by
  simp only [bndsT, opensT, highsT, lowsT, List.length_append, tab_len]
theorem unit_mem {n : Nat} {k : Nat} {v x : Int} (h : x ∈ unitL (n : Int) (k : Int) v) : x = v ∨ x = 0 := by
  unfold unitL at h
  rcases List.mem_or_eq_of_mem_set h with h | h
  · rw [repl_eq] at h
    exact .inr (List.eq_of_mem_replicate h)
  · exact .inl h
theorem okI {x : Int} (h : -1000 ≤ x ∧ x ≤ 1000) : ((-1000 : Int) ≤ x ∧ x ≤ (1000 : Int)) := h
theorem bnds_ok {t : List (List Int)} {cap : Int} (h : goodT t cap) : ∀ d ∈ bndsT t cap (ncol t), okBd (ncol t + 1) d := by
  intro d hd
  have hr : ∀ i, i < t.length → ∀ x ∈ rowN t i, 0 ≤ x ∧ x ≤ 100 := fun i hi x hx => by
    obtain ⟨j, hj, rfl⟩ := mem_vI hx
    exact h.vals i j hi (by rw [← h.rows i hi]; exact hj)
  simp only [bndsT, opensT, highsT, lowsT, List.mem_append] at hd
  rcases hd with ((hd | hd) | hd) | hd
  · obtain ⟨i, hi, rfl⟩ := tab_mem hd
    refine ⟨by show (tab (fun j => -vI (rowN t i) j) (rowN t i).length ++ [1]).length = _; rw [List.length_append, tab_len, h.rows i hi]; rfl, fun x hx => ?_, Int.le_refl _, by show (0 : Int) ≤ 1000; decide⟩
    have hx : x ∈ tab (fun j => -vI (rowN t i) j) (rowN t i).length ++ [1] := hx
    rcases List.mem_append.1 hx with hx | hx
    · obtain ⟨j, hj, rfl⟩ := tab_mem hx
      exact okI (by have := hr i hi _ (vI_mem hj); omega)
    · rw [List.mem_singleton.1 hx]; exact ⟨by decide, by decide⟩
  · obtain ⟨i, hi, rfl⟩ := tab_mem hd
    refine ⟨by show (rowN t i ++ [0]).length = _; rw [List.length_append, h.rows i hi]; rfl, fun x hx => ?_, h.cap0.1, h.cap0.2⟩
    have hx : x ∈ rowN t i ++ [0] := hx
    rcases List.mem_append.1 hx with hx | hx
    · exact okI (by have := hr i hi _ hx; omega)
    · rw [List.mem_singleton.1 hx]; exact ⟨by decide, by decide⟩
  · obtain ⟨j, hj, rfl⟩ := tab_mem hd
    refine ⟨by show (unitL ((ncol t : Int) + 1) (j : Int) 1).length = _; rw [unit_len]; omega, fun x hx => ?_, by show (0 : Int) ≤ 1; decide, by show (1 : Int) ≤ 1000; decide⟩
    rcases unit_mem (n := ncol t + 1) (show x ∈ unitL ((ncol t + 1 : Nat) : Int) (j : Int) 1 from hx) with rfl | rfl <;> decide
  · obtain ⟨j, hj, rfl⟩ := tab_mem hd
    refine ⟨by show (unitL ((ncol t : Int) + 1) (j : Int) (-1)).length = _; rw [unit_len]; omega, fun x hx => ?_, Int.le_refl _, by show (0 : Int) ≤ 1000; decide⟩
    rcases unit_mem (n := ncol t + 1) (show x ∈ unitL ((ncol t + 1 : Nat) : Int) (j : Int) (-1) from hx) with rfl | rfl <;> decide
theorem bd_mem {b : List BndD} {k : Nat} (h : k < b.length) : bdN b k ∈ b := by
  have : bdN b k = b[k] := by simp [bdN, List.getD, List.getElem?_eq_getElem h]
  rw [this]; exact List.getElem_mem h
theorem good_comb {t : List (List Int)} {cap : Int} (h : goodT t cap) : ∀ c ∈ combs (ncol t + 1) 0 (bndsT t cap (ncol t)).length, goodA (bndsT t cap (ncol t)) c := by
  intro c hc
  obtain ⟨h1, h2⟩ := combs_mem _ _ _ c hc
  have hl := @bnds_len t cap (ncol t)
  have g1 := h.le
  have g2 := h.cle
  refine ⟨by omega, by omega, by omega, fun i hi => ?_, fun k hk => ?_, fun k j hk hj => ?_, fun k hk => ?_⟩
  · have := h2 _ (vI_mem hi); omega
  · rw [h1]; exact (bnds_ok h _ (bd_mem hk)).1
  · have hb := bnds_ok h _ (bd_mem hk)
    exact hb.2.1 _ (vI_mem (by rw [hb.1, ← h1]; exact hj))
  · exact (bnds_ok h _ (bd_mem hk)).2.2
structure cornOK (n s : Nat) (x : CornD) : Prop where
  l1 : List.length (α := Int) x.1 = n
  v1 : ∀ i, i < n → (vI x.1 i).natAbs ≤ 400000000000000
  d1 : (0 : Int) < x.2.1 ∧ x.2.1 ≤ (400000000000000 : Int)
  l2 : List.length (α := Int) x.2.2.1 = s
  v2 : ∀ i, i < s → (vI x.2.2.1 i).natAbs ≤ 400000000000000
  d2 : (0 : Int) < x.2.2.2.1 ∧ x.2.2.2.1 ≤ (400000000000000 : Int)
theorem ws_bd {b : Nat} {l y : List Int} {m : Nat} (hy : ∀ i, i < m → (vI y i).natAbs ≤ 400000000000000) : ∀ k, k ≤ m → ∀ x ∈ wsP b l y k, x.natAbs ≤ 400000000000000
  | 0, _, x, hx => by
    simp only [wsP, repl_eq] at hx
    rw [List.eq_of_mem_replicate hx]; decide
  | k + 1, hk, x, hx => by
    simp only [wsP] at hx
    rcases List.mem_or_eq_of_mem_set hx with hx | rfl
    · exact ws_bd hy k (by omega) x hx
    · exact hy k (by omega)
theorem at_props {b : List BndD} {c : List Int} (hg : goodA b c) (h : (atR b c).2.1 = true) : cornOK c.length b.length (atR b c).1 := by
  have hx : (atX b c).2.2.1 = true := by
    cases e : (atX b c).2.2.1 with
    | true => rfl
    | false => rw [at_1 e] at h; cases h
  have ho : okAll b (atX b c).1 (atX b c).2.1 b.length = true := by
    cases e : okAll b (atX b c).1 (atX b c).2.1 b.length with
    | true => rfl
    | false => rw [at_2 hx e] at h; cases h
  by_cases hm : mn (atY b c).1 (c.length - 1) < 0
  · rw [at_3 hx ho hm] at h; cases h
  · rw [at_4 hx ho hm]
    have b1 := fun i hi => solve_bd (pX hg) (x_det hx) (i := i) (by rw [rows_len]; exact hi)
    have b2 := fun i hi => solve_bd (pY hg) (y_det hg hx) (i := i) (by rw [tr_len, rows_len]; exact hi)
    refine ⟨x_len hx, fun i hi => ?_, solve_den (pX hg) (x_det hx), ws_len _, fun i hi => ?_, solve_den (pY hg) (y_det hg hx)⟩
    · have := b1 i hi
      show (vI (solveR (rowsP b c c.length) (rhsP b c c.length)).1 i).natAbs ≤ _
      omega
    · refine ws_bd (m := c.length) (fun i hi => ?_) c.length (Nat.le_refl _) _ (vI_mem (by rw [ws_len]; exact hi))
      have := b2 i hi
      show (vI (solveR (trM (rowsP b c c.length)) (unitL (c.length : Int) ((c.length : Int) - 1) 1)).1 i).natAbs ≤ _
      omega
theorem best_some {b : List BndD} {x : CornD} : ∀ {l : List (List Int)}, bestL b l = some x → ∃ c ∈ l, (atR b c).2.1 = true ∧ (atR b c).1 = x
  | [], h => by cases h
  | c :: r, h => by
    simp only [bestL] at h
    split at h
    · exact ⟨c, List.mem_cons_self, by assumption, Option.some.inj h⟩
    · obtain ⟨d, h1, h2⟩ := best_some h
      exact ⟨d, List.mem_cons_of_mem _ h1, h2⟩
def bestX (t : List (List Int)) (cap : Int) : Option CornD := bestR (bndsT t cap (ncol t)) (ncol t)
theorem best_ok {t : List (List Int)} {cap : Int} {x : CornD} (h : goodT t cap) (hx : bestX t cap = some x) : cornOK (ncol t + 1) (t.length + t.length + ncol t + ncol t) x := by
  obtain ⟨c, hc, h1, rfl⟩ := best_some hx
  have hg := good_comb h c hc
  have := at_props hg h1
  rw [(combs_mem _ _ _ c hc).1, bnds_len] at this
  exact this
abbrev OpenD : Type := OpenT.Den
abbrev WgtD : Type := WeightsT.Den
def bO (x : CornD) (n : Nat) : OpenD := ((redL (List.take n x.1) x.2.1).2, (redL (List.take n x.1) x.2.1).1, ())
def bWl (x : CornD) (s n : Nat) : List Int := (redL (List.take (2 * s + n) x.2.2.1) x.2.2.2.1).1
def bW (x : CornD) (s n : Nat) : WgtD := ((redL (List.take (2 * s + n) x.2.2.1) x.2.2.2.1).2, (bWl x s n).take s, ((bWl x s n).take (2 * s)).drop s, (bWl x s n).drop (2 * s), ())
def bV (x : CornD) (n : Nat) : PairT.Den := (Int.tdiv (vI x.1 n) (gcd2 (vI x.1 n) x.2.1), Int.tdiv x.2.1 (gcd2 (vI x.1 n) x.2.1), ())
def pBO (t : List (List Int)) (cap : Int) : Prop := goodT t cap ∧ (bestX t cap).isSome = true
abbrev bX (t : List (List Int)) (cap : Int) : CornD := (bestX t cap).getD cornZ
@[reducible] def sRedD : Spec := { sRed with res := [{ t := .sl I64 }, { t := I64 }] }
theorem h144d : Ok 144 sRedD := by
  refine mk (ctr := [(145, sClone), (148, sDiv)]) ⟨h145, h148, trivial⟩ (nt := 33) Tryz.func144 rfl rfl rfl rfl (by kernel_rfl) (by kernel_rfl) (fun x => [fun _ => redAnn x.1 x.2.1]) ?_
  rintro ⟨(l : List Int), (d : Int), _⟩ ⟨(h1 : l.length ≤ 1000), (h2 : ∀ i, i < l.length → (vI l i).natAbs ≤ 9000000000000000000), (h3 : d.natAbs ≤ 9000000000000000000), (h4 : d ≠ 0)⟩
  have e : (gf (l ++ [d]) (l ++ [d]).length : Int) = redG l d := rfl
  have g1 : vI (l ++ [d]) l.length = d := by simp [vI]
  have g2 : (l ++ [d]).length = l.length + 1 := by simp
  have e2 : redG l d ≠ 0 := by
    have := gf_pos (xs := l ++ [d]) (k := l.length) (by rw [g1]; exact h4)
    rw [← e, g2]; exact this
  have hd : pDiv (l ++ [d]) := ⟨by show ((l ++ [d]).length : Int) ≤ 4611686018427387904; rw [g2]; omega, fun i hi => by
    by_cases hl : i < l.length
    · have : vI (l ++ [d]) i = vI l i := by simp [vI, List.getElem?_append_left hl]
      rw [this]; exact h2 i hl
    · have : i = l.length := by omega
      subst this
      rw [g1]; exact h3⟩
  repeat' (intro hzz; (try (rename Two => hq; cases hq)); (try dsimp only at hzz); (try simp only [resTy, argTy, eqD, inR, big, wantOf, zB] at hzz); (try simp only [resTy, argTy, eqD, inR, big, wantOf, zB, getD_i, tab_len, e] at hzz); (try (revert hzz; intro _)))
  all_goals try (rename Unit => hq; clear hq)
  all_goals try ((with_reducible refine Held.mk ?_); (with_reducible (first | refine Frz.mk ?_ | refine And.intro (Frz.mk ?_) ?_ | refine And.intro ?_ (Frz.mk ?_))); repeat' first | exact True.intro | (change _ = _; with_reducible rfl) | refine And.intro ?_ ?_ | (with_reducible refine Frz.mk ?_))
  all_goals try (refine Held.mk ?_; (try dsimp only at *); (try simp only [resTy, argTy, eqD, inR, big, wantOf, zB] at *); (try simp only [resTy, argTy, eqD, inR, big, wantOf, zB, getD_i, tab_len, e] at *))
  · show l.length ≤ 2000000000; omega
  · show l.length + 1 ≤ 2147483648; omega
  · exact hd
  ·
    refine GHeld.mk ?_
    refine Exists.intro 0 ?_
    refine And.intro (Leaf.mk ?_) ?_
    · repeat' first | exact True.intro | refine And.intro ?_ ?_
      all_goals try ((change _ = _ <;> try dsimp only) <;> try with_reducible rfl)
      all_goals try omega
      all_goals (rfl)
    exact Nat.zero_le _
  · omega
  · rename_i k hk hg
    exact ⟨e2, td_in (h2 k (by omega))⟩
  · rename_i k hk hg
    show k + 1 ≤ 2147483648; omega
  · omega
  · rename_i k hk hg
    refine GHeld.mk ?_
    refine Exists.intro (k + 1) ?_
    refine And.intro (Leaf.mk ?_) ?_
    · repeat' first | exact True.intro | refine And.intro ?_ ?_
      all_goals try ((change _ = _ <;> try dsimp only) <;> try with_reducible rfl)
      all_goals try omega
      all_goals (rfl)
    exact ⟨by show k + 1 ≤ l.length; omega, by show l.length - (k + 1) < l.length - k; omega⟩
  · exact ⟨e2, td_in h3⟩
  · rename_i k hk hg
    rw [show k = l.length by omega]; exact ⟨rfl, rfl⟩
theorem natA {n : Int} (h1 : 0 < n) (h2 : n ≤ 400000000000000) : n.natAbs ≤ 9000000000000000000 ∧ n ≠ 0 := by omega
@[reducible] def sBestOf : Spec := { pats := [.dat TaskT], res := [{ t := OpenT }, { t := WeightsT }, { t := PairT }], pre := fun x => pBO x.1.1 x.1.2.1, f := fun x => (bO (bX x.1.1 x.1.2.1) (ncol x.1.1), bW (bX x.1.1 x.1.2.1) (List.length (α := List Int) x.1.1) (ncol x.1.1), bV (bX x.1.1 x.1.2.1) (ncol x.1.1), ()) }
theorem h102 : Ok 102 sBestOf := by
  refine mk (ctr := [(107, sLow), (142, sProg), (143, sBest), (144, sRedD), (145, sClone)]) ⟨h107, h142, hBest, h144d, h145, trivial⟩ (nt := 76) Tryz.func102 rfl rfl rfl rfl (by kernel_rfl) (by kernel_rfl) (fun _ => []) ?_
  rintro ⟨⟨(t : List (List Int)), (cap : Int), _⟩, _⟩ h
  have h' : goodT t cap ∧ (bestX t cap).isSome = true := h
  obtain ⟨hg, hs⟩ := h'
  obtain ⟨x, hx⟩ := Option.isSome_iff_exists.1 hs
  have eX : (bestR (bndsT t cap (ncol t)) (ncol t)).getD cornZ = x := by
    rw [show bestR (bndsT t cap (ncol t)) (ncol t) = some x from hx]; rfl
  have hc := best_ok hg hx
  obtain ⟨l1, v1, d1, l2, v2, d2⟩ := hc
  have g1 := hg.le
  have g2 := hg.cle
  have e2 : (2 * (t.length : Int)).toNat = 2 * t.length := by omega
  have e3 : (2 * (t.length : Int) + (ncol t : Int)).toNat = 2 * t.length + ncol t := by omega
  have r1 : (redL (List.take (ncol t) x.1) x.2.1).1.length = ncol t := by
    show (tab _ (List.take (ncol t) x.1).length).length = _
    rw [tab_len, List.length_take, l1]; exact Nat.min_eq_left (Nat.le_succ _)
  have r2 : (redL (List.take (2 * t.length + ncol t) x.2.2.1) x.2.2.2.1).1.length = 2 * t.length + ncol t := by
    show (tab _ (List.take (2 * t.length + ncol t) x.2.2.1).length).length = _
    rw [tab_len, List.length_take, l2]; exact Nat.min_eq_left (by omega)
  have w1 : ∀ i, i < ncol t → vI (List.take (ncol t) x.1) i = vI x.1 i := fun i hi => by simp [vI, List.getD, List.getElem?_take, hi]
  have w2 : ∀ i, i < 2 * t.length + ncol t → vI (List.take (2 * t.length + ncol t) x.2.2.1) i = vI x.2.2.1 i := fun i hi => by simp [vI, List.getD, List.getElem?_take, hi]
  have p1 : pRed (List.take (ncol t) x.1) x.2.1 := by
    refine ⟨by rw [List.length_take]; omega, fun i hi => ?_, (natA d1.1 d1.2).1, (natA d1.1 d1.2).2⟩
    have hi' : i < ncol t := by rw [List.length_take] at hi; omega
    rw [w1 i hi']; have := v1 i (by omega); omega
  have p2 : pRed (List.take (2 * t.length + ncol t) x.2.2.1) x.2.2.2.1 := by
    refine ⟨by rw [List.length_take]; omega, fun i hi => ?_, (natA d2.1 d2.2).1, (natA d2.1 d2.2).2⟩
    have hi' : i < 2 * t.length + ncol t := by rw [List.length_take] at hi; omega
    rw [w2 i hi']; have := v2 i (by omega); omega
  have p3 : pLow (vI x.1 (ncol t)) x.2.1 := ⟨by have := v1 (ncol t) (by omega); omega, (natA d1.1 d1.2).1, (natA d1.1 d1.2).2⟩
  have eb : bX t cap = x := by show (bestX t cap).getD cornZ = x; rw [hx]; rfl
  repeat' (intro hzz; (try (rename Two => hq; cases hq)); (try dsimp only at hzz); (try simp only [resTy, argTy, eqD, inR, big, wantOf, zB] at hzz); (try simp only [resTy, argTy, eqD, inR, big, wantOf, zB, getD_l, getD_i, getD_0, getD_l2, getD_i2, Int.toNat_natCast, eX, e2, e3] at hzz); (try (revert hzz; intro _)))
  all_goals try (rename Unit => hq; clear hq)
  all_goals try ((with_reducible refine Held.mk ?_); (with_reducible (first | refine Frz.mk ?_ | refine And.intro (Frz.mk ?_) ?_ | refine And.intro ?_ (Frz.mk ?_))); repeat' first | exact True.intro | (change _ = _; with_reducible rfl) | refine And.intro ?_ ?_ | (with_reducible refine Frz.mk ?_))
  all_goals try (refine Held.mk ?_; (try dsimp only at *); (try simp only [resTy, argTy, eqD, inR, big, wantOf, zB] at *); (try simp only [resTy, argTy, eqD, inR, big, wantOf, zB, getD_l, getD_i, getD_0, getD_l2, getD_i2, Int.toNat_natCast, eX, e2, e3] at *))
  · exact hg
  · exact ⟨ncol t, rfl, g2, hs, by rw [bnds_len]; omega, good_comb hg⟩
  all_goals try (first | exact p1 | exact p2 | exact p3)
  · rw [l1]; omega
  · omega
  · omega
  · rw [l2]; omega
  · rw [r2]; omega
  · rw [List.length_take]; omega
  · omega
  · rw [r2]; omega
  · rw [List.length_drop, List.length_take]; omega
  · omega
  · rw [r2]; omega
  · rw [List.length_drop]; omega
  · rw [l1]; omega
  · rw [eb]; exact ⟨⟨rfl, rfl⟩, ⟨rfl, rfl, rfl, rfl⟩, rfl, rfl⟩
abbrev pBOpen (t : List (List Int)) (cap : Int) : Prop := chkT t cap = 0 → (bestX t cap).isSome = true
def bOpenR (t : List (List Int)) (cap : Int) : OpenD × WgtD × PairT.Den × Int × Unit :=
  if chkT t cap = 0 then (bO (bX t cap) (ncol t), bW (bX t cap) t.length (ncol t), bV (bX t cap) (ncol t), 0, ()) else ((0, [], ()), (0, [], [], [], ()), (0, 0, ()), chkT t cap, ())
@[reducible] def sBestOpen : Spec := { pats := [.dat TaskT], res := [{ t := OpenT }, { t := WeightsT }, { t := PairT }, { t := I64 }], pre := fun x => pBOpen x.1.1 x.1.2.1, f := fun x => bOpenR x.1.1 x.1.2.1 }
theorem h41 : Ok 41 sBestOpen := by
  refine mk (ctr := [(65, sTask), (102, sBestOf)]) ⟨h65, h102, trivial⟩ (nt := 27) Tryz.func41 rfl rfl rfl rfl (by kernel_rfl) (by kernel_rfl) (fun _ => []) ?_
  rintro ⟨⟨(t : List (List Int)), (cap : Int), _⟩, _⟩ h
  have h' : chkT t cap = 0 → (bestX t cap).isSome = true := h
  repeat' (intro hzz; (try (rename Two => hq; cases hq)); (try dsimp only at hzz); (try simp only [resTy, argTy, eqD, inR, big, wantOf, zB] at hzz); (try (revert hzz; intro _)))
  all_goals try (rename Unit => hq; clear hq)
  all_goals try ((with_reducible refine Held.mk ?_); (with_reducible (first | refine Frz.mk ?_ | refine And.intro (Frz.mk ?_) ?_ | refine And.intro ?_ (Frz.mk ?_))); repeat' first | exact True.intro | (change _ = _; with_reducible rfl) | refine And.intro ?_ ?_ | (with_reducible refine Frz.mk ?_))
  all_goals try (refine Held.mk ?_; (try dsimp only at *); (try simp only [resTy, argTy, eqD, inR, big, wantOf, zB] at *))
  · rename_i hc
    have e : bOpenR t cap = ((0, [], ()), (0, [], [], [], ()), (0, 0, ()), chkT t cap, ()) := if_neg hc
    rw [e]; exact ⟨⟨rfl, rfl⟩, ⟨rfl, rfl, rfl, rfl⟩, ⟨rfl, rfl⟩, rfl⟩
  · rename_i hc
    exact ⟨goodT_of hc, h' hc⟩
  · rename_i hc
    have e : bOpenR t cap = (bO (bX t cap) (ncol t), bW (bX t cap) t.length (ncol t), bV (bX t cap) (ncol t), 0, ()) := if_pos hc
    rw [e]; exact ⟨⟨rfl, rfl⟩, ⟨rfl, rfl, rfl, rfl⟩, ⟨rfl, rfl⟩, rfl⟩
theorem ex_ok : chkT [[2, 0], [0, 4]] 3 = 0 ∧ (bestX [[2, 0], [0, 4]] 3).isSome = true ∧ bV (bX [[2, 0], [0, 4]] 3) 2 = (2, 1, ()) := by
  refine ⟨by decide +kernel, by decide +kernel, by decide +kernel⟩
end Go.Eng.Ar

namespace Go.Eng.Ar
open Go.Eng Go.Proofs Go.Lib
set_option linter.all false
set_option maxRecDepth 100000
set_option maxHeartbeats 8000000
theorem prog_num {l : List UInt8} {k : Nat} (hk : k ≤ 18) (h : numOk l k = true) : atoiR l = (numV l, false, ()) ∧ itoa (numV l) = l ∧ (trimPrefix l [45]).length ≤ k ∧ (-9223372036854775808 ≤ numV l ∧ numV l ≤ 9223372036854775807) := by
  obtain ⟨h1, h2⟩ := itoa_of_num h
  have hb := numV_bd h
  have hp : 10 ^ k ≤ 10 ^ 18 := Nat.pow_le_pow_right (by decide) hk
  have hr : -9223372036854775808 ≤ numV l ∧ numV l ≤ 9223372036854775807 := by omega
  have ha := atoi_itoa hr.1 hr.2
  rw [h1] at ha
  exact ⟨by simp only [atoiR, ha], h1, h2, hr⟩
theorem atoi_range {l : List UInt8} (h : (atoiR l).2.1 = false) : -9223372036854775808 ≤ (atoiR l).1 ∧ (atoiR l).1 ≤ 9223372036854775807 := by
  simp only [atoiR] at h ⊢
  cases ha : atoiAll l with
  | ok v => have := atoiAll_bounds ha; simp only; omega
  | _ => rw [ha] at h; cases h
theorem prog_yes {p : ByteArray} {n : Int} (h : (itoa n == p.data.toList) = true) : decide (((bA (trimPrefix (bL p) (bL ⟨#[45]⟩))).size : Int) ≤ 5) = numOk (bL p) 5 := by
  have h : itoa n = bL p := beq_iff_eq.1 h
  rw [bA_size]
  have e : trimPrefix (bL p) (bL ⟨#[45]⟩) = trimPrefix (bL p) [45] := rfl
  rw [e]
  cases hn : numOk (bL p) 5 with
  | true => have ht := (prog_num (by decide) hn).2.2.1; exact decide_eq_true (by omega)
  | false =>
    refine decide_eq_false fun ht => ?_
    have ht : (trimPrefix (bL p) [45]).length ≤ 5 := by omega
    rw [← h] at ht
    have := (num_of_itoa ht).1
    rw [h, hn] at this
    cases this
theorem prog_no2 {p : ByteArray} (h : (itoa (atoiR (bL p)).1 == p.data.toList) = false) : numOk (bL p) 5 = false := by
  cases hn : numOk (bL p) 5 with
  | false => rfl
  | true =>
    obtain ⟨h1, h2, _⟩ := prog_num (by decide) hn
    rw [h1] at h
    exact absurd h2 (beq_eq_false_iff_ne.1 h)
theorem prog_no1 {p : ByteArray} (h : (atoiR (bL p)).2.1 = true) : numOk (bL p) 5 = false := by
  cases hn : numOk (bL p) 5 with
  | false => rfl
  | true =>
    obtain ⟨h1, _⟩ := prog_num (by decide) hn
    rw [h1] at h; cases h
@[reducible] def sNum5 : Spec := { pats := [.dat .str, .gw 3 .err, .gw 4 .err, .gw 2 PowT], res := [{ t := I64 }, { t := .bool }], pre := fun x => x.1.size ≤ 1000000 ∧ x.2.2.2.1 = powD, f := fun x => ((atoiR (bL x.1)).1, numOk (bL x.1) 5, ()) }
theorem h129 : Ok 129 sNum5 := by
  refine mk (ctr := [(125, sItoa), (159, sAtoi), (160, sTrim)]) ⟨hItoa, hAtoi, hTrim, trivial⟩ (nt := 26) Tryz.func129 rfl rfl rfl rfl (by kernel_rfl) (by kernel_rfl) (fun _ => []) ?_
  rintro ⟨(s : ByteArray), (b0 : Bool), (b1 : Bool), (pw : PowT.Den), _⟩ ⟨(hs : s.size ≤ 1000000), (hpw : pw = powD)⟩
  repeat' (intro hzz; (try (rename Two => hq; cases hq)); (try dsimp only at hzz); (try simp only [resTy, argTy, eqD, inR, big, wantOf, zB] at hzz); (try simp only [resTy, argTy, eqD, inR, big, wantOf, zB, bL_bA] at hzz); (try (revert hzz; intro _)))
  all_goals try (rename Unit => hq; clear hq)
  all_goals try ((with_reducible refine Held.mk ?_); (with_reducible (first | refine Frz.mk ?_ | refine And.intro (Frz.mk ?_) ?_ | refine And.intro ?_ (Frz.mk ?_))); repeat' first | exact True.intro | (change _ = _; with_reducible rfl) | refine And.intro ?_ ?_ | (with_reducible refine Frz.mk ?_))
  all_goals try (refine Held.mk ?_; (try dsimp only at *); (try simp only [resTy, argTy, eqD, inR, big, wantOf, zB] at *); (try simp only [resTy, argTy, eqD, inR, big, wantOf, zB, bL_bA] at *))
  · exact hs
  · rename_i h; exact ⟨atoi_range h, hpw⟩
  · rename_i h1 h2; exact prog_yes h2
  · rename_i h1 h2; exact (prog_no2 h2).symm
  · rename_i h1; exact (prog_no1 h1).symm
theorem cutP_size (s : ByteArray) : (cutP s).1.size ≤ s.size ∧ (cutP s).2.1.size ≤ s.size := by
  unfold cutP Lib.cut
  rw [bA_size, bA_size]
  split
  · simp only [List.length_take, List.length_drop, bL_len]; omega
  · simp only [List.length_nil, bL_len]; omega
abbrev PairD : Type := PairT.Den
def gdP (p : ByteArray) : PairD := ((atoiR (bL (cutP p).1)).1, (atoiR (bL (cutP p).2.1)).1, ())
def okP (p : ByteArray) : Bool := numOk (bL (cutP p).1) 5 && numOk (bL (cutP p).2.1) 5
abbrev strN (L : List ByteArray) (i : Nat) : ByteArray := L.getD i ByteArray.empty
def gdL (L : List ByteArray) (k : Nat) : List PairD := tab (fun i => gdP (strN L i)) k
def pgL (L : List ByteArray) : List PairD × Int × Unit := if L.all okP = true then (if L.length ≤ 8 then (if L.all (fun p => decide (gnErr (gdP p).1 (gdP p).2.1 = 0)) = true then (gdL L L.length, 0, ()) else ([], 2, ())) else ([], 8, ())) else ([], 7, ())
def pgR (s : ByteArray) : List PairD × Int × Unit := pgL (cutB 59 s)
theorem all_no {L : List ByteArray} {p : ByteArray → Bool} {k : Nat} (hk : k < L.length) (h : p (strN L k) = false) : L.all p = false := by
  rw [List.all_eq_false]
  refine ⟨L[k], List.getElem_mem hk, ?_⟩
  have : strN L k = L[k] := by simp [strN, List.getD, List.getElem?_eq_getElem hk]
  rw [this] at h; simp [h]
theorem all_yes {L : List ByteArray} {p : ByteArray → Bool} (h : ∀ i, i < L.length → p (strN L i) = true) : L.all p = true := by
  rw [List.all_eq_true]
  intro x hx
  obtain ⟨i, hi, rfl⟩ := List.mem_iff_getElem.1 hx
  have := h i hi
  have e : strN L i = L[i] := by simp [strN, List.getD, List.getElem?_eq_getElem hi]
  rwa [e] at this
theorem pg7 {L : List ByteArray} {k : Nat} (hk : k < L.length) (h : okP (strN L k) = false) : pgL L = ([], 7, ()) := by
  unfold pgL; rw [all_no hk h]; rfl
theorem pg8 {L : List ByteArray} (h : ∀ i, i < L.length → okP (strN L i) = true) (hl : 8 < L.length) : pgL L = ([], 8, ()) := by
  unfold pgL; rw [all_yes h, if_pos rfl, if_neg (by omega)]
theorem pg2 {L : List ByteArray} {k : Nat} (h : ∀ i, i < L.length → okP (strN L i) = true) (hl : L.length ≤ 8) (hk : k < L.length) (hg : ¬ gnErr (gdP (strN L k)).1 (gdP (strN L k)).2.1 = 0) : pgL L = ([], 2, ()) := by
  unfold pgL; rw [all_yes h, if_pos rfl, if_pos hl, all_no hk (decide_eq_false hg)]; rfl
theorem pg0 {L : List ByteArray} (h : ∀ i, i < L.length → okP (strN L i) = true) (hl : L.length ≤ 8) (hg : ∀ i, i < L.length → gnErr (gdP (strN L i)).1 (gdP (strN L i)).2.1 = 0) : pgL L = (gdL L L.length, 0, ()) := by
  unfold pgL; rw [all_yes h, if_pos rfl, if_pos hl, all_yes (fun i hi => decide_eq_true (hg i hi)), if_pos rfl]
theorem gn_two {g d : Int} (h : ¬ gnErr g d = 0) : gnErr g d = 2 := by
  unfold gnErr at *; split at h
  · exact absurd rfl h
  · rename_i h1; rw [if_neg h1]
theorem piece_size (c : UInt8) : ∀ (l : List UInt8), ∀ p ∈ piecesL c l, p.length ≤ l.length
  | [], p, hp => by
    simp only [piecesL, List.mem_singleton] at hp
    subst hp; exact Nat.le_refl _
  | b :: l, p, hp => by
    have ih := piece_size c l
    simp only [piecesL] at hp
    split at hp
    · rcases List.mem_cons.1 hp with rfl | h
      · simp
      · have := ih p h; simp only [List.length_cons]; omega
    · split at hp
      · rename_i q r hq
        rcases List.mem_cons.1 hp with rfl | h
        · have := ih q (by rw [hq]; simp); simp only [List.length_cons]; omega
        · have := ih p (by rw [hq]; simp [h]); simp only [List.length_cons]; omega
      · rw [List.mem_singleton] at hp; subst hp; simp
theorem cutB_size (c : UInt8) (s : ByteArray) (i : Nat) : ((cutB c s).getD i ByteArray.empty).size ≤ s.size := by
  rw [List.getD_eq_getElem?_getD]
  cases h : (cutB c s)[i]? with
  | none => exact Nat.zero_le _
  | some p =>
    have hm := List.mem_of_getElem? h
    simp only [cutB, List.mem_map] at hm
    obtain ⟨q, hq, rfl⟩ := hm
    have := piece_size c (bL s) q hq
    rw [bL_len] at this
    show (bA q).size ≤ _
    rw [bA_size]; exact this
@[reducible] def sParseG : Spec := { pats := [.dat .str, .gw 3 .err, .gw 4 .err, .gw 2 PowT, .gw 1 I64], res := [{ t := .sl PairT }, { t := I64 }], pre := fun x => x.1.size ≤ 1000000 ∧ x.2.2.2.1 = powD, f := fun x => pgR x.1 }
def pgAnn (L : List ByteArray) : LoopAnn := { σ := Nat, pat := fun k => [sI 20 k, .slot 4 (.one (.o 60004 k)), .row 60004 82 PairT (gdL L k)], inv := fun k => k ≤ L.length ∧ ∀ i, i < k → okP (strN L i) = true, meas := fun k => L.length - k }
def pgAnn2 (L : List ByteArray) : LoopAnn := { σ := Nat, pat := fun k => [sI 58 k], inv := fun k => k ≤ L.length ∧ ∀ i, i < k → gnErr (gdP (strN L i)).1 (gdP (strN L i)).2.1 = 0, meas := fun k => L.length - k }
theorem h67 : Ok 67 sParseG := by
  refine mk (ctr := [(86, sGains), (127, sSplit), (128, sCut), (129, sNum5)]) ⟨h86, hSplit, hCut, h129, trivial⟩ (nt := 72) Tryz.func67 rfl rfl rfl rfl (by kernel_rfl) (by kernel_rfl) (fun x => [fun _ => pgAnn (cutB 59 x.1), fun _ => pgAnn2 (cutB 59 x.1)]) ?_
  rintro ⟨(s : ByteArray), (b0 : Bool), (b1 : Bool), (pw : PowT.Den), (m : Int), _⟩ ⟨(hs : s.size ≤ 1000000), (hpw : pw = powD)⟩
  have hc := cutB_size 59 s
  have hcl := cutB_len 59 s
  have hN : ∀ k, k < (cutB 59 s).length → (gdL (cutB 59 s) (cutB 59 s).length).getD k PairT.dflt = gdP (strN (cutB 59 s) k) := fun k hk => tab_get _ _ _ _ hk
  have hG : ∀ k, (gdL (cutB 59 s) k).length = k := fun k => tab_len _ _
  repeat' (intro hzz; (try (rename Two => hq; cases hq)); (try dsimp only at hzz); (try simp only [resTy, argTy, eqD, inR, big, wantOf, zB] at hzz); (try simp only [resTy, argTy, eqD, inR, big, wantOf, zB, bL_bA, Int.toNat_natCast] at hzz); (try (revert hzz; intro _)))
  all_goals try (rename Unit => hq; clear hq)
  all_goals try ((with_reducible refine Held.mk ?_); (with_reducible (first | refine Frz.mk ?_ | refine And.intro (Frz.mk ?_) ?_ | refine And.intro ?_ (Frz.mk ?_))); repeat' first | exact True.intro | (change _ = _; with_reducible rfl) | refine And.intro ?_ ?_ | (with_reducible refine Frz.mk ?_))
  all_goals try (refine Held.mk ?_; (try dsimp only at *); (try simp only [resTy, argTy, eqD, inR, big, wantOf, zB] at *); (try simp only [resTy, argTy, eqD, inR, big, wantOf, zB, bL_bA, Int.toNat_natCast] at *))
  all_goals try omega
  · exact ⟨hs, rfl⟩
  · 
    refine GHeld.mk ?_
    refine Exists.intro (0 : Nat) ?_
    refine And.intro (Leaf.mk ?_) ?_
    · repeat' first | exact True.intro | refine And.intro ?_ ?_
      all_goals try ((change _ = _ <;> try dsimp only) <;> try with_reducible rfl)
      all_goals try omega
      all_goals (rfl)
    exact ⟨Nat.zero_le _, fun i hi => absurd hi (Nat.not_lt_zero _)⟩
  · exact ⟨Nat.le_trans (hc _) hs, rfl⟩
  · exact ⟨Nat.le_trans (cutP_size _).1 (Nat.le_trans (hc _) hs), hpw⟩
  · exact ⟨Nat.le_trans (cutP_size _).2 (Nat.le_trans (hc _) hs), hpw⟩
  · rename_i k hk hlt h1 h2
    have e : pgR s = ([], 7, ()) := pg7 (k := k) (by omega) (by show (_ && _) = false; rw [Bool.and_eq_false_iff]; exact .inr h2)
    rw [e]; exact ⟨rfl, rfl⟩
  · rename_i k hk hlt h1 h2
    rw [hG]
    refine ⟨rfl, ?_⟩
    show k + 1 ≤ 2147483648; omega
  · rename_i k hk hlt h1 h2
    refine GHeld.mk ?_
    refine Exists.intro (k + 1) ?_
    refine And.intro (Leaf.mk ?_) ?_
    · repeat' first | exact True.intro | refine And.intro ?_ ?_
      all_goals try ((change _ = _ <;> try dsimp only) <;> try with_reducible rfl)
      all_goals try omega
      all_goals (first | rfl | exact (hG (k + 1)).symm | exact hG (k + 1))
    refine ⟨⟨by show k + 1 ≤ (cutB 59 s).length; omega, fun i hi => ?_⟩, by show (cutB 59 s).length - (k + 1) < (cutB 59 s).length - k; omega⟩
    by_cases e : i = k
    · subst e; show (_ && _) = true; rw [Bool.and_eq_true]; exact ⟨h1, h2⟩
    · exact hk.2 i (by omega)
  · rename_i k hk hlt h1
    have e : pgR s = ([], 7, ()) := pg7 (k := k) (by omega) (by show (_ && _) = false; rw [Bool.and_eq_false_iff]; exact .inl h1)
    rw [e]; exact ⟨rfl, rfl⟩
  · rename_i k hk hlt h1
    have e : pgR s = ([], 8, ()) := pg8 (fun i hi => hk.2 i (by omega)) (by omega)
    rw [e]; exact ⟨rfl, rfl⟩
  · 
    refine GHeld.mk ?_
    refine Exists.intro (0 : Nat) ?_
    refine And.intro (Leaf.mk ?_) ?_
    · repeat' first | exact True.intro | refine And.intro ?_ ?_
      all_goals try ((change _ = _ <;> try dsimp only) <;> try with_reducible rfl)
      all_goals try omega
      all_goals (rfl)
    exact ⟨Nat.zero_le _, fun i hi => absurd hi (Nat.not_lt_zero _)⟩
  · rename_i n hn hle h8 k hk hlt
    rw [hG]; omega
  · rename_i n hn hle h8 k hk hlt h
    have hn1 := hn.1
    obtain rfl : n = (cutB 59 s).length := by omega
    rw [hN k (by omega)] at h
    rw [hN k (by omega)]
    have e : pgR s = ([], 2, ()) := pg2 (fun i hi => hn.2 i (by omega)) (by omega) (by omega) h
    rw [e]; exact ⟨rfl, gn_two h⟩
  · rename_i n hn hle h8 k hk hlt h
    have hn1 := hn.1
    obtain rfl : n = (cutB 59 s).length := by omega
    rw [hN k (by omega)] at h
    refine GHeld.mk ?_
    refine Exists.intro (k + 1) ?_
    refine And.intro (Leaf.mk ?_) ?_
    · repeat' first | exact True.intro | refine And.intro ?_ ?_
      all_goals try ((change _ = _ <;> try dsimp only) <;> try with_reducible rfl)
      all_goals try omega
      all_goals (rfl)
    refine ⟨⟨by show k + 1 ≤ (cutB 59 s).length; omega, fun i hi => ?_⟩, by show (cutB 59 s).length - (k + 1) < (cutB 59 s).length - k; omega⟩
    by_cases e : i = k
    · subst e; exact h
    · exact hk.2 i (by omega)
  all_goals try exact (hG _).symm
  · rename_i n hn hle h8 k hk hlt
    have hn1 := hn.1
    obtain rfl : n = (cutB 59 s).length := by omega
    have e : pgR s = (gdL (cutB 59 s) (cutB 59 s).length, 0, ()) := pg0 (fun i hi => hn.2 i (by omega)) (by omega) (fun i hi => hk.2 i (by omega))
    rw [e]; exact ⟨rfl, rfl⟩
end Go.Eng.Ar

namespace Go.Eng.Ar
open Go.Eng Go.Proofs
set_option linter.all false
set_option maxRecDepth 100000
set_option maxHeartbeats 8000000
theorem ex_p1 : opErr 34000 34000 [((0, 0, 0, ()), 1000, 0, ()), ((0, 0, 100, ()), 500, 400, ())] (0, 0, 500, ()) = 0 := by decide +kernel
theorem ex_p2 : reT (raysT 34000 34000 [((0, 0, 0, ()), 1000, 0, ()), ((0, 0, 100, ()), 500, 400, ())] (0, 0, 500, ()) 2) 2 = 3250000 := by decide +kernel
theorem ex_p3 : imT (raysT 34000 34000 [((0, 0, 0, ()), 1000, 0, ()), ((0, 0, 100, ()), 500, 400, ())] (0, 0, 500, ()) 2) 2 = 0 := by decide +kernel
theorem ex_p4 : prC (openR 34000 34000 [((0, 0, 0, ()), 1000, 0, ()), ((0, 0, 100, ()), 500, 400, ())] (0, 0, 500, ())) = cpxI 3250000 0 := by
  unfold openR
  rw [if_pos ex_p1]
  unfold prC
  rw [if_pos rfl]
  show cpxI (reT (raysT 34000 34000 _ _ 2) 2) (imT (raysT 34000 34000 _ _ 2) 2) = _
  rw [ex_p2, ex_p3]
theorem ex_s : strR (0, 0, 0, ()) (300, 400, 0, ()) = ((2000, 2000, ()), 0, ()) := by decide +kernel
theorem ex_b : bOpenR [[2, 0], [0, 4]] 3 = (bO (bX [[2, 0], [0, 4]] 3) 2, bW (bX [[2, 0], [0, 4]] 3) 2 2, (2, 1, ()), 0, ()) := by
  unfold bOpenR
  rw [if_pos ex_ok.1, ← ex_ok.2.2]; rfl
@[reducible] def sAwake : Spec := { pats := [.gw 3 .err, .gw 4 .err, .gw 2 PowT, .gw 1 I64], res := [{ t := .bool }], pre := fun x => x.2.2.1 = powD, f := fun _ => (true, ()) }
theorem h14 : Ok 14 sAwake := by
  refine mk (ctr := [(17, sStrength), (34, sPress), (41, sBestOpen), (46, sSame), (49, sNum), (67, sParseG), (72, sPair)]) ⟨h17, h34, h41, h46, h49, h67, h72, trivial⟩ (nt := 78) Tryz.func14 rfl rfl rfl rfl (by kernel_rfl) (by kernel_rfl) (fun _ => []) ?_
  rintro ⟨(b0 : Bool), (b1 : Bool), (pw : PowT.Den), (m : Int), _⟩ (hpw : pw = powD)
  have e1 : opErr pairA.1 pairA.2.1 pairA.2.2.1 (0, 0, 500, ()) = 0 := ex_p1
  have e2 : fSame (prC (openR pairA.1 pairA.2.1 pairA.2.2.1 (0, 0, 500, ()))) (cpxI 3250000 0) = true := by
    rw [show openR pairA.1 pairA.2.1 pairA.2.2.1 (0, 0, 500, ()) = openR 34000 34000 [((0, 0, 0, ()), 1000, 0, ()), ((0, 0, 100, ()), 500, 400, ())] (0, 0, 500, ()) from rfl, ex_p4]
    simp [fSame]
  have e3 : (strR (0, 0, 0, ()) (300, 400, 0, ())).2.1 = 0 := by rw [ex_s]
  have e4 : ((I64).cons ((I64).cons Ty.nil)).beq ((strR (0, 0, 0, ()) (300, 400, 0, ())).1.1, (strR (0, 0, 0, ()) (300, 400, 0, ())).1.2.1, ()) (2000, 2000, ()) = true := by rw [ex_s]; rfl
  have e5 : (chain (List.replicate 2 (I64))).beq (2, 1, ()) (2, 1, ()) = true := rfl
  have e6 : (pgR { data := #[49, 48, 48, 48, 32, 48, 59, 53, 48, 48, 32, 52, 48, 48] }).2.1 = 0 := by decide +kernel
  have e7 : (pgR { data := #[49, 48, 48, 48, 32, 48, 59, 53, 48, 48, 32, 52, 48, 48] }).1.length = 2 := by decide +kernel
  have e8 : (chain (List.replicate 2 (I64))).beq (List.getD (pgR { data := #[49, 48, 48, 48, 32, 48, 59, 53, 48, 48, 32, 52, 48, 48] }).1 (Int.toNat 1) PairT.dflt) (500, 400, ()) = true := by decide +kernel
  repeat' (intro hzz; (try (rename Two => hq; cases hq)); (try dsimp only at hzz); (try simp only [resTy, argTy, eqD, inR, big, wantOf, zB] at hzz); (try simp only [resTy, argTy, eqD, inR, big, wantOf, zB, ex_b] at hzz); (try (revert hzz; intro _)))
  all_goals try (rename Unit => hq; clear hq)
  all_goals try ((with_reducible refine Held.mk ?_); (with_reducible (first | refine Frz.mk ?_ | refine And.intro (Frz.mk ?_) ?_ | refine And.intro ?_ (Frz.mk ?_))); repeat' first | exact True.intro | (change _ = _; with_reducible rfl) | refine And.intro ?_ ?_ | (with_reducible refine Frz.mk ?_))
  all_goals try (refine Held.mk ?_; (try dsimp only at *); (try simp only [resTy, argTy, eqD, inR, big, wantOf, zB] at *); (try simp only [resTy, argTy, eqD, inR, big, wantOf, zB, ex_b] at *))
  · show ((2 : Nat) : Int) ≤ 4611686018427387904; decide
  · exact fun _ => ex_ok.2.1
  · exact ⟨by decide, hpw⟩
  · rw [e7]; decide
  · exact e8
  · rename_i h; exact absurd (congrArg Int.ofNat e7) h
  · rename_i h; exact absurd e6 h
  · rename_i h; exact absurd (e5.symm.trans h) (by decide)
  · rename_i h; exact absurd trivial h
  · rename_i h; exact absurd (e4.symm.trans h) (by decide)
  · rename_i h; exact absurd e3 h
  · rename_i h; exact absurd (e2.symm.trans h) (by decide)
  · rename_i h; exact absurd e1 h
end Go.Eng.Ar

namespace Go.Eng.Ar
open Go.Eng Go.Proofs
set_option linter.all false
set_option maxRecDepth 100000
set_option maxHeartbeats 8000000
theorem fs23 : Tryz.prog.fieldsOf 23 = #[⟨"X", 3, 0, false, "", "", 0⟩, ⟨"Y", 3, 1, false, "", "", 8⟩, ⟨"Z", 3, 2, false, "", "", 16⟩] := by kernel_rfl
theorem eqP (w : World) (d : Nat) (x1 x2 x3 y1 y2 y3 : Int) : (Op.equalIn (d + 2) 23 (.agg #[.int .i64 x1, .int .i64 x2, .int .i64 x3]) (.agg #[.int .i64 y1, .int .i64 y2, .int .i64 y3])).run Tryz.prog w = .ok (decide (x1 = y1) && (decide (x2 = y2) && decide (x3 = y3))) w := by
  rw [run_equalIn_struct w (d + 1) 23 _ _ (by rw [Tryz.underlying23, fs23]) Tryz.stoodInHeld23, fs23]
  rw [eqF_int w d _ _ "X" "" "" 0 0 false _ (by decide) (x := x1) (y := y1) rfl rfl, eqF_int w d _ _ "Y" "" "" 1 8 false _ (by decide) (x := x2) (y := y2) rfl rfl, eqF_int w d _ _ "Z" "" "" 2 16 false _ (by decide) (x := x3) (y := y3) rfl rfl]
  simp only [Op.eqFields, Sem.run_pure]
  by_cases e1 : x1 = y1 <;> by_cases e2 : x2 = y2 <;> by_cases e3 : x3 = y3 <;> simp [e1, e2, e3]
theorem fs53 : Tryz.prog.fieldsOf 53 = #[⟨"At", 23, 0, false, "", "", 0⟩, ⟨"Gain", 3, 3, false, "", "", 24⟩, ⟨"Delay", 3, 4, false, "", "", 32⟩] := by kernel_rfl
theorem eq53 : EqOk Tryz.prog 53 SpkT := by
  refine eqOf Tryz.eqGuardType53 fun w V x y l m hx hy => ?_
  obtain ⟨p1, p2, rfl, ⟨l1, l2, rfl, h1, l3, l4, rfl, h2, l5, l6, rfl, h3, h4⟩, l7, l8, rfl, h5, l9, l10, rfl, h6, h7⟩ := hx
  obtain ⟨q1, q2, rfl, ⟨m1, m2, rfl, g1, m3, m4, rfl, g2, m5, m6, rfl, g3, g4⟩, m7, m8, rfl, g5, m9, m10, rfl, g6, g7⟩ := hy
  obtain ⟨⟨x1, x2, x3, u⟩, x4, x5, u2⟩ := x
  obtain ⟨⟨y1, y2, y3, v⟩, y4, y5, v2⟩ := y
  subst h1 h2 h3 h4 h5 h6 h7 g1 g2 g3 g4 g5 g6 g7
  rw [run_equalIn_struct w 9999 53 _ _ (by rw [Tryz.underlying53, fs53]) Tryz.stoodInHeld53, fs53]
  have pp : ∀ (z1 z2 z3 z4 z5 : Int), (part 23 #[.int .i64 z1, .int .i64 z2, .int .i64 z3, .int .i64 z4, .int .i64 z5] 0).run Tryz.prog w = .ok (.agg #[.int .i64 z1, .int .i64 z2, .int .i64 z3]) w := fun z1 z2 z3 z4 z5 => by
    obtain ⟨i, hi⟩ : ∃ i, TIOk Tryz.prog 23 i ∧ i.kind.isAgg = true ∧ i.size = 3 := ⟨_, row23, rfl, rfl⟩
    rw [run_part hi.1, if_pos hi.2.1, hi.2.2]; rfl
  show (Op.eqFields 9999 #[.int .i64 x1, .int .i64 x2, .int .i64 x3, .int .i64 x4, .int .i64 x5] #[.int .i64 y1, .int .i64 y2, .int .i64 y3, .int .i64 y4, .int .i64 y5] [⟨"At", 23, 0, false, "", "", 0⟩, ⟨"Gain", 3, 3, false, "", "", 24⟩, ⟨"Delay", 3, 4, false, "", "", 32⟩]).run Tryz.prog w = _
  rw [Op.eqFields]
  rw [if_pos (show "At" ≠ "_" by decide)]
  simp only [Sem.run_bind, pp, Result.andThen_ok]
  rw [show (9999 : Nat) = 9997 + 2 from rfl, eqP w 9997 x1 x2 x3 y1 y2 y3]
  simp only [Result.andThen_ok]
  by_cases e : x1 = y1 ∧ x2 = y2 ∧ x3 = y3
  · obtain ⟨rfl, rfl, rfl⟩ := e
    simp only [decide_true, Bool.and_self, Bool.not_true, Bool.false_eq_true, if_false]
    rw [eqF_int w 9998 _ _ "Gain" "" "" 3 24 false _ (by decide) (x := x4) (y := y4) rfl rfl, eqF_int w 9998 _ _ "Delay" "" "" 4 32 false _ (by decide) (x := x5) (y := y5) rfl rfl]
    simp only [Ty.beq, Op.eqFields, Sem.run_pure, Bool.and_true]
    by_cases e1 : x4 = y4 <;> by_cases e2 : x5 = y5 <;> simp [e1, e2]
  · have h1 : (decide (x1 = y1) && (decide (x2 = y2) && decide (x3 = y3))) = false := by
      by_cases e1 : x1 = y1 <;> by_cases e2 : x2 = y2 <;> by_cases e3 : x3 = y3 <;> simp_all
    rw [h1]
    simp only [Bool.not_false, if_true, Sem.run_pure]
    have : SpkT.beq ((x1, x2, x3, u), x4, x5, u2) ((y1, y2, y3, v), y4, y5, v2) = false := by
      show ((decide (x1 = y1) && (decide (x2 = y2) && (decide (x3 = y3) && true))) && (decide (x4 = y4) && (decide (x5 = y5) && true))) = false
      rw [Bool.and_true, h1]; rfl
    rw [this]
theorem eqs3 : ∀ t ∈ ([28, 82, 53] : List Nat), ∀ ty, tyOf tt 20 t = some ty → EqOk Tryz.prog t ty := by
  intro t ht ty h
  have h53 : tyOf tt 20 53 = some SpkT := by kernel_rfl
  by_cases e : t = 53
  · subst e; rw [h53] at h; cases h; exact eq53
  · exact eqsOk t (by simp only [List.mem_cons, List.not_mem_nil, or_false] at ht ⊢; rcases ht with h | h | h <;> simp_all) ty h
@[reducible] def cfgE (X : Xt) (ctr : List (Nat × Spec)) (nt : Nat) : Cfg := { tt := tt, eqs := [28, 82, 53], ctr := ctr, nt := nt, ext := [166], extb := [(110, .f64)], its := X.its, clos := X.clos, fuel := X.fuel }
theorem cfgEOk {X : Xt} (hX : Its X.its) {ctr : List (Nat × Spec)} {nt : Nat} (h : All ctr) : CfgOk Tryz.prog OB (cfgE X ctr nt) where
  tbl := tbl
  eqs := eqs3
  ctr := (cfgOk hX h (nt := nt)).ctr
  ext := (cfgOk hX h (nt := nt)).ext
  extb := extOk
  obs := fun t i hi => by simp [obOf] at hi
  its := fun g isp h => its_get hX h
theorem mkI {c : Cfg} (hC : ∀ nt, CfgOk Tryz.prog OB { c with nt := nt }) {f nt : Nat} {fn : Func} {sp : Spec} (hf : Tryz.prog.funcs[f]? = some fn) (hb : fn.body = some (bodyOf fn)) (hnt : fn.ntmps = nt) (hps : (Nat.ble sp.pats.length nt && Nat.ble nt 1000000) = true)
    (hob : Nat.ble (obCount sp.pats) 1 = true) (hd : dstOk nt (bodyOf fn) = true) (hn : (fn.name == "runtime.NumGoroutine") = false) (anns : (argTy sp.pats).Den → List (St → LoopAnn))
    (h : ∀ x, sp.pre x → bodyVC { c with nt := nt } (par { c with nt := nt }) (anns x) fn.results.toList (bodyOf fn) sp x) : Ok f sp :=
  ⟨fn_sound (hC nt) (par_sound mixed (hC nt)) hf hb hnt (Nat.le_of_ble_eq_true (Bool.and_eq_true _ _ ▸ hps : _ ∧ _).1) (Nat.le_of_ble_eq_true (Bool.and_eq_true _ _ ▸ hps : _ ∧ _).2) (Nat.le_of_ble_eq_true hob) rfl hd anns h, fn, hf, hn, by rw [hb]; rfl⟩
theorem one_ok {g : Nat} {I : InlF} {fn : Func} (hf : Tryz.prog.funcs[g]? = some fn) (hb : fn.body = some I.body) (hnt : fn.ntmps = I.nt) (hrs : fn.results.toList = I.rs) (hd : dstOk I.nt I.body = true) (hnr : noRange I.body = true) (hl : Nat.ble I.nt 1000000 = true)
    (hn : (fn.name == "runtime.NumGoroutine") = false) : InlOk Tryz.prog [(g, I)] := by
  intro g' I' h
  simp only [getInl] at h
  cases hb' : Nat.beq g g' with
  | false => rw [hb'] at h; cases h
  | true =>
    rw [hb'] at h
    have := Nat.eq_of_beq_eq_true hb'
    subst this
    simp only [cond_true, Option.some.injEq] at h
    subst h
    exact ⟨fn, hf, hb, hnt, hrs, hd, hnr, Nat.le_of_ble_eq_true hl, hn⟩
@[reducible] def sFew : Spec := { pats := [.dat ArrT], res := [{ t := .bool }], pre := fun _ => True, f := fun x => (decide (List.length (α := SpkD) x.1.2.2.1 ≤ 10), ()) }
theorem h24 : Ok 24 sFew := by
  refine mk (ctr := []) trivial (nt := 7) Tryz.func24 rfl rfl rfl rfl (by kernel_rfl) (by kernel_rfl) (fun _ => []) ?_
  rintro ⟨⟨(r : Int), (v : Int), (xs : List SpkD), _⟩, _⟩ _
  repeat' (intro hzz; (try (rename Two => hq; cases hq)); (try dsimp only at hzz); (try simp only [resTy, argTy, eqD, inR, big, wantOf, zB] at hzz); (try (revert hzz; intro _)))
  all_goals try (rename Unit => hq; clear hq)
  all_goals try ((with_reducible refine Held.mk ?_); (with_reducible (first | refine Frz.mk ?_ | refine And.intro (Frz.mk ?_) ?_ | refine And.intro ?_ (Frz.mk ?_))); repeat' first | exact True.intro | (change _ = _; with_reducible rfl) | refine And.intro ?_ ?_ | (with_reducible refine Frz.mk ?_))
  all_goals try (refine Held.mk ?_; (try dsimp only at *); (try simp only [resTy, argTy, eqD, inR, big, wantOf, zB] at *))
  all_goals (show decide ((xs.length : Int) ≤ 10) = decide (xs.length ≤ 10); congr 1; exact propext ⟨fun h => by omega, fun h => by omega⟩)
abbrev pTen (n : Nat) : Prop := n ≤ 1000
@[reducible] def sCopy : Spec := { pats := [.dat ArrT], res := [{ t := ArrT }], pre := fun x => pTen (List.length (α := SpkD) x.1.2.2.1), f := fun x => (x.1, ()) }
theorem h26 : Ok 26 sCopy := by
  refine mk (ctr := []) trivial (nt := 9) Tryz.func26 rfl rfl rfl rfl (by kernel_rfl) (by kernel_rfl) (fun _ => []) ?_
  rintro ⟨⟨(r : Int), (v : Int), (xs : List SpkD), _⟩, _⟩ (hp : xs.length ≤ 1000)
  repeat' (intro hzz; (try (rename Two => hq; cases hq)); (try dsimp only at hzz); (try simp only [resTy, argTy, eqD, inR, big, wantOf, zB] at hzz); (try (revert hzz; intro _)))
  all_goals try (rename Unit => hq; clear hq)
  all_goals try ((with_reducible refine Held.mk ?_); (with_reducible (first | refine Frz.mk ?_ | refine And.intro (Frz.mk ?_) ?_ | refine And.intro ?_ (Frz.mk ?_))); repeat' first | exact True.intro | (change _ = _; with_reducible rfl) | refine And.intro ?_ ?_ | (with_reducible refine Frz.mk ?_))
  all_goals try (refine Held.mk ?_; (try dsimp only at *); (try simp only [resTy, argTy, eqD, inR, big, wantOf, zB] at *))
  · show 0 + xs.length ≤ 2147483648; omega
  · rfl
theorem h91 : Ok 91 sSoundOf := by
  refine mk (ctr := []) trivial (nt := 8) Tryz.func91 rfl rfl rfl rfl (by kernel_rfl) (by kernel_rfl) (fun _ => []) ?_
  rintro ⟨⟨(r : Int), (v : Int), (xs : List SpkD), _⟩, _⟩ _
  repeat' (intro hzz; (try (rename Two => hq; cases hq)); (try dsimp only at hzz); (try simp only [resTy, argTy, eqD, inR, big, wantOf, zB] at hzz); (try (revert hzz; intro _)))
  all_goals try (rename Unit => hq; clear hq)
  all_goals try ((with_reducible refine Held.mk ?_); (with_reducible (first | refine Frz.mk ?_ | refine And.intro (Frz.mk ?_) ?_ | refine And.intro ?_ (Frz.mk ?_))); repeat' first | exact True.intro | (change _ = _; with_reducible rfl) | refine And.intro ?_ ?_ | (with_reducible refine Frz.mk ?_))
  all_goals try (refine Held.mk ?_; (try dsimp only at *); (try simp only [resTy, argTy, eqD, inR, big, wantOf, zB] at *))
  all_goals try omega
theorem pl_two {a b c : Int} (h : ¬ plErr a b c = 0) : plErr a b c = 2 := by
  unfold plErr at *; split at h
  · exact absurd rfl h
  · rename_i h1; rw [if_neg h1]
def chkAnnR (r v : Int) (xs : List SpkD) : LoopAnn := { σ := Nat, pat := fun k => [sI 5 k], inv := fun k => k ≤ xs.length ∧ chkGo xs (xs.length - k) k = chkA r v xs, meas := fun k => xs.length - k }
theorem h28 : Ok 28 sCheck := by
  refine mk (ctr := [(18, sPlace), (21, sSound), (91, sSoundOf), (92, sGains)]) ⟨h18, h21, h91, h92, trivial⟩ (nt := 46) Tryz.func28 rfl rfl rfl rfl (by kernel_rfl) (by kernel_rfl) (fun x => [fun _ => chkAnnR x.1.1 x.1.2.1 x.1.2.2.1]) ?_
  rintro ⟨⟨(r : Int), (v : Int), (xs : List SpkD), ⟨⟩⟩, ⟨⟩⟩ (hp : pLen xs.length)
  have hp' := hp.out
  have hh : ∀ e, hdErr r v xs.length = e → e ≠ 0 → chkA r v xs = (0, e) := fun e h1 h2 => by
    unfold chkA; rw [if_neg (by rw [h1]; exact h2), h1]
  repeat' (intro hzz; (try (rename Two => hq; cases hq)); (try dsimp only at hzz); (try simp only [resTy, argTy, eqD, inR, big, wantOf, zB] at hzz); (try simp only [resTy, argTy, eqD, inR, big, wantOf, zB, Int.toNat_natCast] at hzz); (try (revert hzz; intro _)))
  all_goals try (rename Unit => hq; clear hq)
  all_goals try ((with_reducible refine Held.mk ?_); (with_reducible (first | refine Frz.mk ?_ | refine And.intro (Frz.mk ?_) ?_ | refine And.intro ?_ (Frz.mk ?_))); repeat' first | exact True.intro | (change _ = _; with_reducible rfl) | refine And.intro ?_ ?_ | (with_reducible refine Frz.mk ?_))
  all_goals try (refine Held.mk ?_; (try dsimp only at *); (try simp only [resTy, argTy, eqD, inR, big, wantOf, zB] at *); (try simp only [resTy, argTy, eqD, inR, big, wantOf, zB, Int.toNat_natCast] at *))
  all_goals try omega
  · rename_i h
    rw [hh _ (if_neg h) h]; exact ⟨rfl, rfl⟩
  · rename_i h1 h2
    rw [hh 10 ((if_pos h1).trans (if_pos (by omega))) (by decide)]; exact ⟨rfl, rfl⟩
  · rename_i h1 h2 h3
    rw [hh 8 ((if_pos h1).trans ((if_neg (by omega)).trans (if_neg (by omega)))) (by decide)]; exact ⟨rfl, rfl⟩
  · rename_i h1 h2 h3
    refine GHeld.mk ?_
    refine Exists.intro (0 : Nat) ?_
    refine And.intro (Leaf.mk ?_) ?_
    · repeat' first | exact True.intro | refine And.intro ?_ ?_
      all_goals try ((change _ = _ <;> try dsimp only) <;> try with_reducible rfl)
      all_goals try omega
      all_goals (rfl)
    have e : hdErr r v xs.length = 0 := (if_pos h1).trans ((if_neg (by omega)).trans (if_pos (by omega)))
    exact ⟨Nat.zero_le _, by unfold chkA; rw [if_pos e]; rfl⟩
  · rename_i h1 h2 h3 k hk hlt h4 h5
    have e := hk.2
    have hs : spErr (xs.getD k spkZ) = 2 := (if_pos h4).trans (gn_two h5)
    rw [chkGo_step (by omega), if_neg (by rw [hs]; decide), hs] at e
    rw [← e]; exact ⟨rfl, rfl⟩
  · rename_i h1 h2 h3 k hk hlt h4 h5
    have e := hk.2
    have hs : spErr (xs.getD k spkZ) = 0 := (if_pos h4).trans h5
    rw [chkGo_step (by omega), if_pos hs] at e
    refine GHeld.mk ?_
    refine Exists.intro (k + 1) ?_
    refine And.intro (Leaf.mk ?_) ?_
    · repeat' first | exact True.intro | refine And.intro ?_ ?_
      all_goals try ((change _ = _ <;> try dsimp only) <;> try with_reducible rfl)
      all_goals try omega
      all_goals (rfl)
    exact ⟨⟨(show k + 1 ≤ xs.length by omega), e⟩, (show xs.length - (k + 1) < xs.length - k by omega)⟩
  · rename_i h1 h2 h3 k hk hlt h4
    have e := hk.2
    have hs : spErr (xs.getD k spkZ) = 2 := (if_neg h4).trans (pl_two h4)
    rw [chkGo_step (by omega), if_neg (by rw [hs]; decide), hs] at e
    rw [← e]; exact ⟨rfl, rfl⟩
  · rename_i h1 h2 h3 k hk hlt
    have e := hk.2
    rw [show xs.length - k = 0 by omega] at e
    rw [← e]; exact ⟨rfl, rfl⟩
/-! ### Arrays compared -/
def sameL (xs ys : List SpkD) : Nat → Nat → Bool
  | 0, _ => true
  | k + 1, i => SpkT.beq (spkN xs i) (spkN ys i) && sameL xs ys k (i + 1)
def sameA (x y : ArrD) : Bool := decide (x.1 = y.1) && (decide (x.2.1 = y.2.1) && (decide (List.length (α := SpkD) x.2.2.1 = List.length (α := SpkD) y.2.2.1) && sameL x.2.2.1 y.2.2.1 (List.length (α := SpkD) x.2.2.1) 0))
theorem sameL_step {xs ys : List SpkD} {i : Nat} (h : i < xs.length) : sameL xs ys (xs.length - i) i = (SpkT.beq (spkN xs i) (spkN ys i) && sameL xs ys (xs.length - (i + 1)) (i + 1)) := by
  obtain ⟨k, hk⟩ : ∃ k, xs.length - i = k + 1 := ⟨xs.length - i - 1, by omega⟩
  rw [hk, show xs.length - (i + 1) = k by omega]; rfl
def sameAnn (xs ys : List SpkD) : LoopAnn := { σ := Nat, pat := fun k => [sI 5 k], inv := fun k => k ≤ xs.length ∧ sameL xs ys (xs.length - k) k = sameL xs ys xs.length 0, meas := fun k => xs.length - k }
@[reducible] def sSameA : Spec := { pats := [.dat ArrT, .dat ArrT], res := [{ t := .bool }], pre := fun x => pLen (List.length (α := SpkD) x.1.2.2.1) ∧ pLen (List.length (α := SpkD) x.2.1.2.2.1), f := fun x => (sameA x.1 x.2.1, ()) }
theorem h30 : Ok 30 sSameA := by
  refine mkI (sp := sSameA) (c := cfgE {} [] 0) (fun nt => cfgEOk (X := {}) True.intro (ctr := []) trivial) (nt := 45) Tryz.func30 rfl rfl rfl rfl (by kernel_rfl) (by kernel_rfl) (fun x => [fun _ => sameAnn x.1.2.2.1 x.2.1.2.2.1]) ?_
  rintro ⟨⟨(r : Int), (v : Int), (xs : List SpkD), ⟨⟩⟩, ⟨(r2 : Int), (v2 : Int), (ys : List SpkD), ⟨⟩⟩, ⟨⟩⟩ ⟨(hp : pLen xs.length), (hq : pLen ys.length)⟩
  have hp' := hp.out
  have hq' := hq.out
  have hX : r = r2 → v = v2 → (xs.length : Int) = ys.length → sameA (r, v, xs, ()) (r2, v2, ys, ()) = sameL xs ys xs.length 0 := fun h1 h2 h3 => by
    show (decide (r = r2) && (decide (v = v2) && (decide (xs.length = ys.length) && sameL xs ys xs.length 0))) = _
    rw [decide_eq_true h1, decide_eq_true h2, decide_eq_true (show xs.length = ys.length by omega)]; rfl
  repeat' (intro hzz; (try (rename Two => hq; cases hq)); (try dsimp only at hzz); (try simp only [resTy, argTy, eqD, inR, big, wantOf, zB] at hzz); (try simp only [resTy, argTy, eqD, inR, big, wantOf, zB, Int.toNat_natCast] at hzz); (try (revert hzz; intro _)))
  all_goals try (rename Unit => hq; clear hq)
  all_goals try ((with_reducible refine Held.mk ?_); (with_reducible (first | refine Frz.mk ?_ | refine And.intro (Frz.mk ?_) ?_ | refine And.intro ?_ (Frz.mk ?_))); repeat' first | exact True.intro | (change _ = _; with_reducible rfl) | refine And.intro ?_ ?_ | (with_reducible refine Frz.mk ?_))
  all_goals try (refine Held.mk ?_; (try dsimp only at *); (try simp only [resTy, argTy, eqD, inR, big, wantOf, zB] at *); (try simp only [resTy, argTy, eqD, inR, big, wantOf, zB, Int.toNat_natCast] at *))
  · rename_i h1 h2 h3
    show false = (decide (r = r2) && (decide (v = v2) && (decide (xs.length = ys.length) && sameL xs ys xs.length 0)))
    rw [decide_eq_false (show ¬ xs.length = ys.length by omega), Bool.false_and, Bool.and_false, Bool.and_false]
  · 
    refine GHeld.mk ?_
    refine Exists.intro (0 : Nat) ?_
    refine And.intro (Leaf.mk ?_) ?_
    · repeat' first | exact True.intro | refine And.intro ?_ ?_
      all_goals try ((change _ = _ <;> try dsimp only) <;> try with_reducible rfl)
      all_goals try omega
      all_goals (rfl)
    exact ⟨Nat.zero_le _, rfl⟩
  · rename_i h1 h2 h3 k hk hlt; omega
  · rename_i h1 h2 h3 k hk hlt; omega
  · rename_i h1 h2 h3 k hk hlt h
    have e := hk.2
    rw [sameL_step (by omega), show SpkT.beq (spkN xs k) (spkN ys k) = false from h] at e
    exact e.trans (hX h1 h2 h3).symm
  · rename_i h1 h2 h3 k hk hlt h
    have := hp.out
    omega
  · rename_i h1 h2 h3 k hk hlt h
    have e := hk.2
    rw [sameL_step (by omega), show SpkT.beq (spkN xs k) (spkN ys k) = true from h] at e
    refine GHeld.mk ?_
    refine Exists.intro (k + 1) ?_
    refine And.intro (Leaf.mk ?_) ?_
    · repeat' first | exact True.intro | refine And.intro ?_ ?_
      all_goals try ((change _ = _ <;> try dsimp only) <;> try with_reducible rfl)
      all_goals try omega
      all_goals (rfl)
    exact ⟨⟨(show k + 1 ≤ xs.length by omega), e⟩, (show xs.length - (k + 1) < xs.length - k by omega)⟩
  · rename_i h1 h2 h3 k hk hlt
    have e := hk.2
    rw [show xs.length - k = 0 by omega] at e
    exact (hX h1 h2 h3).trans e.symm
  · rename_i h1 h2
    show false = (decide (r = r2) && (decide (v = v2) && (decide (xs.length = ys.length) && sameL xs ys xs.length 0)))
    rw [decide_eq_false h2, Bool.false_and, Bool.and_false]
  · rename_i h1
    show false = (decide (r = r2) && (decide (v = v2) && (decide (xs.length = ys.length) && sameL xs ys xs.length 0)))
    rw [decide_eq_false h1, Bool.false_and]
end Go.Eng.Ar

namespace Go.Eng.Ar
open Go.Eng Go.Proofs
set_option linter.all false
set_option maxRecDepth 100000
set_option maxHeartbeats 8000000
abbrev minI (a b : Int) : Int := if b < a then b else a
abbrev maxI (a b : Int) : Int := if a < b then b else a
theorem minI_spec (a b : Int) : minI a b ≤ a ∧ minI a b ≤ b ∧ (minI a b = a ∨ minI a b = b) := by unfold minI; split <;> omega
theorem maxI_spec (a b : Int) : a ≤ maxI a b ∧ b ≤ maxI a b ∧ (maxI a b = a ∨ maxI a b = b) := by unfold maxI; split <;> omega
theorem minI_self (a : Int) : minI a a = a := by unfold minI; split <;> rfl
theorem maxI_self (a : Int) : maxI a a = a := by unfold maxI; split <;> rfl
def mnG (f : Nat → Int) : Nat → Int
  | 0 => f 0
  | k + 1 => minI (mnG f k) (f (k + 1))
def mxG (f : Nat → Int) : Nat → Int
  | 0 => f 0
  | k + 1 => maxI (mxG f k) (f (k + 1))
@[irreducible] def mnS (f : Nat → Int) (k : Nat) : Int := match k with | 0 => 0 | k + 1 => mnG f k
@[irreducible] def mxS (f : Nat → Int) (k : Nat) : Int := match k with | 0 => 0 | k + 1 => mxG f k
theorem mnS_0 (f : Nat → Int) : mnS f 0 = 0 := by unfold mnS; rfl
theorem mxS_0 (f : Nat → Int) : mxS f 0 = 0 := by unfold mxS; rfl
theorem mnS_g (f : Nat → Int) (k : Nat) : mnS f (k + 1) = mnG f k := by unfold mnS; rfl
theorem mxS_g (f : Nat → Int) (k : Nat) : mxS f (k + 1) = mxG f k := by unfold mxS; rfl
theorem mnS_1 (f : Nat → Int) : mnS f 1 = f 0 := mnS_g f 0
theorem mxS_1 (f : Nat → Int) : mxS f 1 = f 0 := mxS_g f 0
theorem mnS_s (f : Nat → Int) {k : Nat} (h : 0 < k) : mnS f (k + 1) = minI (mnS f k) (f k) := by
  obtain ⟨j, rfl⟩ : ∃ j, k = j + 1 := ⟨k - 1, by omega⟩
  rw [mnS_g, mnS_g]; rfl
theorem mxS_s (f : Nat → Int) {k : Nat} (h : 0 < k) : mxS f (k + 1) = maxI (mxS f k) (f k) := by
  obtain ⟨j, rfl⟩ : ∃ j, k = j + 1 := ⟨k - 1, by omega⟩
  rw [mxS_g, mxS_g]; rfl
theorem mn_bd {f : Nat → Int} {B : Int} (h : ∀ i, -B ≤ f i ∧ f i ≤ B) : ∀ k, (-B ≤ mnG f k ∧ mnG f k ≤ B) ∧ (-B ≤ mxG f k ∧ mxG f k ≤ B) ∧ mnG f k ≤ mxG f k ∧ ∀ j, j ≤ k → mnG f k ≤ f j ∧ f j ≤ mxG f k
  | 0 => ⟨h 0, h 0, Int.le_refl _, fun j hj => by obtain rfl : j = 0 := by omega
                                                  exact ⟨Int.le_refl _, Int.le_refl _⟩⟩
  | k + 1 => by
    obtain ⟨h1, h2, h3, h4⟩ := mn_bd h k
    have hk := h (k + 1)
    have q1 := minI_spec (mnG f k) (f (k + 1))
    have q2 := maxI_spec (mxG f k) (f (k + 1))
    have e1 : mnG f (k + 1) = minI (mnG f k) (f (k + 1)) := rfl
    have e2 : mxG f (k + 1) = maxI (mxG f k) (f (k + 1)) := rfl
    rw [e1, e2]
    refine ⟨by omega, by omega, by omega, fun j hj => ?_⟩
    by_cases e : j = k + 1
    · subst e; omega
    · have := h4 j (by omega); omega
def rv (x : RayD) (j : Nat) : Int × Int := shr (x.2.2.1.1 + ((j / 2 : Nat) : Int) + x.1.2.2.1) (x.1.2.1 * if j % 2 = 0 then x.2.1.1 else x.2.1.2.1)
def rvR (x : RayD) (j : Nat) : Int := (rv x j).1
def rvI (x : RayD) (j : Nat) : Int := (rv x j).2
def nEn (x : RayD) : Nat := Int.toNat ((x.2.2.1.2.1 : Int) - x.2.2.1.1 + 1)
theorem rv_0 (x : RayD) (k : Nat) : rv x (2 * k) = shr (x.2.2.1.1 + (k : Int) + x.1.2.2.1) (x.1.2.1 * x.2.1.1) := by
  unfold rv; rw [if_pos (by omega), show 2 * k / 2 = k by omega]
theorem rv_1 (x : RayD) (k : Nat) : rv x (2 * k + 1) = shr (x.2.2.1.1 + (k : Int) + x.1.2.2.1) (x.1.2.1 * x.2.1.2.1) := by
  unfold rv; rw [if_neg (by omega), show (2 * k + 1) / 2 = k by omega]
abbrev enPat (x : RayD) (j : Nat) : List Fact := [sB 4 (decide (0 < j)), cI 3 0 (mnS (rvR x) j), cI 3 1 (mxS (rvR x) j), cI 3 2 (mnS (rvI x) j), cI 3 3 (mxS (rvI x) j)]
def enAnn (x : RayD) : LoopAnn := { σ := Nat, pat := fun k => sI 5 (x.2.2.1.1 + (k : Int)) :: enPat x (2 * k), inv := fun k => k ≤ nEn x, meas := fun k => nEn x - k }
def enAnn2 (x : RayD) (n : Int) : LoopAnn := { σ := Nat, pat := fun s => sI 35 s :: enPat x (2 * (n - x.2.2.1.1).toNat + s), inv := fun s => s ≤ 2, meas := fun s => 2 - s }
abbrev EndD : Type := EndsT.Den
def endR (x : RayD) : EndD := ((mnS (rvR x) (2 * nEn x), mxS (rvR x) (2 * nEn x), ()), (mnS (rvI x) (2 * nEn x), mxS (rvI x) (2 * nEn x), ()), ())
@[reducible] def sEnds : Spec := { pats := [.dat RayT], res := [{ t := EndsT }], pre := fun x => goodRay x.1, f := fun x => (endR x.1, ()) }
theorem h111 : Ok 111 sEnds := by
  refine mkX (X := xF4) (hX := xF4_ok) (ctr := [(98, sShare)]) ⟨h98, trivial⟩ (nt := 71) Tryz.func111 rfl rfl rfl rfl (by kernel_rfl) (by kernel_rfl) (fun x => [fun _ => enAnn x.1, fun st => withI 5 st fun n => enAnn2 x.1 n]) ?_
  rintro ⟨⟨⟨(p : PlaceD), (g : Int), (d : Int), ⟨⟩⟩, ⟨(sl : Int), (su : Int), ⟨⟩⟩, ⟨(nl : Int), (nu : Int), ⟨⟩⟩, ⟨⟩⟩, ⟨⟩⟩ ⟨(hg : 0 ≤ g ∧ g ≤ 1000), (hd : 0 ≤ d ∧ d ≤ 10000), (hs : 0 ≤ sl ∧ sl ≤ 100000), (hu : sl ≤ su ∧ su ≤ 100000), (hn : 0 ≤ nl ∧ nl ≤ 1000000000), (hm : nl ≤ nu ∧ nu ≤ 1000000000)⟩
  have hv : ∀ k s : Nat, s < 2 → rv ((p, g, d, ()), (sl, su, ()), (nl, nu, ()), ()) (2 * (nl + (k : Int) - nl).toNat + s) = shr (nl + (k : Int) + d) ((chL (I64) 2 (g * sl, g * su, ())).getD s (I64).dflt) := fun k s h => by
    rw [show (nl + (k : Int) - nl).toNat = k by omega]
    match s, h with
    | 0, _ => exact rv_0 _ k
    | 1, _ => exact rv_1 _ k
  have hm1 := mul_le hg (show 0 ≤ sl ∧ sl ≤ 100000 from hs)
  have hm2 := mul_le hg (show 0 ≤ su ∧ su ≤ 100000 by omega)
  have hd2 : ∀ s : Nat, s < 2 → 0 ≤ (chL (I64) 2 (g * sl, g * su, ())).getD s (I64).dflt ∧ (chL (I64) 2 (g * sl, g * su, ())).getD s (I64).dflt ≤ (100000000 : Int) := fun s h => by
    match s, h with
    | 0, _ => exact hm1
    | 1, _ => exact hm2
  repeat' (intro hzz; (try (rename Two => hq; cases hq)); (try dsimp only at hzz); (try simp only [resTy, argTy, eqD, inR, big, wantOf, zB] at hzz); (try simp only [resTy, argTy, eqD, inR, big, wantOf, zB, Int.toNat_natCast] at hzz); (try (revert hzz; intro _)))
  all_goals try (rename Unit => hq; clear hq)
  all_goals try ((with_reducible refine Held.mk ?_); (with_reducible (first | refine Frz.mk ?_ | refine And.intro (Frz.mk ?_) ?_ | refine And.intro ?_ (Frz.mk ?_))); repeat' first | exact True.intro | (change _ = _; with_reducible rfl) | refine And.intro ?_ ?_ | (with_reducible refine Frz.mk ?_))
  all_goals try (refine Held.mk ?_; (try dsimp only at *); (try simp only [resTy, argTy, eqD, inR, big, wantOf, zB] at *); (try simp only [resTy, argTy, eqD, inR, big, wantOf, zB, Int.toNat_natCast] at *))
  all_goals try omega
  · 
    refine GHeld.mk ?_
    refine Exists.intro (0 : Nat) ?_
    refine And.intro (Leaf.mk ?_) ?_
    · repeat' first | exact True.intro | refine And.intro ?_ ?_
      all_goals try ((change _ = _ <;> try dsimp only) <;> try with_reducible rfl)
      all_goals try omega
      all_goals (first | exact Int.add_zero _ | exact (Int.add_zero _).symm | exact (mnS_0 _) | exact (mxS_0 _) | exact (mnS_0 _).symm | exact (mxS_0 _).symm | rfl)
    exact Nat.zero_le _
  · rename_i k hk hle
    have e : 2 * (nl + (k : Int) - nl).toNat = 2 * k := by omega
    refine GHeld.mk ?_
    refine Exists.intro (0 : Nat) ?_
    refine And.intro (Leaf.mk ?_) ?_
    · repeat' first | exact True.intro | refine And.intro ?_ ?_
      all_goals try ((change _ = _ <;> try dsimp only) <;> try with_reducible rfl)
      all_goals try omega
      all_goals (first | rfl | (rw [Nat.add_zero, e]))
    exact Nat.zero_le _
  · rename_i k hk hle s hs2 hlt
    have := hd2 s (by omega)
    exact ⟨⟨by omega, by omega⟩, this.1, Int.le_trans this.2 (by decide)⟩
  · rename_i k hk hle s hs2 hlt _ hz _ _ _
    obtain rfl : k = 0 := by omega
    obtain rfl : s = 0 := by omega
    have e0 : (nl + ((0 : Nat) : Int) - nl).toNat = 0 := by omega
    have z1 := hv 0 0 (by decide)
    rw [e0] at z1
    have q1 : minI (rvR ((p, g, d, ()), (sl, su, ()), (nl, nu, ()), ()) 0) (rvR ((p, g, d, ()), (sl, su, ()), (nl, nu, ()), ()) 0) = mnS (rvR ((p, g, d, ()), (sl, su, ()), (nl, nu, ()), ())) (2 * (nl + ((0 : Nat) : Int) - nl).toNat + (0 + 1)) := by rw [e0, minI_self]; exact (mnS_1 _).symm
    have q2 : maxI (rvR ((p, g, d, ()), (sl, su, ()), (nl, nu, ()), ()) 0) (rvR ((p, g, d, ()), (sl, su, ()), (nl, nu, ()), ()) 0) = mxS (rvR ((p, g, d, ()), (sl, su, ()), (nl, nu, ()), ())) (2 * (nl + ((0 : Nat) : Int) - nl).toNat + (0 + 1)) := by rw [e0, maxI_self]; exact (mxS_1 _).symm
    have q3 : minI (rvI ((p, g, d, ()), (sl, su, ()), (nl, nu, ()), ()) 0) (rvI ((p, g, d, ()), (sl, su, ()), (nl, nu, ()), ()) 0) = mnS (rvI ((p, g, d, ()), (sl, su, ()), (nl, nu, ()), ())) (2 * (nl + ((0 : Nat) : Int) - nl).toNat + (0 + 1)) := by rw [e0, minI_self]; exact (mnS_1 _).symm
    have q4 : maxI (rvI ((p, g, d, ()), (sl, su, ()), (nl, nu, ()), ()) 0) (rvI ((p, g, d, ()), (sl, su, ()), (nl, nu, ()), ()) 0) = mxS (rvI ((p, g, d, ()), (sl, su, ()), (nl, nu, ()), ())) (2 * (nl + ((0 : Nat) : Int) - nl).toNat + (0 + 1)) := by rw [e0, maxI_self]; exact (mxS_1 _).symm
    have a1 : rvR ((p, g, d, ()), (sl, su, ()), (nl, nu, ()), ()) 0 = _ := congrArg Prod.fst z1
    have a2 : rvI ((p, g, d, ()), (sl, su, ()), (nl, nu, ()), ()) 0 = _ := congrArg Prod.snd z1
    rw [a1] at q1 q2
    rw [a2] at q3 q4
    refine GHeld.mk ?_
    refine Exists.intro (0 + 1 : Nat) ?_
    refine And.intro (Leaf.mk ?_) ?_
    · repeat' first | exact True.intro | refine And.intro ?_ ?_
      all_goals try ((change _ = _ <;> try dsimp only) <;> try with_reducible rfl)
      all_goals try omega
      all_goals (first | rfl | exact q1 | exact q2 | exact q3 | exact q4 | (rw [e0]; rfl))
    exact ⟨by decide, by decide⟩
  · rename_i k hk hle s hs2 hlt _ hz _ _ _
    have z1 := hv k s (by omega)
    have q1 := (mnS_s (rvR ((p, g, d, ()), (sl, su, ()), (nl, nu, ()), ())) hz).symm
    have q2 := (mxS_s (rvR ((p, g, d, ()), (sl, su, ()), (nl, nu, ()), ())) hz).symm
    have q3 := (mnS_s (rvI ((p, g, d, ()), (sl, su, ()), (nl, nu, ()), ())) hz).symm
    have q4 := (mxS_s (rvI ((p, g, d, ()), (sl, su, ()), (nl, nu, ()), ())) hz).symm
    have a1 : rvR ((p, g, d, ()), (sl, su, ()), (nl, nu, ()), ()) (2 * (nl + (k : Int) - nl).toNat + s) = _ := congrArg Prod.fst z1
    have a2 : rvI ((p, g, d, ()), (sl, su, ()), (nl, nu, ()), ()) (2 * (nl + (k : Int) - nl).toNat + s) = _ := congrArg Prod.snd z1
    rw [a1] at q1 q2
    rw [a2] at q3 q4
    refine GHeld.mk ?_
    refine Exists.intro (s + 1) ?_
    refine And.intro (Leaf.mk ?_) ?_
    · repeat' first | exact True.intro | refine And.intro ?_ ?_
      all_goals try ((change _ = _ <;> try dsimp only) <;> try with_reducible rfl)
      all_goals try omega
      all_goals (first | rfl | exact q1 | exact q2 | exact q3 | exact q4 | exact (decide_eq_true (Nat.lt_of_lt_of_le hz (Nat.le_succ _))).symm | exact decide_eq_true (Nat.lt_of_lt_of_le hz (Nat.le_succ _)))
    exact ⟨(show s + 1 ≤ 2 by omega), (show 2 - (s + 1) < 2 - s by omega)⟩
  · rename_i k hk hle s hs2 hlt
    obtain rfl : s = 2 := by omega
    have e : 2 * (nl + (k : Int) - nl).toNat + 2 = 2 * (k + 1) := by omega
    have e3 : nEn ((p, g, d, ()), (sl, su, ()), (nl, nu, ()), ()) = (nu - nl + 1).toNat := rfl
    refine GHeld.mk ?_
    refine Exists.intro (k + 1) ?_
    refine And.intro (Leaf.mk ?_) ?_
    · repeat' first | exact True.intro | refine And.intro ?_ ?_
      all_goals try ((change _ = _ <;> try dsimp only) <;> try with_reducible rfl)
      all_goals try omega
      all_goals (first | rfl | (rw [e]) | exact (Int.add_assoc _ _ _))
    rw [e3]
    exact ⟨(show k + 1 ≤ (nu - nl + 1).toNat by omega), (show (nu - nl + 1).toNat - (k + 1) < (nu - nl + 1).toNat - k by omega)⟩
  · rename_i k hk hlt
    have e3 : nEn ((p, g, d, ()), (sl, su, ()), (nl, nu, ()), ()) = (nu - nl + 1).toNat := rfl
    rw [e3] at hk
    have e4 : k = nEn ((p, g, d, ()), (sl, su, ()), (nl, nu, ()), ()) := by rw [e3]; omega
    rw [e4]
    exact ⟨⟨rfl, rfl⟩, rfl, rfl⟩
end Go.Eng.Ar

namespace Go.Eng.Ar
open Go.Eng Go.Proofs
set_option linter.all false
set_option maxRecDepth 100000
set_option maxHeartbeats 8000000
theorem rv_bd {x : RayD} (h : goodRay x) (j : Nat) : (-100000000 ≤ rvR x j ∧ rvR x j ≤ 100000000) ∧ (-100000000 ≤ rvI x j ∧ rvI x j ≤ 100000000) := by
  refine shr_bd ?_
  have h1 := mul_le h.g h.s
  have h2 := mul_le h.g (show 0 ≤ (x.2.1.2.1 : Int) ∧ (x.2.1.2.1 : Int) ≤ 100000 from ⟨Int.le_trans h.s.1 h.su.1, h.su.2⟩)
  split
  · exact h1
  · exact h2
theorem nEn_pos {x : RayD} (h : goodRay x) : ∃ k, 2 * nEn x = k + 1 := by
  obtain ⟨n, hn⟩ : ∃ n : Nat, nEn x = n + 1 := ⟨nEn x - 1, by
    have h1 : (x.2.2.1.1 : Int) ≤ (x.2.2.1.2.1 : Int) := h.nu.1
    have h2 : 0 < (x.2.2.1.2.1 : Int) - (x.2.2.1.1 : Int) + 1 := Int.lt_add_one_iff.2 (Int.sub_nonneg.2 h1)
    have h3 : 0 < nEn x := Int.lt_toNat.2 h2
    omega⟩
  exact ⟨2 * n + 1, by omega⟩
structure endBd (e : EndD) : Prop where
  a : -100000000 ≤ (e.1.1 : Int) ∧ (e.1.1 : Int) ≤ (e.1.2.1 : Int) ∧ (e.1.2.1 : Int) ≤ 100000000
  b : -100000000 ≤ (e.2.1.1 : Int) ∧ (e.2.1.1 : Int) ≤ (e.2.1.2.1 : Int) ∧ (e.2.1.2.1 : Int) ≤ 100000000
theorem endR_bd {x : RayD} (h : goodRay x) : endBd (endR x) := by
  obtain ⟨k, hk⟩ := nEn_pos h
  have h1 := mn_bd (f := rvR x) (B := 100000000) (fun i => (rv_bd h i).1) k
  have h2 := mn_bd (f := rvI x) (B := 100000000) (fun i => (rv_bd h i).2) k
  refine ⟨?_, ?_⟩
  · show -100000000 ≤ mnS (rvR x) (2 * nEn x) ∧ mnS (rvR x) (2 * nEn x) ≤ mxS (rvR x) (2 * nEn x) ∧ mxS (rvR x) (2 * nEn x) ≤ 100000000
    rw [hk, mnS_g, mxS_g]; omega
  · show -100000000 ≤ mnS (rvI x) (2 * nEn x) ∧ mnS (rvI x) (2 * nEn x) ≤ mxS (rvI x) (2 * nEn x) ∧ mxS (rvI x) (2 * nEn x) ≤ 100000000
    rw [hk, mnS_g, mxS_g]; omega
def e0 (L : List RayD) (k : Nat) : Int := sm (fun i => (endR (rayN L i)).1.1) k
def e1 (L : List RayD) (k : Nat) : Int := sm (fun i => (endR (rayN L i)).1.2.1) k
def e2 (L : List RayD) (k : Nat) : Int := sm (fun i => (endR (rayN L i)).2.1.1) k
def e3 (L : List RayD) (k : Nat) : Int := sm (fun i => (endR (rayN L i)).2.1.2.1) k
theorem sm_le2 {f g : Nat → Int} : ∀ k : Nat, (∀ i, i < k → f i ≤ g i) → sm f k ≤ sm g k
  | 0, _ => Int.le_refl _
  | k + 1, h => Int.add_le_add (sm_le2 k fun i hi => h i (by omega)) (h k (by omega))
theorem en_bd {L : List RayD} {k : Nat} (h : ∀ i, i < k → goodRay (rayN L i)) (hk : k ≤ 8) : (-800000000 ≤ e0 L k ∧ e0 L k ≤ e1 L k ∧ e1 L k ≤ 800000000) ∧ (-800000000 ≤ e2 L k ∧ e2 L k ≤ e3 L k ∧ e3 L k ≤ 800000000) := by
  have b := fun i hi => endR_bd (h i hi)
  have h0 := sm_le (f := fun i => (endR (rayN L i)).1.1) (B := 100000000) k fun i hi => ⟨(b i hi).a.1, Int.le_trans (b i hi).a.2.1 (b i hi).a.2.2⟩
  have h1 := sm_le (f := fun i => (endR (rayN L i)).1.2.1) (B := 100000000) k fun i hi => ⟨Int.le_trans (b i hi).a.1 (b i hi).a.2.1, (b i hi).a.2.2⟩
  have h2 := sm_le (f := fun i => (endR (rayN L i)).2.1.1) (B := 100000000) k fun i hi => ⟨(b i hi).b.1, Int.le_trans (b i hi).b.2.1 (b i hi).b.2.2⟩
  have h3 := sm_le (f := fun i => (endR (rayN L i)).2.1.2.1) (B := 100000000) k fun i hi => ⟨Int.le_trans (b i hi).b.1 (b i hi).b.2.1, (b i hi).b.2.2⟩
  have h4 : e0 L k ≤ e1 L k := sm_le2 k fun i hi => (b i hi).a.2.1
  have h5 : e2 L k ≤ e3 L k := sm_le2 k fun i hi => (b i hi).b.2.1
  refine ⟨⟨?_, h4, ?_⟩, ?_, h5, ?_⟩
  · have : -((k : Int) * 100000000) ≤ e0 L k := h0.1
    omega
  · have : e1 L k ≤ (k : Int) * 100000000 := h1.2
    omega
  · have : -((k : Int) * 100000000) ≤ e2 L k := h2.1
    omega
  · have : e3 L k ≤ (k : Int) * 100000000 := h3.2
    omega
def endT (L : List RayD) : EndD := ((e0 L L.length, e1 L L.length, ()), (e2 L L.length, e3 L L.length, ()), ())
def endC (o : List RayD × Int × Unit) : EndD := if o.2.1 = 0 then endT o.1 else ((0, 0, ()), (0, 0, ()), ())
@[reducible] def sEndsAt : Spec := { pats := [.dat ArrT, .dat PlaceT], res := [{ t := EndsT }, { t := I64 }], pre := fun x => pLen (List.length (α := SpkD) x.1.2.2.1), f := fun x => (endC (openR x.1.1 x.1.2.1 x.1.2.2.1 x.2.1), opErr x.1.1 x.1.2.1 x.1.2.2.1 x.2.1, ()) }
def eaAnn (l : List RayD) : LoopAnn := { σ := Nat, pat := fun k => [sI 25 k, cI 8 0 (e0 l k), cI 8 1 (e1 l k), cI 8 2 (e2 l k), cI 8 3 (e3 l k)], inv := fun k => k ≤ l.length, meas := fun k => l.length - k }
theorem h47 : Ok 47 sEndsAt := by
  refine mkX (X := xF4) (hX := xF4_ok) (ctr := [(93, sOpen), (111, sEnds)]) ⟨h93, h111, trivial⟩ (nt := 55) Tryz.func47 rfl rfl rfl rfl (by kernel_rfl) (by kernel_rfl) (fun x => [fun _ => eaAnn (openR x.1.1 x.1.2.1 x.1.2.2.1 x.2.1).1]) ?_
  rintro ⟨⟨(r : Int), (v : Int), (xs : List SpkD), ⟨⟩⟩, ⟨(pa : Int), (pb : Int), (pc : Int), ⟨⟩⟩, ⟨⟩⟩ (hp : pLen xs.length)
  obtain ⟨L, e, he, hl, hg, hz⟩ := open_good r v xs (pa, pb, pc, ())
  have hb := fun (k : Nat) (hk : k ≤ L.length) => en_bd (L := L) (k := k) (fun i hi => hg i (by omega)) (by omega)
  repeat' (intro hzz; (try (rename Two => hq; cases hq)); (try dsimp only at hzz); (try simp only [resTy, argTy, eqD, inR, big, wantOf, zB] at hzz); (try simp only [resTy, argTy, eqD, inR, big, wantOf, zB, he, pLen, Int.toNat_natCast] at hzz); (try (revert hzz; intro _)))
  all_goals try (rename Unit => hq; clear hq)
  all_goals try ((with_reducible refine Held.mk ?_); (with_reducible (first | refine Frz.mk ?_ | refine And.intro (Frz.mk ?_) ?_ | refine And.intro ?_ (Frz.mk ?_))); repeat' first | exact True.intro | (change _ = _; with_reducible rfl) | refine And.intro ?_ ?_ | (with_reducible refine Frz.mk ?_))
  all_goals try (refine Held.mk ?_; (try dsimp only at *); (try simp only [resTy, argTy, eqD, inR, big, wantOf, zB] at *); (try simp only [resTy, argTy, eqD, inR, big, wantOf, zB, he, pLen, Int.toNat_natCast] at *))
  all_goals try omega
  all_goals try simp only [he, Int.toNat_natCast]
  · rename_i h
    have q : endC (L, e, ()) = ((0, 0, ()), (0, 0, ()), ()) := if_neg h
    rw [q]; exact ⟨⟨⟨rfl, rfl⟩, rfl, rfl⟩, hz⟩
  · rename_i h
    refine GHeld.mk ?_
    refine Exists.intro (0 : Nat) ?_
    refine And.intro (Leaf.mk ?_) ?_
    · repeat' first | exact True.intro | refine And.intro ?_ ?_
      all_goals try ((change _ = _ <;> try dsimp only) <;> try with_reducible rfl)
      all_goals try omega
      all_goals (first | rfl | exact e)
    exact Nat.zero_le _
  · rename_i k hk hlt
    exact hg k (by omega)
  · rename_i k hk hlt _
    have := (hb (k + 1) (by omega)).1
    exact ⟨Int.le_trans (by decide) this.1, Int.le_trans (Int.le_trans this.2.1 this.2.2) (by decide)⟩
  · rename_i k hk hlt _
    have := (hb (k + 1) (by omega)).1
    exact ⟨Int.le_trans (by decide) (Int.le_trans this.1 this.2.1), Int.le_trans this.2.2 (by decide)⟩
  · rename_i k hk hlt _ _
    have := (hb (k + 1) (by omega)).2
    exact ⟨Int.le_trans (by decide) this.1, Int.le_trans (Int.le_trans this.2.1 this.2.2) (by decide)⟩
  · rename_i k hk hlt _ _
    have := (hb (k + 1) (by omega)).2
    exact ⟨Int.le_trans (by decide) (Int.le_trans this.1 this.2.1), Int.le_trans this.2.2 (by decide)⟩
  · rename_i k hk hlt _ _ _
    refine GHeld.mk ?_
    refine Exists.intro (k + 1) ?_
    refine And.intro (Leaf.mk ?_) ?_
    · repeat' first | exact True.intro | refine And.intro ?_ ?_
      all_goals try ((change _ = _ <;> try dsimp only) <;> try with_reducible rfl)
      all_goals try omega
      all_goals (first | rfl | exact e)
    exact ⟨by show k + 1 ≤ L.length; omega, by show L.length - (k + 1) < L.length - k; omega⟩
  · rename_i h k hk hlt
    have e2 : k = L.length := by omega
    subst e2
    have q : endC (L, e, ()) = endT L := if_pos h
    rw [q]; exact ⟨⟨⟨rfl, rfl⟩, rfl, rfl⟩, h.symm.trans hz⟩
def gL (x : RayD) : Int := x.1.2.1 * x.2.1.1
def gU (x : RayD) : Int := x.1.2.1 * x.2.1.2.1
def n0 (L : List RayD) (k : Nat) : Int := sm (fun i => gL (rayN L i) * gL (rayN L i)) k
def n1 (L : List RayD) (k : Nat) : Int := sm (fun i => gU (rayN L i) * gU (rayN L i)) k
theorem g_bd {x : RayD} (h : goodRay x) : (0 ≤ gL x ∧ gL x ≤ 100000000) ∧ (0 ≤ gU x ∧ gU x ≤ 100000000) := by
  have h1 := mul_le h.g h.s
  have h2 := mul_le h.g (show 0 ≤ (x.2.1.2.1 : Int) ∧ (x.2.1.2.1 : Int) ≤ 100000 from ⟨Int.le_trans h.s.1 h.su.1, h.su.2⟩)
  exact ⟨h1, h2⟩
theorem sm_nn {f : Nat → Int} {B : Int} : ∀ k : Nat, (∀ i, i < k → 0 ≤ f i ∧ f i ≤ B) → 0 ≤ sm f k ∧ sm f k ≤ (k : Int) * B
  | 0, _ => ⟨Int.le_refl _, by simp [sm]⟩
  | k + 1, h => by
    have h1 := sm_nn k fun i hi => h i (by omega)
    have h2 := h k (by omega)
    have e : (((k + 1 : Nat) : Int) * B) = (k : Int) * B + B := by rw [Int.natCast_add, Int.add_mul]; simp
    rw [e]
    show 0 ≤ sm f k + f k ∧ sm f k + f k ≤ _
    omega
theorem ng_bd {L : List RayD} {k : Nat} (h : ∀ i, i < k → goodRay (rayN L i)) (hk : k ≤ 8) : (0 ≤ n0 L k ∧ n0 L k ≤ 80000000000000000) ∧ (0 ≤ n1 L k ∧ n1 L k ≤ 80000000000000000) := by
  have h0 := sm_nn (f := fun i => gL (rayN L i) * gL (rayN L i)) (B := 10000000000000000) k fun i hi => sq_le2 (g_bd (h i hi)).1.1 (g_bd (h i hi)).1.2
  have h1 := sm_nn (f := fun i => gU (rayN L i) * gU (rayN L i)) (B := 10000000000000000) k fun i hi => sq_le2 (g_bd (h i hi)).2.1 (g_bd (h i hi)).2.2
  have e0 : n0 L k ≤ (k : Int) * 10000000000000000 := h0.2
  have e1 : n1 L k ≤ (k : Int) * 10000000000000000 := h1.2
  exact ⟨⟨h0.1, by omega⟩, h1.1, by omega⟩
def enrC (o : List RayD × Int × Unit) : Int × Int × Unit := if o.2.1 = 0 then (n0 o.1 o.1.length, n1 o.1 o.1.length, ()) else (0, 0, ())
@[reducible] def sEnergy : Spec := { pats := [.dat ArrT, .dat PlaceT], res := [{ t := RangeT }, { t := I64 }], pre := fun x => pLen (List.length (α := SpkD) x.1.2.2.1), f := fun x => (enrC (openR x.1.1 x.1.2.1 x.1.2.2.1 x.2.1), opErr x.1.1 x.1.2.1 x.1.2.2.1 x.2.1, ()) }
def nrgAnn (l : List RayD) : LoopAnn := { σ := Nat, pat := fun k => [sI 25 k, cI 8 0 (n0 l k), cI 8 1 (n1 l k)], inv := fun k => k ≤ l.length, meas := fun k => l.length - k }
theorem h57 : Ok 57 sEnergy := by
  refine mk (ctr := [(93, sOpen)]) ⟨h93, trivial⟩ (nt := 58) Tryz.func57 rfl rfl rfl rfl (by kernel_rfl) (by kernel_rfl) (fun x => [fun _ => nrgAnn (openR x.1.1 x.1.2.1 x.1.2.2.1 x.2.1).1]) ?_
  rintro ⟨⟨(r : Int), (v : Int), (xs : List SpkD), ⟨⟩⟩, ⟨(pa : Int), (pb : Int), (pc : Int), ⟨⟩⟩, ⟨⟩⟩ (hp : pLen xs.length)
  obtain ⟨L, e, he, hl, hg, hz⟩ := open_good r v xs (pa, pb, pc, ())
  have hb := fun (k : Nat) (hk : k ≤ L.length) => ng_bd (L := L) (k := k) (fun i hi => hg i (by omega)) (by omega)
  repeat' (intro hzz; (try (rename Two => hq; cases hq)); (try dsimp only at hzz); (try simp only [resTy, argTy, eqD, inR, big, wantOf, zB] at hzz); (try simp only [resTy, argTy, eqD, inR, big, wantOf, zB, he, pLen, Int.toNat_natCast] at hzz); (try (revert hzz; intro _)))
  all_goals try (rename Unit => hq; clear hq)
  all_goals try ((with_reducible refine Held.mk ?_); (with_reducible (first | refine Frz.mk ?_ | refine And.intro (Frz.mk ?_) ?_ | refine And.intro ?_ (Frz.mk ?_))); repeat' first | exact True.intro | (change _ = _; with_reducible rfl) | refine And.intro ?_ ?_ | (with_reducible refine Frz.mk ?_))
  all_goals try (refine Held.mk ?_; (try dsimp only at *); (try simp only [resTy, argTy, eqD, inR, big, wantOf, zB] at *); (try simp only [resTy, argTy, eqD, inR, big, wantOf, zB, he, pLen, Int.toNat_natCast] at *))
  all_goals try omega
  all_goals try simp only [he, Int.toNat_natCast]
  · rename_i h
    have q : enrC (L, e, ()) = (0, 0, ()) := if_neg h
    rw [q]; exact ⟨⟨rfl, rfl⟩, hz⟩
  · rename_i h
    refine GHeld.mk ?_
    refine Exists.intro (0 : Nat) ?_
    refine And.intro (Leaf.mk ?_) ?_
    · repeat' first | exact True.intro | refine And.intro ?_ ?_
      all_goals try ((change _ = _ <;> try dsimp only) <;> try with_reducible rfl)
      all_goals try omega
      all_goals (first | rfl | exact e)
    exact Nat.zero_le _
  · rename_i k hk hlt
    have := (g_bd (hg k (by omega))).1
    exact ⟨Int.le_trans (by decide) this.1, Int.le_trans this.2 (by decide)⟩
  · rename_i k hk hlt
    have := (g_bd (hg k (by omega))).2
    exact ⟨Int.le_trans (by decide) this.1, Int.le_trans this.2 (by decide)⟩
  · rename_i k hk hlt
    have q := (g_bd (hg k (by omega))).1
    have := sq_le2 q.1 q.2
    exact ⟨Int.le_trans (by decide) this.1, Int.le_trans this.2 (by decide)⟩
  · rename_i k hk hlt
    have := (hb (k + 1) (by omega)).1
    exact ⟨Int.le_trans (by decide) this.1, Int.le_trans this.2 (by decide)⟩
  · rename_i k hk hlt
    have q := (g_bd (hg k (by omega))).2
    have := sq_le2 q.1 q.2
    exact ⟨Int.le_trans (by decide) this.1, Int.le_trans this.2 (by decide)⟩
  · rename_i k hk hlt
    have := (hb (k + 1) (by omega)).2
    exact ⟨Int.le_trans (by decide) this.1, Int.le_trans this.2 (by decide)⟩
  · rename_i k hk hlt
    refine GHeld.mk ?_
    refine Exists.intro (k + 1) ?_
    refine And.intro (Leaf.mk ?_) ?_
    · repeat' first | exact True.intro | refine And.intro ?_ ?_
      all_goals try ((change _ = _ <;> try dsimp only) <;> try with_reducible rfl)
      all_goals try omega
      all_goals (first | rfl | exact e)
    exact ⟨by show k + 1 ≤ L.length; omega, by show L.length - (k + 1) < L.length - k; omega⟩
  · rename_i h k hk hlt
    have e2 : k = L.length := by omega
    subst e2
    have q : enrC (L, e, ()) = (n0 L L.length, n1 L L.length, ()) := if_pos h
    rw [q]; exact ⟨⟨rfl, rfl⟩, h.symm.trans hz⟩
end Go.Eng.Ar

