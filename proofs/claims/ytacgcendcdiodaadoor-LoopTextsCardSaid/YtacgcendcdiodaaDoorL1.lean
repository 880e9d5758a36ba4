/- The executor's settings for the program: types, equality of structs. Conditions: none. -/
import Derived.Test.YtacgcendcdiodaaDoorL0
namespace Go.Eng.Lp
open Go.Eng Go.Proofs

abbrev I64 : Ty := .int .i64
abbrev Ball : Ty := .cons I64 (.cons I64 (.cons I64 .nil))
abbrev ArcT : Ty := .cons I64 (.cons I64 .nil)

theorem eqF_int (w : World) (d : Nat) (xs ys : Array Value) (nm tag pk : String) (off bo : Nat) (e : Bool) (r : List Field) {x y : Int} (hn : nm ≠ "_") (hx : xs[off]? = some (.int .i64 x)) (hy : ys[off]? = some (.int .i64 y)) :
    (Op.eqFields (d + 1) xs ys (⟨nm, 3, off, e, tag, pk, bo⟩ :: r)).run Tryd.prog w = if x = y then (Op.eqFields (d + 1) xs ys r).run Tryd.prog w else .ok false w := by
  have p1 : (part 3 xs off).run Tryd.prog w = .ok (.int .i64 x) w := by rw [run_part row3, hx]; rfl
  have p2 : (part 3 ys off).run Tryd.prog w = .ok (.int .i64 y) w := by rw [run_part row3, hy]; rfl
  have p3 := run_equalIn_int (P := Tryd.prog) w d 3 .i64 .i64 x y Tryd.underlying3
  simp only [Op.eqFields]
  rw [if_pos hn]
  simp only [Sem.run_bind, p1, p2, p3, Result.andThen_ok]
  by_cases h : x = y
  · simp [h]
  · simp [h]

theorem eqOf {t : Nat} {ty : Ty} (hg : Tryd.prog.eqGuardType Tryd.prog.depth t = false)
    (hE : ∀ (w : World) (V : View) (x y : ty.Den) (l m : List Value), Rep V ty x l → Rep V ty y m → (Op.equalIn 10000 t (.agg l.toArray) (.agg m.toArray)).run Tryd.prog w = .ok (ty.beq x y) w) : EqOk Tryd.prog t ty := by
  intro w V x y l m o p hx hy
  refine ⟨fun op => run_eqGuard_agg w op t o p _ _ hg, ?_, ?_⟩
  · rw [run_eql_struct, hE w V x y l m hx hy]; rfl
  · rw [run_neq_struct, hE w V x y l m hx hy]; rfl

theorem eq35 : EqOk Tryd.prog 35 Ball := by
  refine eqOf Tryd.eqGuardType35 fun w V x y l m hx hy => ?_
  obtain ⟨l1, l2, rfl, h1, l3, l4, rfl, h2, l5, l6, rfl, h3, h4⟩ := hx
  obtain ⟨m1, m2, rfl, g1, m3, m4, rfl, g2, m5, m6, rfl, g3, g4⟩ := hy
  obtain ⟨x1, x2, x3, u⟩ := x
  obtain ⟨y1, y2, y3, u'⟩ := y
  subst h1 h2 h3 h4 g1 g2 g3 g4
  have hS : Tryd.prog.fieldsOf 35 = #[⟨"X", 3, 0, false, "", "", 0⟩, ⟨"Y", 3, 1, false, "", "", 8⟩, ⟨"R", 3, 2, false, "", "", 16⟩] := by kernel_rfl
  rw [run_equalIn_struct w 9999 35 _ _ (by rw [Tryd.underlying35, hS]) Tryd.stoodInHeld35, hS]
  rw [eqF_int w 9998 _ _ "X" "" "" 0 0 false _ (by decide) (x := x1) (y := y1) rfl rfl, eqF_int w 9998 _ _ "Y" "" "" 1 8 false _ (by decide) (x := x2) (y := y2) rfl rfl,
    eqF_int w 9998 _ _ "R" "" "" 2 16 false _ (by decide) (x := x3) (y := y3) rfl rfl]
  simp only [Ty.beq, Op.eqFields, Sem.run_pure, Bool.and_true]
  by_cases e1 : x1 = y1 <;> by_cases e2 : x2 = y2 <;> by_cases e3 : x3 = y3 <;> simp [e1, e2, e3]

theorem eq44 : EqOk Tryd.prog 44 ArcT := by
  refine eqOf Tryd.eqGuardType44 fun w V x y l m hx hy => ?_
  obtain ⟨l1, l2, rfl, h1, l3, l4, rfl, h2, h4⟩ := hx
  obtain ⟨m1, m2, rfl, g1, m3, m4, rfl, g2, g4⟩ := hy
  obtain ⟨x1, x2, u⟩ := x
  obtain ⟨y1, y2, u'⟩ := y
  subst h1 h2 h4 g1 g2 g4
  have hS : Tryd.prog.fieldsOf 44 = #[⟨"From", 3, 0, false, "", "", 0⟩, ⟨"To", 3, 1, false, "", "", 8⟩] := by kernel_rfl
  rw [run_equalIn_struct w 9999 44 _ _ (by rw [Tryd.underlying44, hS]) Tryd.stoodInHeld44, hS]
  rw [eqF_int w 9998 _ _ "From" "" "" 0 0 false _ (by decide) (x := x1) (y := y1) rfl rfl, eqF_int w 9998 _ _ "To" "" "" 1 8 false _ (by decide) (x := x2) (y := y2) rfl rfl]
  simp only [Ty.beq, Op.eqFields, Sem.run_pure, Bool.and_true]
  by_cases e1 : x1 = y1 <;> by_cases e2 : x2 = y2 <;> simp [e1, e2]

abbrev MargT : Ty := .cons .str (.cons I64 .nil)

theorem toList_beq (x y : ByteArray) : (x.toList == y.toList) = decide (x = y) := by
  by_cases h : x = y
  · rw [decide_eq_true h, h]; exact beq_self_eq_true _
  · rw [decide_eq_false h]
    refine beq_eq_false_iff_ne.2 fun hc => h ?_
    rw [ByteArray.toList_eq, ByteArray.toList_eq] at hc
    cases x; cases y
    congr 1
    exact Array.toList_inj.1 hc
theorem bytes_beq (a b : ByteArray) : (a == b) = decide (a = b) := by rw [← toList_beq, beq_toListBytes]

theorem eqF_str (w : World) (d : Nat) (xs ys : Array Value) (nm tag pk : String) (off bo : Nat) (e : Bool) (r : List Field) {x y : ByteArray} (hn : nm ≠ "_") (hx : xs[off]? = some (.string x)) (hy : ys[off]? = some (.string y)) :
    (Op.eqFields (d + 1) xs ys (⟨nm, 9, off, e, tag, pk, bo⟩ :: r)).run Tryd.prog w = if x = y then (Op.eqFields (d + 1) xs ys r).run Tryd.prog w else .ok false w := by
  have p1 : (part 9 xs off).run Tryd.prog w = .ok (.string x) w := by rw [run_part row9, hx]; rfl
  have p2 : (part 9 ys off).run Tryd.prog w = .ok (.string y) w := by rw [run_part row9, hy]; rfl
  have p3 := run_equalIn_string (P := Tryd.prog) w d 9 x y Tryd.underlying9
  have hb := toList_beq x y
  rw [hb] at p3
  simp only [Op.eqFields]
  rw [if_pos hn]
  simp only [Sem.run_bind, p1, p2, p3, Result.andThen_ok]
  by_cases h : x = y
  · rw [decide_eq_true h, if_pos h]; simp
  · rw [decide_eq_false h, if_neg h]; simp

theorem eq23 : EqOk Tryd.prog 23 MargT := by
  refine eqOf Tryd.eqGuardType23 fun w V x y l m hx hy => ?_
  obtain ⟨l1, l2, rfl, h1, l3, l4, rfl, h2, h4⟩ := hx
  obtain ⟨m1, m2, rfl, g1, m3, m4, rfl, g2, g4⟩ := hy
  obtain ⟨x1, x2, u⟩ := x
  obtain ⟨y1, y2, u'⟩ := y
  subst h1 h2 h4 g1 g2 g4
  have hS : Tryd.prog.fieldsOf 23 = #[⟨"Name", 9, 0, false, "", "", 0⟩, ⟨"Margin", 3, 1, false, "", "", 16⟩] := by kernel_rfl
  rw [run_equalIn_struct w 9999 23 _ _ (by rw [Tryd.underlying23, hS]) Tryd.stoodInHeld23, hS]
  rw [eqF_str w 9998 _ _ "Name" "" "" 0 0 false _ (by decide) (x := x1) (y := y1) rfl rfl, eqF_int w 9998 _ _ "Margin" "" "" 1 16 false _ (by decide) (x := x2) (y := y2) rfl rfl]
  simp only [Ty.beq, Op.eqFields, Sem.run_pure, Bool.and_true]
  rw [show (x1 == y1) = decide (x1 = y1) from bytes_beq x1 y1]
  by_cases e1 : x1 = y1
  · rw [if_pos e1, decide_eq_true e1]
    by_cases e2 : x2 = y2
    · rw [if_pos e2, decide_eq_true e2]; rfl
    · rw [if_neg e2, decide_eq_false e2]; rfl
  · rw [if_neg e1, decide_eq_false e1]; rfl

theorem eqsOk : ∀ t ∈ ([35, 44, 23] : List Nat), ∀ ty, tyOf tt 20 t = some ty → EqOk Tryd.prog t ty := by
  intro t ht ty h
  have h25 : tyOf tt 20 35 = some Ball := by kernel_rfl
  have h35 : tyOf tt 20 44 = some ArcT := by kernel_rfl
  have h23 : tyOf tt 20 23 = some MargT := by kernel_rfl
  simp only [List.mem_cons, List.not_mem_nil, or_false] at ht
  rcases ht with rfl | rfl | rfl
  · rw [h25] at h; cases h; exact eq35
  · rw [h35] at h; cases h; exact eq44
  · rw [h23] at h; cases h; exact eq23

theorem mixed : Tryd.prog.follows .mixedOrders = true := by kernel_rfl

end Go.Eng.Lp
