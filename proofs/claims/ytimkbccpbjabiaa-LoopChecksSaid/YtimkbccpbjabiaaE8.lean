/- The effect of each kind of operation is right. Conditions: the table of types is the program's; each contract in use holds. -/
import Derived.Test.YtimkbccpbjabiaaE7
set_option linter.all false
namespace Go.Eng

/-- A call of f enters f. -/
def Enters (P : Program) (f : Nat) : Prop := ∃ fn, P.funcs[f]? = some fn ∧ (fn.name == "runtime.NumGoroutine") = false ∧ fn.body.isNone = false

/-- Go's equality at a struct type is equality of the data. -/
def EqOk (P : Program) (t : Nat) (ty : Ty) : Prop :=
  ∀ (w : World) (V : View) (x y : ty.Den) (l m : List Value) (o p : Operand), Rep V ty x l → Rep V ty y m →
    (∀ op, (eqGuard op t o p (.agg l.toArray) (.agg m.toArray)).run P w = .ok () w) ∧
    (binOp .eql t (.agg l.toArray) (.agg m.toArray)).run P w = .ok (.bool (ty.beq x y)) w ∧
    (binOp .neq t (.agg l.toArray) (.agg m.toArray)).run P w = .ok (.bool (!ty.beq x y)) w

structure CfgOk (P : Program) (OB : Nat → Obj → Prop) (c : Cfg) : Prop where
  tbl : TblOk P c.tt
  eqs : ∀ t ∈ c.eqs, ∀ ty, tyOf c.tt 20 t = some ty → EqOk P t ty
  ctr : ∀ f sp, getSpec f c.ctr = some sp → Holds P OB f sp ∧ Enters P f
  ext : ∀ f, memN f c.ext = true → ∃ fn, P.funcs[f]? = some fn ∧ (fn.name == "runtime.NumGoroutine") = false ∧ fn.body.isNone = true ∧ Extern.findNext fn = none ∧ Extern.find fn = some Extern.MathSqrt.sqrt
  obs : ∀ t i, obOf t c.obs = some i → ∃ z : Value, (∀ w, (zeroValue t).run P w = .ok z w) ∧ OB i (.cells z.cells t)

section
variable {E : Env} {nt : Nat} {η : Eta} {st : St} {a : Act} {w : World}

theorem exec_val {o : Oper} {s : SV} {v : Value} (h : (execOp a.eval o).run E.P w = .ok (.value v) w) (hv : holdsV (vw E η w) η s v) (ob : OP) : EffSem E η a w o (.val ob s) :=
  fun _ => ⟨v, h, hv⟩

theorem holds_int {k : IntKind} {n : Int} {v : Value} (h : holdsV (vw E η w) η (.one (.d (.int k) n)) v) : v = .int k n := by
  obtain ⟨l, h1, ⟨h2, _⟩ | ⟨_, h2⟩⟩ := h
  · cases h2
  · simp only [Rep] at h1; rw [h1] at h2; simpa using h2.symm

theorem holds_bool {b : Bool} {v : Value} (h : holdsV (vw E η w) η (.one (.d .bool b)) v) : v = .bool b := by
  obtain ⟨l, h1, ⟨h2, _⟩ | ⟨_, h2⟩⟩ := h
  · cases h2
  · simp only [Rep] at h1; rw [h1] at h2; simpa using h2.symm

theorem asI_sound {s : SV} {n : Int} {v : Value} (h : s.asI = some n) (hs : holdsV (vw E η w) η s v) : v = .int .i64 n := by
  unfold SV.asI at h
  split at h
  · simp only [Option.some.injEq] at h
    subst h
    exact holds_int hs
  · cases h

theorem int_holds (k : IntKind) (n : Int) : holdsV (vw E η w) η (.one (.d (.int k) n)) (.int k n) := RepV.mk1 rfl rfl
theorem bool_holds (b : Bool) : holdsV (vw E η w) η (.one (.d .bool b)) (.bool b) := RepV.mk1 rfl rfl

theorem wrap_i64 {n : Int} (h : -9223372036854775808 ≤ n ∧ n ≤ 9223372036854775807) : IntKind.i64.wrap n = n := by
  have := IntWalk.i64_in n (by omega)
  exact this

theorem wrap_of_inR {k : IntKind} {n : Int} (h : inR k n) : k.wrap n = n := by
  cases k <;> first | exact wrap_i64 h | exact h

theorem binI_sound {o : Oper} {op : BinOp} {xt yt : Nat} {x y : Operand} {k : IntKind} {m n : Int} {e : Eff} (ho : o.op = .binOp op xt x y yt)
    (hx : a.eval x = .int k m) (hy : a.eval y = .int k n) (h : binI op k m n = some e) : EffSem E η a w o e := by
  cases op <;> simp only [binI, Option.some.injEq] at h <;> first | (cases h; done) | subst h
  case add => exact fun hr => ⟨_, by simp [execOp, ho, hx, hy, eqGuard_add, binOp_add, Op.intArith, wrap_of_inR hr], int_holds _ _⟩
  case sub => exact fun hr => ⟨_, by simp [execOp, ho, hx, hy, eqGuard_sub, binOp_sub, Op.intArith, wrap_of_inR hr], int_holds _ _⟩
  case mul => exact fun hr => ⟨_, by simp [execOp, ho, hx, hy, eqGuard_mul, binOp_mul, Op.intArith, wrap_of_inR hr], int_holds _ _⟩
  case quo => exact fun hr => ⟨_, by simp [execOp, ho, hx, hy, eqGuard_quo, binOp_quo, Op.intDiv, hr.1, wrap_of_inR hr.2], int_holds _ _⟩
  case rem => exact fun hr => ⟨_, by simp [execOp, ho, hx, hy, eqGuard_rem, binOp_rem, Op.intDiv, hr], int_holds _ _⟩
  case and => exact fun _ => ⟨_, by simp [execOp, ho, hx, hy, eqGuard_and, binOp_and, intBits_and], int_holds _ _⟩
  case or => exact fun _ => ⟨_, by simp [execOp, ho, hx, hy, eqGuard_or, binOp_or, intBits_or], int_holds _ _⟩
  case xor => exact fun _ => ⟨_, by simp [execOp, ho, hx, hy, eqGuard_xor, binOp_xor, intBits_xor], int_holds _ _⟩
  case eql => exact fun _ => ⟨.bool (m == n), by simp [execOp, ho, hx, hy, eqGuard_at_int, binOp_eql], by have : decide (m = n) = (m == n) := rfl; rw [this]; exact bool_holds _⟩
  case neq => exact fun _ => ⟨.bool (m != n), by simp [execOp, ho, hx, hy, eqGuard_at_int, binOp_neq], by have : (!decide (m = n)) = (m != n) := rfl; rw [this]; exact bool_holds _⟩
  case lss => exact fun _ => ⟨_, by simp [execOp, ho, hx, hy, eqGuard_at_int, binOp_lss], bool_holds _⟩
  case leq => exact fun _ => ⟨_, by simp [execOp, ho, hx, hy, eqGuard_at_int, binOp_leq], bool_holds _⟩
  case gtr => exact fun _ => ⟨.bool (decide (m > n)), by simp [execOp, ho, hx, hy, eqGuard_at_int, binOp_gtr], bool_holds _⟩
  case geq => exact fun _ => ⟨.bool (decide (m ≥ n)), by simp [execOp, ho, hx, hy, eqGuard_at_int, binOp_geq], bool_holds _⟩


theorem binB_sound {o : Oper} {op : BinOp} {xt yt : Nat} {x y : Operand} {m n : Bool} {e : Eff} (ho : o.op = .binOp op xt x y yt) (hT : E.P.underlying xt = some .bool)
    (hx : a.eval x = .bool m) (hy : a.eval y = .bool n) (h : binB op m n = some e) : EffSem E η a w o e := by
  cases op <;> simp only [binB, Option.some.injEq] at h <;> first | (cases h; done) | subst h
  case eql => exact fun _ => ⟨.bool (m == n), by simp [execOp, ho, hx, hy, eqGuard_at_bool, binOp, Op.equal, Op.maxDepth, run_equalIn_bool' (h := hT)], bool_holds _⟩
  case neq => exact fun _ => ⟨.bool (!(m == n)), by simp [execOp, ho, hx, hy, eqGuard_at_bool, binOp, Op.equal, Op.maxDepth, run_equalIn_bool' (h := hT)], bool_holds _⟩

theorem lb_bool {b : Bool} {v : Value} (h : holdsV (vw E η w) η (.one (.lb b)) v) : v = .bool b := h

theorem effLoad_sound {tt : TT} (hT : TblOk E.P tt) (H : ∀ f ∈ st, Fact.holds E η a w f) {o : Oper} {t : Nat} {x : Operand} (ho : o.op = .load t x) {s : SV} (hs : holdsV (vw E η w) η s (a.eval x)) {e : Eff}
    (h : effLoad tt st t s = some e) : EffSem E η a w o e := by
  unfold effLoad at h
  split at h
  case h_2 => cases h
  case h_1 i hi =>
    have hI := hT.rows t i hi
    split at h
    case h_1 k off =>
      obtain ⟨b, c, hk, hv⟩ := hs
      cases hag : i.kind.isAgg with
      | true =>
        rw [hag] at h
        simp only [cond_true] at h
        split at h
        · rename_i cs hcs
          simp only [Option.some.injEq] at h
          subst h
          obtain ⟨vs, e1, e2, e3, _⟩ := findCells_vals H hk i.size off cs hcs
          refine fun _ => ⟨.agg vs.toArray, ?_, ⟨vs, rfl, e1⟩⟩
          have := run_loadVar_agg (w := w) hI hag (a := ⟨b, off, none⟩) e2 (fun j v hj => by rw [add_none]; exact e3 j v hj)
          simp [execOp, ho, hv, Instr.loadAt, Instr.sureAddr, this]
        · cases h
      | false =>
        rw [hag] at h
        simp only [cond_false] at h
        split at h
        · rename_i u hu
          simp only [Option.some.injEq] at h
          subst h
          obtain ⟨b', c', cur, el, v, _, q1, q2, q3, q4, q5⟩ := H _ (findCell_mem hu)
          rw [hk] at q1
          simp only [Option.some.injEq, Prod.mk.injEq] at q1
          obtain ⟨rfl, rfl⟩ := q1
          have := run_loadVar_one (w := w) hI hag (a := ⟨b, off, none⟩) (v := v) (by rw [cell_of q2]; exact q3)
          exact fun _ => ⟨v, by simp [execOp, ho, hv, Instr.loadAt, Instr.sureAddr, this], q5⟩
        · cases h
    case h_2 t' y =>
      split at h
      case h_2 => cases h
      case h_1 t'' ht =>
        split at h
        case isFalse => cases h
        case isTrue he =>
          subst he
          simp only [Option.some.injEq] at h
          subst h
          obtain ⟨ad, c, hv, hsp, ⟨_, _, el, f, hb⟩, _, hr⟩ := hs
          obtain ⟨hsz, hag⟩ := tyOf_size hT.ok 20 t _ i ht hi
          obtain ⟨v, h1, h2⟩ := load_pd hI hsz hag hsp hb hr
          exact fun _ => ⟨v, by simp [execOp, ho, hv, Instr.loadAt, Instr.sureAddr, h1], h2⟩
    case h_3 k j sz =>
      split at h
      case h_2 => cases h
      case h_1 r hr =>
        split at h
        case h_2 => cases h
        case h_1 t'' ht =>
          split at h
          case isFalse => cases h
          case isTrue he =>
            cases hz : Nat.beq sz r.e.size with
            | false => rw [hz] at h; simp at h
            | true =>
              rw [hz] at h
              simp only [cond_true, Option.some.injEq] at h
              subst h
              subst he
              have hz' := Nat.eq_of_beq_eq_true hz
              obtain ⟨hj0, b, c, hk, hv⟩ := hs
              intro ⟨_, hjl⟩
              have hlt : j.toNat < r.xs.length := by omega
              rcases H _ (findRow_mem hr) with ⟨hn, _⟩ | ⟨b', c', cur, _, q1, q2, q3⟩
              · rw [hk] at hn; cases hn
              · rw [hk] at q1
                simp only [Option.some.injEq, Prod.mk.injEq] at q1
                obtain ⟨rfl, rfl⟩ := q1
                obtain ⟨hsz, hag⟩ := tyOf_size hT.ok 20 t _ i ht hi
                have hrep := q3.2.2.2 j.toNat _ (List.getElem?_eq_getElem hlt)
                have hget : r.xs.getD j.toNat r.e.dflt = r.xs[j.toNat] := by simp [List.getD, List.getElem?_eq_getElem hlt]
                obtain ⟨v, h1, h2⟩ := load_pd (w := w) hI hsz hag (ad := ⟨b, j.toNat * sz, none⟩) rfl q2 (by rw [hz']; exact hrep)
                exact ⟨v, by simp [execOp, ho, hv, Instr.loadAt, Instr.sureAddr, h1], by rw [hget]; exact h2⟩
    case h_4 => cases h

theorem holdsC_oneCell {V : View} : ∀ {cs : List S1} {vs : List Value}, holdsC V η cs vs → ∀ v ∈ vs, v.oneCell' = true
  | [], [], _, v, h => by cases h
  | [], _ :: _, h, _, _ => h.elim
  | _ :: _, [], h, _, _ => h.elim
  | s :: r, u :: l, ⟨_, h2, h3⟩, v, hv => by
    rcases List.mem_cons.1 hv with rfl | hv
    · exact h2
    · exact holdsC_oneCell h3 v hv

theorem rowIn_set {V : View} {e : Ty} {xs : List e.Den} {c : Nat} {cur : Array Value} {y : e.Den} {l : List Value} {j : Nat} (h : RowIn V e xs c cur) (hy : Rep V e y l) (hj : j < xs.length) :
    RowIn V e (xs.set j y) c (cur.toList.take (j * e.size) ++ l ++ cur.toList.drop (j * e.size + l.length)).toArray := by
  have hl := Rep.length _ _ _ hy
  obtain ⟨h1, h2, h3, h4⟩ := h
  have hle : (j + 1) * e.size ≤ cur.size := by rw [h1]; exact Nat.mul_le_mul_right _ (by omega)
  have hle' : j * e.size + e.size ≤ cur.size := by rw [Nat.add_mul, Nat.one_mul] at hle; exact hle
  refine ⟨?_, by simpa using h2, h3, fun i x hx => ?_⟩
  · simp only [List.size_toArray, List.length_append, List.length_take, List.length_drop, Array.length_toList]
    omega
  · have hi : i < xs.length := by have := (List.getElem?_eq_some_iff.1 hx).1; simpa using this
    by_cases hij : i = j
    · subst hij
      rw [List.getElem?_set_self hj] at hx
      simp only [Option.some.injEq] at hx
      subst hx
      have : ((cur.toList.take (i * e.size) ++ l ++ cur.toList.drop (i * e.size + l.length)).drop (i * e.size)).take e.size = l := by
        have hlen : (cur.toList.take (i * e.size)).length = i * e.size := by simp; omega
        rw [List.append_assoc, List.drop_append_of_le_length (by omega), List.drop_of_length_le (by omega), List.nil_append, List.take_append_of_le_length (by omega), List.take_of_length_le (by omega)]
      simp only [this]
      exact hy
    · rw [List.getElem?_set_ne (Ne.symm hij)] at hx
      have hr := h4 i x hx
      have : ((cur.toList.take (j * e.size) ++ l ++ cur.toList.drop (j * e.size + l.length)).drop (i * e.size)).take e.size = (cur.toList.drop (i * e.size)).take e.size := by
        have hlen : (cur.toList.take (j * e.size)).length = j * e.size := by simp; omega
        rcases Nat.lt_or_ge i j with hlt | hge
        · have hm : i * e.size + e.size ≤ j * e.size := by have := Nat.mul_le_mul_right e.size (show i + 1 ≤ j by omega); rw [Nat.add_mul, Nat.one_mul] at this; exact this
          rw [List.append_assoc, List.drop_append_of_le_length (by omega), List.take_append_of_le_length (by simp; omega), List.drop_take, List.take_take]
          congr 1; omega
        · have hm : j * e.size + e.size ≤ i * e.size := by have := Nat.mul_le_mul_right e.size (show j + 1 ≤ i by omega); rw [Nat.add_mul, Nat.one_mul] at this; exact this
          have hl2 : (cur.toList.take (j * e.size) ++ l).length = j * e.size + e.size := by simp only [List.length_append, hlen, hl]
          rw [List.drop_append, List.drop_of_length_le (by omega), List.nil_append, List.drop_drop, hl2, hl]
          congr 2; omega
      simp only [this]
      exact hr

theorem effStore_sound {tt : TT} (hT : TblOk E.P tt) (H : ∀ f ∈ st, Fact.holds E η a w f) {o : Oper} {t : Nat} {x y : Operand} (ho : o.op = .store t x y) {s u : SV}
    (hs : holdsV (vw E η w) η s (a.eval x)) (hu : holdsV (vw E η w) η u (a.eval y)) {e : Eff} (h : effStore tt st t s u = some e) : EffSem E η a w o e := by
  unfold effStore at h
  split at h
  case h_2 => cases h
  case h_1 i hi =>
    have hI := hT.rows t i hi
    split at h
    case h_1 k off =>
      obtain ⟨b, c, hk, hv⟩ := hs
      split at h
      case h_2 => cases h
      case h_1 cs hcs =>
        split at h
        case h_2 => cases h
        case h_1 old hold =>
          cases hz : (Nat.beq cs.length i.size && Nat.ble 1 i.size) with
          | false => rw [hz] at h; simp at h
          | true =>
            rw [hz] at h
            simp only [cond_true, Option.some.injEq] at h
            subst h
            rw [Bool.and_eq_true] at hz
            have hz' := Nat.eq_of_beq_eq_true hz.1
            have hz2 := Nat.le_of_ble_eq_true hz.2
            have hC := SV.cells_sound hcs hu
            have hlen := holdsC_length hC
            obtain ⟨vs, _, e2, _, e4⟩ := findCells_vals H hk i.size off old hold
            · obtain ⟨cur, el, q0, q2, q3⟩ := e4 (by omega)
              have hsz : (a.eval y).cells.size = i.size := by rw [← hz', hlen]; simp
              have hrun := run_storeVar_row (w := w) (off := off) hI q2 hsz (by omega) (holdsC_oneCell hC)
              exact ⟨(a.eval y).cells.toList, b, c, cur, el, hk, q0, q2, by simp; omega, hC, by simp [execOp, ho, hv, Instr.storeAt, Instr.sureAddr, hrun]⟩
    case h_2 k j sz =>
      split at h
      case h_2 => cases h
      case h_1 r hr =>
        split at h
        case h_2 => cases h
        case h_1 yy hy =>
          cases hz : (Nat.beq r.e.size i.size && Nat.beq sz i.size) with
          | false => rw [hz] at h; simp at h
          | true =>
            rw [hz] at h
            simp only [cond_true, Option.some.injEq] at h
            subst h
            rw [Bool.and_eq_true] at hz
            have hz1 := Nat.eq_of_beq_eq_true hz.1
            have hz2 := Nat.eq_of_beq_eq_true hz.2
            obtain ⟨hj0, b, c, hk, hv⟩ := hs
            intro ⟨_, hjl⟩
            have hlt : j.toNat < r.xs.length := by omega
            rcases H _ (findRow_mem hr) with ⟨hn, _⟩ | ⟨b', c', cur, q0, q1, q2, q3⟩
            · rw [hk] at hn; cases hn
            · rw [hk] at q1
              simp only [Option.some.injEq, Prod.mk.injEq] at q1
              obtain ⟨rfl, rfl⟩ := q1
              have hrep := RepV.cells (SV.den_sound hy hu)
              have hl := Rep.length _ _ _ hrep
              have hle : (j.toNat + 1) * r.e.size ≤ cur.size := by rw [q3.1]; exact Nat.mul_le_mul_right _ (by have := q3.2.1; omega)
              rw [Nat.add_mul, Nat.one_mul] at hle
              have hsz : (a.eval y).cells.size = i.size := by simpa [hz1] using hl
              have hrun := run_storeVar_row (w := w) hI q2 (off := j.toNat * sz) hsz (by rw [hsz, hz2, ← hz1]; omega) (Rep.oneCell _ _ _ hrep)
              refine ⟨b, c, cur, _, hk, q0, q2, rowIn_set q3 hrep hlt, ?_⟩
              rw [hz2, ← hz1] at hv hrun
              simp only [Array.length_toList]
              simp [execOp, ho, hv, Instr.storeAt, Instr.sureAddr, hrun]
    case h_3 => cases h

end
end Go.Eng
