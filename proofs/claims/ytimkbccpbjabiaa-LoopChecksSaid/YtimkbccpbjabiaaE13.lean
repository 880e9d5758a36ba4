/- A call, and the one lemma on all operations. Conditions: the table of types is the program's; each contract in use holds. -/
import Derived.Test.YtimkbccpbjabiaaE12
set_option linter.all false
namespace Go.Eng

section
variable {E : Env} {nt : Nat} {η : Eta} {st : St} {a : Act} {w : World}

theorem litEq_eq {x y : Value} (h : litEq x y = true) : x = y := by
  unfold litEq at h
  split at h
  · rename_i f p q g r s
    simp only [Bool.and_eq_true, beq_iff_eq] at h
    obtain ⟨h1, ⟨⟨h2, h3⟩, h4⟩, h5⟩ := h
    rw [Nat.eq_of_beq_eq_true h1, Array.eq_empty_of_size_eq_zero h2, Array.eq_empty_of_size_eq_zero h3, Array.eq_empty_of_size_eq_zero h4, Array.eq_empty_of_size_eq_zero h5]
  · cases h

theorem matchArgs_sound (H : ∀ f ∈ st, Fact.holds E η a w f) : ∀ (ps : List Pat) (ss : List SV) (xs : List Operand) (x : (argTy ps).Den) (oks : List Nat), matchArgs st ps ss = some (x, oks) →
    evals st xs = some ss → ∃ bs, ArgsOK E.OB w (fun b => E.M b ∨ ∃ k n, η k = some (b, n)) ps x (xs.map a.eval) bs ∧ ∀ b ∈ bs, ∃ k c, k ∈ oks ∧ η k = some (b, c)
  | [], [], xs, x, oks, h, hx => by
    cases xs with
    | nil => exact ⟨[], ⟨rfl, rfl⟩, by simp⟩
    | cons y r =>
      simp only [evals] at hx
      split at hx
      · split at hx <;> simp at hx
      · cases hx
  | [], s :: ss, xs, x, oks, h, hx => by simp [matchArgs] at h
  | p :: ps, [], xs, x, oks, h, hx => by cases p <;> simp [matchArgs] at h
  | p :: ps, s :: ss, [], x, oks, h, hx => by simp [evals] at hx
  | p :: ps, s :: ss, y :: xs, x, oks, h, hx => by
    simp only [evals] at hx
    split at hx
    case h_2 => cases hx
    case h_1 s' hs' =>
      split at hx
      case h_2 => cases hx
      case h_1 ss' hss' =>
        simp only [Option.some.injEq, List.cons.injEq] at hx
        obtain ⟨rfl, rfl⟩ := hx
        have hs := eval_sound H hs'
        cases p with
        | dat t =>
          simp only [matchArgs] at h
          split at h
          case h_2 => cases h
          case h_1 z hz =>
            split at h
            case h_2 => cases h
            case h_1 q ks hq =>
              simp only [Option.some.injEq, Prod.mk.injEq] at h
              obtain ⟨rfl, rfl⟩ := h
              obtain ⟨bs, h1, h2⟩ := matchArgs_sound H ps ss' xs _ _ hq hss'
              refine ⟨bs, ⟨a.eval y, xs.map a.eval, rfl, ?_, h1⟩, h2⟩
              exact RepV.mono (fun b c ⟨k1, k2, k3⟩ => ⟨fun hh => by rcases hh with hh | ⟨k, n, hh⟩; exact k1 hh; exact k2 k n hh, k3⟩) (SV.den_sound hz hs)
        | lit z =>
          simp only [matchArgs] at h
          split at h
          case h_2 => cases h
          case h_1 u =>
            cases hl : litEq z u with
            | false => rw [hl] at h; simp at h
            | true =>
              rw [hl] at h
              simp only [cond_true] at h
              split at h
              case h_2 => cases h
              case h_1 q ks hq =>
                simp only [Option.some.injEq, Prod.mk.injEq] at h
                obtain ⟨rfl, rfl⟩ := h
                obtain ⟨bs, h1, h2⟩ := matchArgs_sound H ps ss' xs _ _ hq hss'
                have hv : a.eval y = u := hs
                exact ⟨bs, ⟨xs.map a.eval, by rw [List.map_cons, hv, litEq_eq hl], h1⟩, h2⟩
        | ob i =>
          simp only [matchArgs] at h
          split at h
          case h_2 => cases h
          case h_1 k =>
            split at h
            case h_2 => cases h
            case h_1 j hj =>
              cases hl : Nat.beq i j with
              | false => rw [hl] at h; simp at h
              | true =>
                rw [hl] at h
                simp only [cond_true] at h
                split at h
                case h_2 => cases h
                case h_1 q ks hq =>
                  simp only [Option.some.injEq, Prod.mk.injEq] at h
                  obtain ⟨rfl, rfl⟩ := h
                  have hij := Nat.eq_of_beq_eq_true hl
                  subst hij
                  obtain ⟨bs, h1, h2⟩ := matchArgs_sound H ps ss' xs _ _ hq hss'
                  obtain ⟨b, c, e1, e2⟩ := hs
                  obtain ⟨b', c', o, e3, e4, e5⟩ := H _ (findOb_mem hj)
                  rw [e1] at e3
                  simp only [Option.some.injEq, Prod.mk.injEq] at e3
                  obtain ⟨rfl, rfl⟩ := e3
                  refine ⟨b :: bs, ⟨b, o, xs.map a.eval, bs, by rw [List.map_cons, e2], rfl, .inr ⟨k, c, e1⟩, e4, e5, h1⟩, fun b' hb' => ?_⟩
                  rcases List.mem_cons.1 hb' with rfl | hb'
                  · exact ⟨k, c, List.mem_cons_self, e1⟩
                  · obtain ⟨k', c', g1, g2⟩ := h2 b' hb'
                    exact ⟨k', c', List.mem_cons_of_mem _ g1, g2⟩

theorem holds_flt {k : FloatKind} {n : Nat} {v : Value} (h : holdsV (vw E η w) η (.one (.d (.flt k) n)) v) : v = .float k n := by
  obtain ⟨l, h1, ⟨h2, _⟩ | ⟨_, h2⟩⟩ := h
  · cases h2
  · rw [h1] at h2; simpa using h2.symm

theorem flt_holds (k : FloatKind) (n : Nat) : holdsV (vw E η w) η (.one (.d (.flt k) n)) (.float k n) := ⟨[.float k n], rfl, .inr ⟨rfl, rfl⟩⟩

theorem evals_one (H : ∀ f ∈ st, Fact.holds E η a w f) {xs : List Operand} {s : SV} (h : evals st xs = some [s]) : ∃ x, xs = [x] ∧ holdsV (vw E η w) η s (a.eval x) := by
  match xs with
  | [] => simp [evals] at h
  | [x] =>
    simp only [evals] at h
    split at h
    · rename_i s' hs
      simp only [Option.some.injEq, List.cons.injEq, and_true] at h
      subst h
      exact ⟨x, rfl, eval_sound H hs⟩
    · cases h
  | x :: y :: r =>
    simp only [evals] at h
    split at h
    · split at h
      · rename_i l hl
        split at hl
        · split at hl
          · simp at h hl
            rw [← hl] at h
            simp at h
          · cases hl
        · cases hl
      · cases h
    · cases h

theorem call_sound {c : Cfg} (hC : CfgOk E.P E.OB c) (g : Good E nt η a w) (H : ∀ f ∈ st, Fact.holds E η a w f) {o : Oper} {fo : Operand} {args : Array Operand} {ats : Array TypeId}
    (ho : o.op = .call { callee := .value fo, args := args, argTypes := ats }) {f : Nat} (hf : a.eval fo = .func (.func f) #[] #[]) {sp : Spec} (hsp : getSpec f c.ctr = some sp) {ss : List SV} (hss : evals st args.toList = some ss)
    {x : (argTy sp.pats).Den} {oks : List Nat} (hx : matchArgs st sp.pats ss = some (x, oks)) : EffSem E η a w o (.call (some (sp.pre x)) oks sp.res (sp.f x)) := by
  intro hpre
  obtain ⟨hH, fn, e1, e2, e3⟩ := hC.ctr f sp hsp
  obtain ⟨bs, h1, h2⟩ := matchArgs_sound H sp.pats ss args.toList x oks hx hss
  have hargs : (args.toList.map a.eval).toArray = args.map a.eval := by
    apply Array.ext'; simp
  refine ⟨f, args.map a.eval, bs, ?_, h2, ?_⟩
  · have e2' : ¬ fn.name = "runtime.NumGoroutine" := by simpa using e2
    have e3' : ¬ fn.body = none := by intro hn; rw [hn] at e3; cases e3
    simp [execOp, ho, resolve, Deferred.ofValue, hf, invoke, callFunc, e1, e2', e3']
  · have := hH w _ x _ bs (fun b hb => by
      rcases hb with hb | ⟨k, n, hb⟩
      · have := g.old b hb; have := g.grow; omega
      · exact (g.own k b n hb).1) h1 hpre
    rw [hargs] at this
    exact this

theorem run_max {P : Program} (w : World) : ∀ (xs : List Int) (x : Int), ((xs.map (Value.int .i64)).foldlM Builtin.max2 (.int .i64 x)).run P w = .ok (.int .i64 (xs.foldl (fun m y => if y > m then y else m) x)) w
  | [], x => by simp
  | y :: r, x => by
    simp only [List.map_cons, List.foldlM_cons, Sem.run_bind, Builtin.max2, Sem.run_pure, Result.andThen_ok, List.foldl_cons]
    exact run_max w r _

theorem run_min {P : Program} (w : World) : ∀ (xs : List Int) (x : Int), ((xs.map (Value.int .i64)).foldlM Builtin.min2 (.int .i64 x)).run P w = .ok (.int .i64 (xs.foldl (fun m y => if y < m then y else m) x)) w
  | [], x => by simp
  | y :: r, x => by
    simp only [List.map_cons, List.foldlM_cons, Sem.run_bind, Builtin.min2, Sem.run_pure, Result.andThen_ok, List.foldl_cons]
    exact run_min w r _

theorem foldMM_sound (H : ∀ f ∈ st, Fact.holds E η a w f) (b : Bool) : ∀ (xs : List Operand) (ss : List SV) (x y : Int), evals st xs = some ss → foldMM b x ss = some y →
    ∃ zs : List Int, xs.map a.eval = zs.map (Value.int .i64) ∧ y = zs.foldl (fun m z => bif b then (if z > m then z else m) else (if z < m then z else m)) x
  | [], ss, x, y, h, hy => by
    simp only [evals, Option.some.injEq] at h
    subst h
    simp only [foldMM, Option.some.injEq] at hy
    exact ⟨[], rfl, hy.symm⟩
  | o :: xs, ss, x, y, h, hy => by
    simp only [evals] at h
    split at h
    case h_2 => cases h
    case h_1 s hs =>
      split at h
      case h_2 => cases h
      case h_1 l hl =>
        simp only [Option.some.injEq] at h
        subst h
        simp only [foldMM] at hy
        split at hy
        case h_2 => cases hy
        case h_1 z hz =>
          obtain ⟨zs, e1, e2⟩ := foldMM_sound H b xs l _ y hl hy
          exact ⟨z :: zs, by simp [e1, asI_sound hz (eval_sound H hs)], by simpa using e2⟩

def sizeIn (tt : TT) (t : Nat) : Nat := match tt.get t with | some i => i.size | none => 0

theorem run_places {P : Program} {tt : TT} (hT : TblOk P tt) (fa : Array Field) (w : World) {off m : Nat} (h : fieldsOk tt off (fa.toList.map fun f => (f.type, f.offset)) m = true) :
    (fa.mapM fun f => do pure (f.offset, ← sizeOf f.type) : Sem (Array (Nat × Nat))).run P w = .ok (fa.map fun f => (f.offset, sizeIn tt f.type)) w := by
  have key : ∀ (l : List Field) (off : Nat), fieldsOk tt off (l.map fun f => (f.type, f.offset)) m = true →
      (l.mapM fun f => do pure (f.offset, ← sizeOf f.type) : Sem (List (Nat × Nat))).run P w = .ok (l.map fun f => (f.offset, sizeIn tt f.type)) w := by
    intro l
    induction l with
    | nil => intro off _; simp
    | cons f r ih =>
      intro off hf
      simp only [List.map_cons, fieldsOk, Bool.and_eq_true] at hf
      cases hg : tt.get f.type with
      | none => rw [hg] at hf; simp at hf
      | some i =>
        rw [hg] at hf
        have h1 := run_sizeOf (hT.rows _ i hg) w
        have h2 := ih _ hf.2
        simp only [List.mapM_cons, Sem.run_bind, h1, Result.andThen_ok, Sem.run_pure, h2, List.map_cons, sizeIn, hg]
  have := key fa.toList off h
  rw [Array.mapM_eq_mapM_toList]
  simp only [Sem.run_map, this, Result.andThen_ok]
  congr 1
  apply Array.ext'; simp

theorem effOf_sound {c : Cfg} (hC : CfgOk E.P E.OB c) (g : Good E nt η a w) (H : ∀ f ∈ st, Fact.holds E η a w f) {o : Oper} {e : Eff} (h : effOf c st o = some e) : EffSem E η a w o e := by
  unfold effOf at h
  split at h
  case h_1 x ho =>       -- move
    split at h
    case h_2 => cases h
    case h_1 s hs => simp only [Option.some.injEq] at h; subst h; exact fun _ => ⟨a.eval x, by simp [execOp, ho], eval_sound H hs⟩
  case h_2 x ho =>       -- assign
    split at h
    case h_2 => cases h
    case h_1 s hs => simp only [Option.some.injEq] at h; subst h; exact fun _ => ⟨a.eval x, by simp [execOp, ho], eval_sound H hs⟩
  case h_3 x p q ho =>   -- pick
    split at h
    case h_1 b hx =>
      have hv : a.eval x = .bool b := eval_sound H hx
      split at h
      case h_2 => cases h
      case h_1 s hs =>
        simp only [Option.some.injEq] at h; subst h
        exact fun _ => ⟨a.eval (bif b then p else q), by cases b <;> simp [execOp, ho, hv, asBool], eval_sound H hs⟩
    case h_2 b hx =>
      have hv := holds_bool (eval_sound H hx)
      split at h
      case h_2 => cases h
      case h_1 s u hs hu =>
        have bb : ∀ {s : S1} {m : Bool} {v : Value}, s.asBool = some m → holdsV (vw E η w) η (.one s) v → v = .bool m := by
          intro s m v h1 h2
          cases s <;> simp only [S1.asBool] at h1 <;> try (cases h1; done)
          case lb b' => simp only [Option.some.injEq] at h1; subst h1; exact h2
          case d t y => cases t <;> simp only at h1 <;> try (cases h1; done)
                        simp only [Option.some.injEq] at h1; subst h1; exact holds_bool h2
        split at h
        case h_2 => cases h
        case h_1 m n hm hn =>
          simp only [Option.some.injEq] at h; subst h
          have v1 := bb hm (eval_sound H hs)
          have v2 := bb hn (eval_sound H hu)
          exact fun _ => ⟨.bool (cond b m n), by cases b <;> simp [execOp, ho, hv, asBool, v1, v2], bool_holds _⟩
    case h_3 => cases h
  case h_4 el ho =>      -- alloc
    split at h
    · rename_i i hi
      simp only [Option.some.injEq] at h; subst h
      obtain ⟨z, hz, hob⟩ := hC.obs el i hi
      exact ⟨z.cells, by simp [execOp, ho, Instr.alloc, hz w, newVar, newRow], hob⟩
    · split at h
      case h_2 => cases h
      case h_1 i hi =>
        split at h
        case h_2 => cases h
        case h_1 s hs =>
          split at h
          case h_2 => cases h
          case h_1 cs hcs =>
            simp only [Option.some.injEq] at h; subst h
            have hz := run_zeroValue (hC.tbl.rows el i hi) w
            refine ⟨i.zero.cells.toList, ?_, SV.cells_sound hcs (constSV_sound hs)⟩
            simp [execOp, ho, Instr.alloc, hz, newVar, newRow]
  case h_5 el x ho =>    -- box
    split at h
    case h_2 => cases h
    case h_1 s hs =>
      split at h
      case h_2 => cases h
      case h_1 cs hcs =>
        simp only [Option.some.injEq] at h; subst h
        exact ⟨(a.eval x).cells.toList, by simp [execOp, ho, Instr.box, newVar, newRow], SV.cells_sound hcs (eval_sound H hs)⟩
  case h_6 t ps ho =>    -- build
    split at h
    case h_2 => cases h
    case h_1 i hi =>
      have hI := hC.tbl.rows t i hi
      cases hag : i.kind.isAgg with
      | false => rw [hag] at h; simp at h
      | true =>
        rw [hag] at h
        simp only [cond_true] at h
        split at h
        case h_2 => cases h
        case h_1 z hz =>
          split at h
          case h_2 => cases h
          case h_1 cs hcs =>
            simp only [Option.some.injEq] at h; subst h
            obtain ⟨zv, hzv, hzc⟩ := constSV_sound (V := vw E η w) (η := η) hz
            have hzero := run_zeroValue hI w
            have hcells : i.zero.cells.toList = zv := by rw [hzv]; simp [Value.cells]
            cases hk : i.kind <;> rw [hk] at hag <;> try (cases hag; done)
            case struct fs =>
              have hd := hI.desc
              rw [hk] at hd
              obtain ⟨fa, hund, hfs⟩ := hd
              have hrow := hC.tbl.row hi
              simp only [rowOk, hk] at hrow
              have hrun := run_places hC.tbl fa w (by rw [hfs]; exact hrow)
              have hpl : ∀ i r, placeOf c.tt (.struct fs) i = some r → (fa.map (fun f => (f.offset, sizeIn c.tt f.type)))[i]? = some r := by
                intro j r hr
                simp only [placeOf] at hr
                split at hr
                case h_2 => cases hr
                case h_1 q hq =>
                  split at hr
                  case h_2 => cases hr
                  case h_1 gi hgi =>
                    simp only [Option.some.injEq] at hr
                    subst hr
                    rw [nth_eq, ← hfs, List.getElem?_map] at hq
                    cases hf : fa.toList[j]? with
                    | none => rw [hf] at hq; cases hq
                    | some fl =>
                      rw [hf] at hq
                      simp only [Option.map_some, Option.some.injEq] at hq
                      subst hq
                      have hf' : fa[j]? = some fl := by simpa using hf
                      simp only at hgi
                      simp [hf', sizeIn, hgi]
              rw [hk] at hcs
              obtain ⟨cur', q1, q2⟩ := buildParts_sound hpl H ps.toList z cs i.zero.cells hcs (by rw [hcells]; exact hzc)
              refine fun _ => ⟨.agg cur', ?_, ⟨cur'.toList, by simp, q2⟩⟩
              have hmap : (ps.map fun (p : Nat × Operand) => (p.1, a.eval p.2)).toList = ps.toList.map fun (p : Nat × Operand) => (p.1, a.eval p.2) := by simp
              simp only [execOp, ho, Instr.build, Sem.run_bind, hzero, Result.andThen_ok, run_underlying hund, hrun]
              rw [hmap, q1]
              rfl
            case array n el =>
              have hd := hI.desc
              rw [hk] at hd
              simp only at hd
              have hrow := hC.tbl.row hi
              simp only [rowOk, hk] at hrow
              split at hrow
              case h_2 => cases hrow
              case h_1 ei hei =>
                have hs := run_sizeOf (hC.tbl.rows el ei hei) w
                rw [hk] at hcs
                obtain ⟨cur', q1, q2⟩ := buildParts_sound (pl := fun i => some (i * ei.size, ei.size)) (by
                  intro j r hr
                  simp only [placeOf, hei] at hr
                  cases hb : Nat.blt j n with
                  | false => rw [hb] at hr; simp at hr
                  | true => rw [hb] at hr; simpa using hr) H ps.toList z cs i.zero.cells hcs (by rw [hcells]; exact hzc)
                refine fun _ => ⟨.agg cur', ?_, ⟨cur'.toList, by simp, q2⟩⟩
                have hmap : (ps.map fun (p : Nat × Operand) => (p.1, a.eval p.2)).toList = ps.toList.map fun (p : Nat × Operand) => (p.1, a.eval p.2) := by simp
                simp only [execOp, ho, Instr.build, Sem.run_bind, hzero, Result.andThen_ok, run_underlying hd, hs]
                rw [hmap, q1]
                rfl
  case h_7 t n ps ho =>  -- buildSlice
    split at h
    case h_2 => cases h
    case h_1 i hi =>
      have hd := (hC.tbl.rows t i hi).desc
      split at h
      case h_2 => cases h
      case h_1 el hk =>
        rw [hk] at hd
        simp only at hd
        split at h
        case h_2 => cases h
        case h_1 e' he =>
          split at h
          case h_2 => cases h
          case h_1 ei hei =>
            split at h
            case h_2 => cases h
            case h_1 xs hxs =>
              cases hz : (Nat.beq xs.length n && Nat.beq e'.size ei.size && Nat.ble n 4096 && Nat.ble ei.size 4096 && Nat.ble 1 ei.size) with
              | false => rw [hz] at h; simp at h
              | true =>
                rw [hz] at h
                simp only [cond_true, Option.some.injEq] at h
                subst h
                simp only [Bool.and_eq_true] at hz
                obtain ⟨⟨⟨⟨z1, z2⟩, z3⟩, z4⟩, z5⟩ := hz
                have z1 := Nat.eq_of_beq_eq_true z1
                have z2 := Nat.eq_of_beq_eq_true z2
                have z3 := Nat.le_of_ble_eq_true z3
                have z4 := Nat.le_of_ble_eq_true z4
                have z5 := Nat.le_of_ble_eq_true z5
                have hI := hC.tbl.rows el ei hei
                have hmul : n * ei.size ≤ 16777216 := Nat.le_trans (Nat.mul_le_mul z3 z4) (by decide)
                obtain ⟨cur', q1, q2, _, q4⟩ := elems_sound H ps.toList 0 xs (madeCells ei.zero.cells (n * ei.size)) hxs (by rw [size_madeCells, z1, z2]; omega)
                rw [z2] at q1
                have hmap : (ps.map fun (p : Nat × Operand) => (p.1, a.eval p.2)).toList = ps.toList.map fun (p : Nat × Operand) => (p.1, a.eval p.2) := by simp
                refine fun _ => ⟨n, cur', ?_, by rw [q2, size_madeCells, z2], by omega, by unfold maxLen; omega, fun i x hx => by have := q4 i x hx; rwa [Nat.zero_add] at this⟩
                have hs := run_sizeOf hI w
                have hzv := run_zeroValue hI w
                by_cases h0 : n * ei.size = 0
                · have hn0 : n = 0 := by rcases Nat.mul_eq_zero.1 h0 with h | h <;> omega
                  subst hn0
                  simp only [Nat.zero_mul, madeCells] at q1
                  have hx0 : xs = [] := List.eq_nil_of_length_eq_zero z1
                  subst hx0
                  have hp0 : ps.toList = [] := by
                    cases hp : ps.toList with
                    | nil => rfl
                    | cons q r =>
                      rw [hp] at hxs
                      simp only [elems] at hxs
                      cases hb : Nat.beq q.1 0 with
                      | false => rw [hb] at hxs; simp at hxs
                      | true =>
                        rw [hb] at hxs
                        simp only [cond_true] at hxs
                        split at hxs
                        · split at hxs
                          · split at hxs <;> simp at hxs
                          · cases hxs
                        · cases hxs
                  have hc0 : cur' = #[] := by
                    rw [hp0] at q1
                    simp only [List.map_nil, Instr.fill, Option.some.injEq] at q1
                    rw [← q1]; simp
                  simp [execOp, ho, Instr.buildSlice, run_underlying hd, hs, hmap, hp0, Instr.fill, newRow, hc0, Array.range_zero']
                · have h16 : ¬ (16777216 < n * ei.size) := by omega
                  simp [execOp, ho, Instr.buildSlice, run_underlying hd, hs, hzv, h0, h16, hmap, newRow, z1]
                  simp only [madeCells] at q1
                  rw [q1]
                  simp
  case h_8 t x ho =>     -- load
    split at h
    case h_2 => cases h
    case h_1 s hs => exact effLoad_sound hC.tbl H ho (eval_sound H hs) h
  case h_9 t x y ho =>   -- store
    split at h
    case h_2 => cases h
    case h_1 s u hs hu => exact effStore_sound hC.tbl H ho (eval_sound H hs) (eval_sound H hu) h
  case h_10 x ho =>      -- nilCheck
    split at h
    case h_4 => cases h
    case h_1 k off hx =>
      simp only [Option.some.injEq] at h; subst h
      obtain ⟨b, c, h1, h2⟩ := eval_sound H hx
      exact fun _ => ⟨.pointer (some ⟨b, off, none⟩), by simp [execOp, ho, h2], b, c, h1, rfl⟩
    case h_2 t y hx =>
      simp only [Option.some.injEq] at h; subst h
      obtain ⟨ad, c, h1, h2⟩ := eval_sound H hx
      exact fun _ => ⟨.pointer (some ad), by simp [execOp, ho, h1], ad, c, rfl, h2⟩
    case h_3 k j sz hx =>
      simp only [Option.some.injEq] at h; subst h
      obtain ⟨h0, b, c, h1, h2⟩ := eval_sound H hx
      exact fun _ => ⟨.pointer (some ⟨b, j.toNat * sz, none⟩), by simp [execOp, ho, h2], h0, b, c, h1, rfl⟩
  case h_11 op xt x y yt ho => -- binOp
    split at h
    case h_2 => cases h
    case h_1 s u hs hu => exact effBin_sound hC ho (eval_sound H hs) (eval_sound H hu) h
  case h_12 op ut x ho =>  -- unOp
    split at h
    case h_1 b hx =>
      simp only [Option.some.injEq] at h; subst h
      have hv : a.eval x = .bool b := eval_sound H hx
      exact fun _ => ⟨.bool (!b), by simp [execOp, ho, hv, Op.unary], rfl⟩
    case h_2 b hx =>
      simp only [Option.some.injEq] at h; subst h
      have hv := holds_bool (eval_sound H hx)
      exact fun _ => ⟨.bool (!b), by simp [execOp, ho, hv, Op.unary], bool_holds _⟩
    case h_3 k n hx =>
      simp only [Option.some.injEq] at h; subst h
      have hv := holds_int (eval_sound H hx)
      refine fun hr => ⟨.int k (-n), ?_, int_holds _ _⟩
      simp [execOp, ho, hv, Op.unary, Op.intArith, wrap_of_inR hr]
    case h_4 => cases h
  case h_13 s d x ho =>  -- convert
    split at h
    case h_3 => cases h
    case h_2 si di k n hsi hdi hx =>
      split at h
      case h_2 => cases h
      case h_1 k1 k' hk1 hk' =>
        simp only [Option.some.injEq] at h; subst h
        have hv : a.eval x = .float k n := holds_flt (eval_sound H hx)
        have d1 := (hC.tbl.rows s si hsi).desc
        have d2 := (hC.tbl.rows d di hdi).desc
        rw [hk1] at d1
        rw [hk'] at d2
        simp only at d1 d2
        intro hs
        obtain ⟨m, hm⟩ := Option.isSome_iff_exists.1 hs
        exact ⟨.int k' m, by simp [execOp, ho, hv, run_convert_float_int w s d k k' n m (by rw [d1]; rfl) d2 hm], by rw [hm]; exact int_holds _ _⟩
    case h_1 si di k n hsi hdi hx =>
      split at h
      case h_3 => cases h
      case h_2 k1 k' hk1 hk' =>
        simp only [Option.some.injEq] at h; subst h
        have hv := holds_int (eval_sound H hx)
        have d1 := (hC.tbl.rows s si hsi).desc
        have d2 := (hC.tbl.rows d di hdi).desc
        rw [hk1] at d1
        rw [hk'] at d2
        simp only at d1 d2
        exact fun _ => ⟨.float k' (floatOfInt k' n), by simp [execOp, ho, hv, run_convert_int_float w s d k k' n (by rw [d1]; rfl) d2], flt_holds _ _⟩
      case h_1 k1 k' hk1 hk' =>
        split at h
        case isFalse => cases h
        case isTrue he =>
          subst he
          simp only [Option.some.injEq] at h; subst h
          have hv := holds_int (eval_sound H hx)
          have d1 := (hC.tbl.rows s si hsi).desc
          have d2 := (hC.tbl.rows d di hdi).desc
          rw [hk1] at d1
          rw [hk'] at d2
          simp only at d1 d2
          exact fun hr => ⟨.int k n, by simp [execOp, ho, hv, convert, run_underlying d1, run_underlying d2, Conv.intToInt, wrap_of_inR hr], int_holds _ _⟩
  case h_14 t l m ho =>  -- makeSlice
    split at h
    case h_2 => cases h
    case h_1 i hi =>
      have hd := (hC.tbl.rows t i hi).desc
      split at h
      case h_2 => cases h
      case h_1 el hk =>
        rw [hk] at hd
        simp only at hd
        split at h
        case h_2 => cases h
        case h_1 e' ei sl sm he hei hl hm =>
          split at h
          case h_2 => cases h
          case h_1 z n n' hz hn hn' =>
            split at h
            case h_2 => cases h
            case h_1 x hx =>
              cases hzz : (Nat.beq e'.size ei.size && Nat.ble ei.bytes 65536 && Nat.ble 1 ei.size) with
              | false => rw [hzz] at h; simp at h
              | true =>
                rw [hzz] at h
                simp only [cond_true, Option.some.injEq] at h
                subst h
                simp only [Bool.and_eq_true] at hzz
                obtain ⟨⟨z2, z3⟩, z4⟩ := hzz
                have z2 := Nat.eq_of_beq_eq_true z2
                have z3 := Nat.le_of_ble_eq_true z3
                have z4 := Nat.le_of_ble_eq_true z4
                rintro ⟨h0, h1, h2⟩
                subst h0
                obtain ⟨pi, hpi, hps, hpb, hpz⟩ := (hC.tbl.rows el ei hei).info
                have v1 := asI_sound hn (eval_sound H hl)
                have v2 := asI_sound hn' (eval_sound H hm)
                have hb : (pi.bytes : Int) * n' ≤ 281474976710656 := by
                  have h3 : (pi.bytes : Int) ≤ 65536 := by omega
                  have h4 : n' ≤ 2147483648 := h2
                  have := Int.mul_le_mul h3 h4 h1 (by omega)
                  omega
                have hrun := run_make (P := E.P) w t el pi ei.zero hd hpi hpz .i64 .i64 n' n' h1 (Int.le_refl _) hb (by have h4 : n' ≤ 2147483648 := h2; omega)
                refine ⟨n'.toNat, madeCells ei.zero.cells (n'.toNat * pi.size), by simp only [execOp, ho, v1, v2, Sem.run_bind, hrun, Result.andThen_ok, Sem.run_pure, repl_len], by rw [size_madeCells, hps, z2], by simp [repl_len], by unfold maxLen; have h4 : n' ≤ 2147483648 := h2; omega, fun i y hy => ?_⟩
                have hi' := (List.getElem?_eq_some_iff.1 hy).1
                simp only [repl_len] at hi'
                rw [repl_eq, List.getElem?_replicate] at hy
                rw [if_pos hi'] at hy
                simp only [Option.some.injEq] at hy
                subst hy
                rw [hps, ← z2]
                exact madeCells_rep (RepV.cells (SV.den_sound (V := vw E η w) (η := η) hx (constSV_sound hz))) (by omega) _ _ hi'
  case h_15 t x lo hi' ho =>  -- slice
    split at h
    case h_2 => cases h
    case h_1 i s l hh hi hs hl hhh => exact effSlice_sound hC.tbl hi ho (eval_sound H hs) hl hhh H h
  case h_16 s x f ho =>  -- fieldAddr
    split at h
    case h_2 => cases h
    case h_1 u hu => exact effFieldAddr_sound hC.tbl ho (eval_sound H hu) h
  case h_17 s x f ho =>  -- field
    split at h
    case h_2 => cases h
    case h_1 u hu => exact effField_sound hC.tbl ho (eval_sound H hu) h
  case h_18 t x y ho =>  -- indexAddr
    split at h
    case h_2 => cases h
    case h_1 u j hu hj => exact effIndexAddr_sound hC.tbl ho (eval_sound H hu) (eval_sound H hj) h
  case h_19 x i ho =>    -- extract
    split at h
    case h_2 => cases h
    case h_1 ss hx =>
      split at h
      case h_2 => cases h
      case h_1 s hs =>
        simp only [Option.some.injEq] at h; subst h
        obtain ⟨vs, hv, hl⟩ := eval_sound H hx
        have key : ∀ (ss : List S1) (vs : List Value) (i : Nat) (s : S1), holdsL (vw E η w) η ss vs → nth ss i = some s → ∃ v, vs[i]? = some v ∧ holds1 (vw E η w) η s v := by
          intro ss
          induction ss with
          | nil => intro vs i s _ h; simp [nth] at h
          | cons u r ih =>
            intro vs i s h1 h2
            cases vs with
            | nil => exact h1.elim
            | cons v l =>
              cases i with
              | zero => simp only [nth, Option.some.injEq] at h2; subst h2; exact ⟨v, by simp, h1.1⟩
              | succ i => simpa using ih l i s h1.2 h2
        obtain ⟨v, e1, e2⟩ := key ss vs i s hl hs
        exact fun _ => ⟨v, by simp [execOp, ho, hv, Instr.extract, e1], e2⟩
  case h_20 args ats ho =>  -- len
    split at h
    case h_2 => cases h
    case h_1 x t hx ht =>
      split at h
      case h_2 => cases h
      case h_1 s hs =>
        have ha : args = #[x] := Array.ext' (by simpa using hx)
        have ht' : ats = #[t] := Array.ext' (by simpa using ht)
        subst ha; subst ht'
        exact effLen_sound hC.tbl ho (eval_sound H hs) h rfl
  case h_21 args ats ho =>  -- max
    split at h
    case h_2 => cases h
    case h_1 s r hr =>
      split at h
      case h_2 => cases h
      case h_1 x hx =>
        split at h
        case h_2 => cases h
        case h_1 y hy =>
          simp only [Option.some.injEq] at h; subst h
          cases hargs : args.toList with
          | nil => rw [hargs] at hr; simp [evals] at hr
          | cons o1 os =>
            rw [hargs] at hr
            simp only [evals] at hr
            split at hr
            case h_2 => cases hr
            case h_1 s1 hs1 =>
              split at hr
              case h_2 => cases hr
              case h_1 l1 hl1 =>
                simp only [Option.some.injEq, List.cons.injEq] at hr
                obtain ⟨rfl, rfl⟩ := hr
                obtain ⟨zs, e1, e2⟩ := foldMM_sound H true os _ x y hl1 hy
                have hv := asI_sound hx (eval_sound H hs1)
                refine fun _ => ⟨.int .i64 y, ?_, int_holds _ _⟩
                have hrun := run_max (P := E.P) w zs x
                simp only [cond_true] at e2
                rw [← e2] at hrun
                simp only [execOp, ho, resolve, invoke, builtin, Sem.run_bind, Sem.run_pure, Result.andThen_ok, Builtin.max_, Array.toList_map, hargs, List.map_cons, hv, e1, hrun]
  case h_22 args ats ho =>  -- min
    split at h
    case h_2 => cases h
    case h_1 s r hr =>
      split at h
      case h_2 => cases h
      case h_1 x hx =>
        split at h
        case h_2 => cases h
        case h_1 y hy =>
          simp only [Option.some.injEq] at h; subst h
          cases hargs : args.toList with
          | nil => rw [hargs] at hr; simp [evals] at hr
          | cons o1 os =>
            rw [hargs] at hr
            simp only [evals] at hr
            split at hr
            case h_2 => cases hr
            case h_1 s1 hs1 =>
              split at hr
              case h_2 => cases hr
              case h_1 l1 hl1 =>
                simp only [Option.some.injEq, List.cons.injEq] at hr
                obtain ⟨rfl, rfl⟩ := hr
                obtain ⟨zs, e1, e2⟩ := foldMM_sound H false os _ x y hl1 hy
                have hv := asI_sound hx (eval_sound H hs1)
                refine fun _ => ⟨.int .i64 y, ?_, int_holds _ _⟩
                have hrun := run_min (P := E.P) w zs x
                simp only [cond_false] at e2
                rw [← e2] at hrun
                simp only [execOp, ho, resolve, invoke, builtin, Sem.run_bind, Sem.run_pure, Result.andThen_ok, Builtin.min_, Array.toList_map, hargs, List.map_cons, hv, e1, hrun]
  case h_23 args ats ho =>  -- append
    split at h
    case h_2 => cases h
    case h_1 x y t t' hx ht =>
      split at h
      case h_2 => cases h
      case h_1 s u hs hu =>
        cases hb : Nat.beq t t' with
        | false => rw [hb] at h; simp at h
        | true =>
          rw [hb] at h
          simp only [cond_true] at h
          have hb := Nat.eq_of_beq_eq_true hb
          subst hb
          have ha : args = #[x, y] := Array.ext' (by simpa using hx)
          have ht' : ats = #[t, t] := Array.ext' (by simpa using ht)
          subst ha; subst ht'
          exact effAppend_sound hC.tbl H ho (eval_sound H hs) (eval_sound H hu) h
  case h_24 fo args ats ho =>  -- call
    split at h
    case h_2 => cases h
    case h_1 f fa ca hx =>
      cases hz : (fa.size == 0 && ca.size == 0) with
      | false => rw [hz] at h; simp at h
      | true =>
        rw [hz] at h
        simp only [cond_true] at h
        simp only [Bool.and_eq_true, beq_iff_eq] at hz
        have h1 := Array.eq_empty_of_size_eq_zero hz.1
        have h2 := Array.eq_empty_of_size_eq_zero hz.2
        subst h1; subst h2
        split at h
        case h_2 =>
          cases hme : memN f c.ext with
          | false => rw [hme] at h; simp at h
          | true =>
            rw [hme] at h
            simp only [cond_true] at h
            split at h
            case h_2 => cases h
            case h_1 y hl =>
              simp only [Option.some.injEq] at h; subst h
              obtain ⟨fn, f1, f2, f3, f4, f5⟩ := hC.ext f hme
              have hv := evals_one H hl
              obtain ⟨x1, hx1, hx2⟩ := hv
              have hxv : a.eval x1 = .float .f64 y := holds_flt hx2
              have hfv : a.eval fo = .func (.func f) #[] #[] := eval_sound H hx
              intro hs
              obtain ⟨m, hm⟩ := Option.isSome_iff_exists.1 hs
              refine ⟨.float .f64 m, ?_, by rw [hm]; exact flt_holds _ _⟩
              have hargs : args.map a.eval = #[.float .f64 y] := by
                apply Array.ext'
                simp [hx1, hxv]
              have hrun := run_callFunc_extern (P := E.P) f1 f2 f3 f4 f5 #[.float .f64 y] w
              have hsq : (Extern.MathSqrt.sqrt #[.float .f64 y]).run E.P w = .ok (.float .f64 m) w := by
                change (match FloatKind.f64.format.sqrt y with
                  | some r => (pure (.float .f64 r) : Sem Value)
                  | none => do pure (.float .f64 (← choose (.nanBits .f64 y y)))).run E.P w = _
                rw [hm]
                rfl
              rw [hsq] at hrun
              simp [execOp, ho, resolve, Deferred.ofValue, hfv, invoke, hargs, hrun]
        case h_1 sp hsp =>
          split at h
          case h_2 => cases h
          case h_1 l hl =>
            split at h
            case h_2 => cases h
            case h_1 x oks hm =>
              simp only [Option.some.injEq] at h; subst h
              exact call_sound hC g H ho (eval_sound H hx) hsp hl hm
  case h_25 => cases h

end
end Go.Eng
