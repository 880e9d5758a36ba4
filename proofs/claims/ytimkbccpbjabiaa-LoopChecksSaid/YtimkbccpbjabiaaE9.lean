/- More operations: fields, indexes, lengths, comparisons of structs, slices of slices. Conditions: the table of types is the program's. -/
import Derived.Test.YtimkbccpbjabiaaE8
set_option linter.all false
namespace Go.Eng

theorem nth_eq {α : Type} : ∀ (l : List α) (i : Nat), nth l i = l[i]?
  | [], i => by simp [nth]
  | a :: r, 0 => by simp [nth]
  | a :: r, i + 1 => by simp [nth, nth_eq r i]

section
variable {E : Env} {nt : Nat} {η : Eta} {st : St} {a : Act} {w : World}

theorem struct_field {P : Program} {s : Nat} {i : TInfo} (hI : TIOk P s i) {fs : List (Nat × Nat)} (hk : i.kind = .struct fs) {f : Nat} {g : Nat × Nat} (hg : nth fs f = some g) :
    ∃ fa : Array Field, P.underlying s = some (.struct fa) ∧ ∃ fl : Field, fa[f]? = some fl ∧ fl.type = g.1 ∧ fl.offset = g.2 := by
  have hd := hI.desc
  rw [hk] at hd
  obtain ⟨fa, h1, h2⟩ := hd
  refine ⟨fa, h1, ?_⟩
  rw [nth_eq, ← h2, List.getElem?_map] at hg
  cases hf : fa.toList[f]? with
  | none => rw [hf] at hg; cases hg
  | some fl =>
    rw [hf] at hg
    simp only [Option.map_some, Option.some.injEq] at hg
    subst hg
    exact ⟨fl, by simpa using hf, rfl, rfl⟩

theorem field_rep {V : View} {tt : TT} (hok : tblOk tt tt = true) : ∀ (n : Nat) (fs : List (Nat × Nat)) (ty : Ty) (off m f : Nat) (g : Nat × Nat) (gi : TInfo) (x : ty.Den) (y : (b : Ty) × b.Den) (l : List Value),
    tyOfs tt n fs = some ty → fieldsOk tt off fs m = true → nth fs f = some g → tt.get g.1 = some gi → fieldD ty x f = some y → Rep V ty x l →
    off ≤ g.2 ∧ Rep V y.1 y.2 ((l.drop (g.2 - off)).take y.1.size) ∧ g.2 - off + y.1.size ≤ ty.size ∧ y.1.size = gi.size ∧ y.1.agg = gi.kind.isAgg
  | 0, fs, _, _, _, _, _, _, _, _, _, h, _, _, _, _, _ => by cases fs <;> simp [tyOfs] at h
  | n + 1, [], ty, off, m, f, g, gi, x, y, l, h, hf, hg, _, _, _ => by simp [nth] at hg
  | n + 1, q :: r, ty, off, m, f, g, gi, x, y, l, h, hf, hg, hgi, hy, hr => by
    simp only [tyOfs] at h
    simp only [fieldsOk, Bool.and_eq_true] at hf
    have hoff := Nat.eq_of_beq_eq_true hf.1
    cases h0 : tt.get q.1 with
    | none => rw [h0] at hf; simp at hf
    | some qi =>
      rw [h0] at hf
      cases h1 : tyOf tt n q.1 with
      | none => rw [h1] at h; simp at h
      | some u =>
        rw [h1] at h
        cases h2 : tyOfs tt n r with
        | none => rw [h2] at h; simp at h
        | some u2 =>
          rw [h2] at h
          simp only [Option.some.injEq] at h
          subst h
          have e1 := tyOf_size hok n q.1 u qi h1 h0
          obtain ⟨l1, l2, rfl, r1, r2⟩ := hr
          have hl1 := Rep.length _ _ _ r1
          cases f with
          | zero =>
            simp only [nth, Option.some.injEq] at hg
            subst hg
            simp only [fieldD, Option.some.injEq] at hy
            subst hy
            rw [h0] at hgi
            simp only [Option.some.injEq] at hgi
            subst hgi
            refine ⟨by omega, ?_, by simp only [Ty.size]; omega, e1.1, e1.2⟩
            rw [hoff, Nat.sub_self, List.drop_zero, List.take_append_of_le_length (by simp only; omega), List.take_of_length_le (by simp only; omega)]
            exact r1
          | succ f =>
            simp only [nth] at hg
            simp only [fieldD] at hy
            have ih := field_rep hok n r u2 (off + qi.size) m f g gi x.2 y l2 h2 hf.2 hg hgi hy r2
            refine ⟨by omega, ?_, by simp only [Ty.size]; omega, ih.2.2.2⟩
            have : (l1 ++ l2).drop (g.2 - off) = l2.drop (g.2 - (off + qi.size)) := by
              rw [List.drop_append, List.drop_of_length_le (by omega), List.nil_append]
              congr 1; omega
            rw [this]
            exact ih.2.1

theorem tyOf_struct {tt : TT} {n s : Nat} {ty : Ty} {i : TInfo} {fs : List (Nat × Nat)} (h : tyOf tt n s = some ty) (hg : tt.get s = some i) (hk : i.kind = .struct fs) : ∃ m, tyOfs tt m fs = some ty := by
  cases n with
  | zero => simp [tyOf] at h
  | succ n => simp only [tyOf, hg, hk] at h; exact ⟨n, h⟩

theorem effFieldAddr_sound {tt : TT} (hT : TblOk E.P tt) {o : Oper} {s : Nat} {x : Operand} {f : Nat} (ho : o.op = .fieldAddr s x f) {u : SV} (hu : holdsV (vw E η w) η u (a.eval x)) {e : Eff}
    (h : effFieldAddr tt s u f = some e) : EffSem E η a w o e := by
  unfold effFieldAddr at h
  split at h
  case h_2 => cases h
  case h_1 i hi =>
    have hI := hT.rows s i hi
    split at h
    case h_2 => cases h
    case h_1 fs hk =>
      split at h
      case h_2 => cases h
      case h_1 g hg =>
        split at h
        case h_2 => cases h
        case h_1 gi hgi =>
          obtain ⟨fa, hund, fl, hfl, hty, hof⟩ := struct_field hI hk hg
          have hG := hT.rows g.1 gi hgi
          have hrow := hT.row hi
          simp only [rowOk, hk] at hrow
          cases hz : Nat.beq gi.size 0 with
          | true => rw [hz] at h; simp at h
          | false =>
            rw [hz] at h
            simp only [cond_false] at h
            have hne : gi.size ≠ 0 := Nat.ne_of_beq_eq_false hz
            have run : ∀ ad : Addr, (Instr.fieldAt s (.pointer (some ad)) f).run E.P w = .ok (.pointer (some (ad.add g.2))) w := by
              intro ad
              have hs : (sizeOf fl.type).run E.P w = .ok gi.size w := by rw [hty]; exact run_sizeOf hG w
              simp [Instr.fieldAt, run_underlying hund, hfl, Instr.sureAddr, fieldPlace, hs, hne, hof]
            split at h
            case h_1 k off =>
              simp only [Option.some.injEq] at h
              subst h
              obtain ⟨b, c, hkk, hv⟩ := hu
              exact fun _ => ⟨.pointer (some ⟨b, off + g.2, none⟩), by simp [execOp, ho, hv, run, add_none], ⟨b, c, hkk, rfl⟩⟩
            case h_2 t y =>
              split at h
              case h_2 => cases h
              case h_1 t' ht' =>
                split at h
                case isFalse => cases h
                case isTrue he =>
                  subst he
                  split at h
                  case h_2 => cases h
                  case h_1 z hzz =>
                    simp only [Option.some.injEq] at h
                    subst h
                    obtain ⟨ad, c, hv, hsp, hV, hsz, hr⟩ := hu
                    obtain ⟨m, hm⟩ := tyOf_struct ht' hi hk
                    obtain ⟨_, hrep, hle, _, _⟩ := field_rep hT.ok m fs _ 0 i.size f g gi y z _ hm hrow hg hgi hzz hr
                    obtain ⟨b, off, sp⟩ := ad
                    simp only at hsp hV hsz hr hrep
                    subst hsp
                    refine fun _ => ⟨.pointer (some ⟨b, off + g.2, none⟩), by simp [execOp, ho, hv, run, add_none], ⟨⟨b, off + g.2, none⟩, c, rfl, rfl, hV, by simp only; omega, ?_⟩⟩
                    simp only [Nat.sub_zero] at hrep
                    rw [List.drop_take, List.drop_drop, List.take_take] at hrep
                    rw [Nat.min_eq_left (by omega)] at hrep
                    exact hrep
            case h_3 => cases h

theorem holdsC_split {V : View} : ∀ {cs : List S1} {vs : List Value} (n : Nat), holdsC V η cs vs → holdsC V η (cs.drop n) (vs.drop n) ∧ holdsC V η (cs.take n) (vs.take n)
  | [], [], n, _ => by simp [holdsC]
  | [], _ :: _, _, h => h.elim
  | _ :: _, [], _, h => h.elim
  | s :: r, v :: l, 0, h => by simpa [holdsC] using h
  | s :: r, v :: l, n + 1, ⟨h1, h2, h3⟩ => by
    have ih := holdsC_split n h3
    exact ⟨by simpa using ih.1, h1, h2, ih.2⟩

theorem run_part {P : Program} {t : Nat} {i : TInfo} (hI : TIOk P t i) (cs : Array Value) (off : Nat) (w : World) : (part t cs off).run P w =
    if i.kind.isAgg then .ok (.agg (cs.extract off (off + i.size))) w else match cs[off]? with | some v => .ok v w | none => .halt (.stuck "part: no such cell") w := by
  simp only [part, Sem.run_bind, run_isAgg hI, Result.andThen_ok]
  cases hk : i.kind.isAgg with
  | true => simp [run_sizeOf hI]
  | false => cases cs[off]? <;> simp

theorem effField_sound {tt : TT} (hT : TblOk E.P tt) {o : Oper} {s : Nat} {x : Operand} {f : Nat} (ho : o.op = .field s x f) {u : SV} (hu : holdsV (vw E η w) η u (a.eval x)) {e : Eff}
    (h : effField tt s u f = some e) : EffSem E η a w o e := by
  unfold effField at h
  split at h
  case h_2 => cases h
  case h_1 i hi =>
    have hI := hT.rows s i hi
    split at h
    case h_2 => cases h
    case h_1 fs hk =>
      split at h
      case h_2 => cases h
      case h_1 g hg =>
        split at h
        case h_2 => cases h
        case h_1 gi hgi =>
          obtain ⟨fa, hund, fl, hfl, hty, hof⟩ := struct_field hI hk hg
          have hG := hT.rows g.1 gi hgi
          have hrow := hT.row hi
          simp only [rowOk, hk] at hrow
          have run : ∀ cs : Array Value, (Instr.field s (.agg cs) f).run E.P w = (part g.1 cs g.2).run E.P w := by
            intro cs
            simp [Instr.field, run_underlying hund, hfl, asAgg, hty, hof]
          split at h
          case h_1 t y =>
            split at h
            case h_2 => cases h
            case h_1 t' ht' =>
              split at h
              case isFalse => cases h
              case isTrue he =>
                subst he
                split at h
                case h_2 => cases h
                case h_1 z hzz =>
                  simp only [Option.some.injEq] at h
                  subst h
                  obtain ⟨m, hm⟩ := tyOf_struct ht' hi hk
                  obtain ⟨l, hr, ⟨_, hv⟩ | ⟨hag, _⟩⟩ := hu
                  · obtain ⟨_, hrep, hle, hsz, hag⟩ := field_rep hT.ok m fs _ 0 i.size f g gi y z _ hm hrow hg hgi hzz hr
                    simp only [Nat.sub_zero] at hrep
                    have hlen := Rep.length _ _ _ hrep
                    cases hga : gi.kind.isAgg with
                    | true =>
                      refine fun _ => ⟨.agg ((l.drop g.2).take z.1.size).toArray, ?_, ⟨_, hrep, .inl ⟨hag.trans hga, rfl⟩⟩⟩
                      simp [execOp, ho, hv, run, run_part hG, hga, hsz, List.extract_eq_take_drop]
                    | false =>
                      have h1 : ∃ v, (l.drop g.2).take z.1.size = [v] := by
                        have h2 : z.1.size = 1 := by
                          have := hag.trans hga
                          cases hz1 : z.1 <;> first | rfl | (rw [hz1] at this; simp [Ty.agg] at this)
                        rw [h2] at hlen ⊢
                        match hh : (l.drop g.2).take 1, hlen with
                        | [v], _ => exact ⟨v, rfl⟩
                      obtain ⟨v, hv1⟩ := h1
                      rw [hv1] at hrep
                      have hat := rep_at (cur := l) (off := g.2) (n := z.1.size) (V := vw E η w) (x := z.2) (by rw [hv1]; exact hrep) rfl 0 v (by rw [hv1]; rfl)
                      refine fun _ => ⟨v, ?_, RepV.mk1 (hag.trans hga) hrep⟩
                      have hat' : l[g.2]? = some v := by simpa using hat
                      simp [execOp, ho, hv, run, run_part hG, hga, hat']
                  · exfalso
                    have := (tyOfs_size hT.ok m fs _ 0 i.size hm hrow).2
                    rw [this] at hag; cases hag
          case h_2 cs =>
            obtain ⟨vs, hv, hc⟩ := hu
            cases hga : gi.kind.isAgg with
            | true =>
              rw [hga] at h
              simp only [cond_true, Option.some.injEq] at h
              subst h
              refine fun _ => ⟨.agg ((vs.drop g.2).take gi.size).toArray, ?_, ⟨_, rfl, (holdsC_split gi.size (holdsC_split g.2 hc).1).2⟩⟩
              simp [execOp, ho, hv, run, run_part hG, hga, List.extract_eq_take_drop]
            | false =>
              rw [hga] at h
              simp only [cond_false] at h
              split at h
              case h_2 => cases h
              case h_1 s1 hs1 =>
                simp only [Option.some.injEq] at h
                subst h
                rw [nth_eq] at hs1
                obtain ⟨v, q1, _, q3⟩ := holdsC_get hc g.2 s1 hs1
                exact fun _ => ⟨v, by simp [execOp, ho, hv, run, run_part hG, hga, q1], q3⟩
          case h_3 => cases h

theorem effIndexAddr_sound {tt : TT} (hT : TblOk E.P tt) {o : Oper} {t : Nat} {x y : Operand} (ho : o.op = .indexAddr t x y) {u j : SV} (hu : holdsV (vw E η w) η u (a.eval x))
    (hj : holdsV (vw E η w) η j (a.eval y)) {e : Eff} (h : effIndexAddr tt t u j = some e) : EffSem E η a w o e := by
  unfold effIndexAddr at h
  split at h
  case h_2 => cases h
  case h_1 jj hjj =>
    have hjv := asI_sound hjj hj
    split at h
    case h_2 => cases h
    case h_1 ti hti =>
      split at h
      case h_3 => cases h
      case h_1 el hk =>
        have hd := (hT.rows t ti hti).desc
        rw [hk] at hd
        simp only at hd
        split at h
        case h_1 ty xs =>
          split at h
          case h_2 => cases h
          case h_1 ty' hty =>
            split at h
            case isFalse => cases h
            case isTrue he =>
              subst he
              simp only [Option.some.injEq] at h
              subst h
              intro ⟨h0, h1⟩
              obtain ⟨l, ⟨ad, cap, e1, e2, e3, e4, e5⟩, ⟨hf, _⟩ | ⟨_, hv⟩⟩ := hu
              · cases hf
              · rw [e1] at hv
                simp only [List.cons.injEq, and_true] at hv
                have hlt : jj.toNat < List.length (α := ty'.Den) xs := by omega
                cases ad with
                | none => exact absurd (e4 rfl).1 (by intro hh; rw [hh] at hlt; simp at hlt)
                | some ad =>
                  have hne : xs ≠ [] := by intro hh; rw [hh] at hlt; simp at hlt
                  obtain ⟨hsp, c, hV, hsz, hrep⟩ := e5 ad rfl hne
                  obtain ⟨b, off, sp⟩ := ad
                  simp only at hsp hV hsz hrep
                  subst hsp
                  have hei : ∃ ei, tt.get el = some ei := by
                    unfold tyOf at hty
                    split at hty
                    · rename_i i hi; exact ⟨i, hi⟩
                    · cases hty
                  obtain ⟨ei, hei⟩ := hei
                  have hS := run_sizeOf (hT.rows el ei hei) w
                  have hes := (tyOf_size hT.ok 20 el _ ei hty hei).1
                  refine ⟨.pointer (some ⟨b, off + jj.toNat * ty'.size, none⟩), ?_, ⟨⟨b, off + jj.toNat * ty'.size, none⟩, c, rfl, rfl, hV, ?_, ?_⟩⟩
                  · simp only [execOp, ho, ← hv, hjv, Sem.run_bind, Instr.indexAt, asIntOf, Sem.run_pure, Result.andThen_ok, run_underlying hd]
                    simp [h0, h1, hS, hes, add_none]
                  · have := Nat.mul_le_mul_right ty'.size (show jj.toNat + 1 ≤ List.length (α := ty'.Den) xs by omega)
                    rw [Nat.add_mul, Nat.one_mul] at this
                    simp only; omega
                  · have := hrep jj.toNat _ (List.getElem?_eq_getElem hlt)
                    have hget : List.getD (α := ty'.Den) xs jj.toNat ty'.dflt = (show List ty'.Den from xs)[jj.toNat] := by simp [List.getD, List.getElem?_eq_getElem hlt]
                    rw [hget]
                    exact this
        case h_2 k n =>
          split at h
          case h_2 => cases h
          case h_1 ei hei =>
            simp only [Option.some.injEq] at h
            subst h
            intro ⟨h0, h1⟩
            rcases hu with ⟨_, rfl, _⟩ | ⟨b, c, hkk, hv, hn⟩
            · exfalso
              omega
            · have hS := run_sizeOf (hT.rows el ei hei) w
              refine ⟨.pointer (some ⟨b, jj.toNat * ei.size, none⟩), ?_, h0, b, c, hkk, rfl⟩
              simp only [execOp, ho, hv, hjv, Sem.run_bind, Instr.indexAt, asIntOf, Sem.run_pure, Result.andThen_ok, run_underlying hd]
              simp [h0, h1, hS, add_none]
        case h_3 => cases h
      case h_2 n el hk =>
        have hd := (hT.rows t ti hti).desc
        rw [hk] at hd
        simp only at hd
        split at h
        case h_2 => cases h
        case h_1 k off =>
          split at h
          case h_2 => cases h
          case h_1 ei hei =>
            split at h
            case h_2 => cases h
            case h_1 m =>
              cases hb : Nat.blt m n with
              | false => rw [hb] at h; simp at h
              | true =>
                rw [hb] at h
                simp only [cond_true, Option.some.injEq] at h
                subst h
                have hmn : m < n := by simpa using hb
                obtain ⟨b, c, hkk, hv⟩ := hu
                have hS := run_sizeOf (hT.rows el ei hei) w
                refine fun _ => ⟨.pointer (some ⟨b, off + m * ei.size, none⟩), ?_, b, c, hkk, rfl⟩
                simp only [execOp, ho, hv, hjv, Sem.run_bind, Instr.indexAt, asIntOf, Sem.run_pure, Result.andThen_ok, run_underlying hd]
                simp [hmn, hS, add_none, Instr.sureAddr]

end
end Go.Eng
