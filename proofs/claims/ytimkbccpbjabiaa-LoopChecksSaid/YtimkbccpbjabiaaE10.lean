/- More operations: comparisons, lengths, slices of slices, appends. Conditions: the table of types is the program's. -/
import Derived.Test.YtimkbccpbjabiaaE9
import Derived.Laws.Cover3
set_option linter.all false
namespace Go.Eng

section
variable {E : Env} {nt : Nat} {η : Eta} {st : St} {a : Act} {w : World}

theorem isBoolT_und {P : Program} {tt : TT} (hT : TblOk P tt) {t : Nat} (h : isBoolT tt t = true) : P.underlying t = some .bool := by
  unfold isBoolT at h
  cases hi : tt.get t with
  | none => rw [hi] at h; cases h
  | some i =>
    simp only [hi] at h
    have := (hT.rows t i hi).desc
    cases hk : i.kind <;> simp only [hk] at this h <;> first | exact this | cases h

theorem isSliceT_und {P : Program} {tt : TT} (hT : TblOk P tt) {t : Nat} (h : isSliceT tt t = true) : ∃ e, P.underlying t = some (.slice e) := by
  unfold isSliceT at h
  split at h
  · rename_i i hi
    have hd := (hT.rows t i hi).desc
    split at h
    · rename_i e hk; rw [hk] at hd; exact ⟨e, hd⟩
    · cases h
  · cases h

theorem effBin_sound {c : Cfg} (hC : CfgOk E.P E.OB c) {o : Oper} {op : BinOp} {xt yt : Nat} {x y : Operand} (ho : o.op = .binOp op xt x y yt) {s u : SV}
    (hs : holdsV (vw E η w) η s (a.eval x)) (hu : holdsV (vw E η w) η u (a.eval y)) {e : Eff} (h : effBin c.tt c.eqs op xt s u = some e) : EffSem E η a w o e := by
  unfold effBin at h
  split at h
  case h_1 k m k' n =>
    split at h
    case isFalse => cases h
    case isTrue he =>
      subst he
      exact binI_sound ho (holds_int hs) (holds_int hu) h
  case h_2 m n =>
    split at h
    case isFalse => cases h
    case isTrue hT => exact binB_sound ho (isBoolT_und hC.tbl hT) (lb_bool hs) (lb_bool hu) h
  case h_3 m n =>
    split at h
    case isFalse => cases h
    case isTrue hT => exact binB_sound ho (isBoolT_und hC.tbl hT) (holds_bool hs) (holds_bool hu) h
  case h_4 m n =>
    split at h
    case isFalse => cases h
    case isTrue hT => exact binB_sound ho (isBoolT_und hC.tbl hT) (lb_bool hs) (holds_bool hu) h
  case h_5 m n =>
    split at h
    case isFalse => cases h
    case isTrue hT => exact binB_sound ho (isBoolT_und hC.tbl hT) (holds_bool hs) (lb_bool hu) h
  case h_6 el xs z =>
    cases hz : (isNilSlice z && isSliceT c.tt xt) with
    | false => rw [hz] at h; simp at h
    | true =>
      rw [hz] at h
      simp only [cond_true] at h
      rw [Bool.and_eq_true] at hz
      obtain ⟨z1, z2⟩ := hz
      have z1 := isNilSlice_eq z1
      subst z1
      have hn : a.eval y = .slice none 0 0 := hu
      obtain ⟨e', hd⟩ := isSliceT_und hC.tbl z2
      have some_of : 0 < List.length (α := el.Den) xs → ∃ ad len cap, a.eval x = .slice (some ad) len cap := by
        intro hpos
        obtain ⟨l, ⟨ad, cap, e1, _, _, e4, _⟩, ⟨hf, _⟩ | ⟨_, hv⟩⟩ := hs
        · cases hf
        · rw [e1] at hv
          simp only [List.cons.injEq, and_true] at hv
          cases ad with
          | none => have := (e4 rfl).1; rw [this] at hpos; simp at hpos
          | some ad => exact ⟨ad, _, _, hv.symm⟩
      split at h
      · simp only [Option.some.injEq] at h
        subst h
        intro hpos
        obtain ⟨ad, len, cap, hv⟩ := some_of hpos
        exact ⟨.bool false, by simp [execOp, ho, hv, hn, eqGuard, binOp, run_equal_slice_nil w xt e' (some ad) len cap hd], rfl⟩
      · simp only [Option.some.injEq] at h
        subst h
        intro hpos
        obtain ⟨ad, len, cap, hv⟩ := some_of hpos
        exact ⟨.bool true, by simp [execOp, ho, hv, hn, eqGuard, binOp, run_equal_slice_nil w xt e' (some ad) len cap hd], rfl⟩
      · cases h
  case h_7 =>
    split at h
    case h_2 => cases h
    case h_1 t ht =>
      cases hz : (memN xt c.eqs && t.agg) with
      | false => rw [hz] at h; simp at h
      | true =>
        rw [hz] at h
        simp only [cond_true] at h
        rw [Bool.and_eq_true] at hz
        split at h
        case h_2 => cases h
        case h_1 p q hp hq =>
          obtain ⟨l, r1, ⟨_, v1⟩ | ⟨hf, _⟩⟩ := SV.den_sound hp hs
          · obtain ⟨m, r2, ⟨_, v2⟩ | ⟨hf, _⟩⟩ := SV.den_sound hq hu
            · obtain ⟨g1, g2, g3⟩ := hC.eqs xt (memN_iff.1 hz.1) t ht w _ p q l m x y r1 r2
              split at h
              · simp only [Option.some.injEq] at h
                subst h
                exact fun _ => ⟨.bool (t.beq p q), by simp [execOp, ho, v1, v2, g1, g2], bool_holds _⟩
              · simp only [Option.some.injEq] at h
                subst h
                exact fun _ => ⟨.bool (!t.beq p q), by simp [execOp, ho, v1, v2, g1, g3], bool_holds _⟩
              · cases h
            · rw [hz.2] at hf; cases hf
          · rw [hz.2] at hf; cases hf

theorem holds_str {b : ByteArray} {v : Value} (h : holdsV (vw E η w) η (.one (.d .str b)) v) : v = .string b := by
  obtain ⟨l, h1, ⟨h2, _⟩ | ⟨_, h2⟩⟩ := h
  · cases h2
  · simp only [Rep] at h1; rw [h1] at h2; simpa using h2.symm

theorem holds_sl {e : Ty} {xs : List e.Den} {v : Value} (h : holdsV (vw E η w) η (.one (.d (.sl e) xs)) v) :
    ∃ (ad : Option Addr) (cap : Nat), v = .slice ad xs.length cap ∧ xs.length ≤ cap ∧ cap ≤ maxLen ∧ (ad = none → xs = [] ∧ cap = 0) ∧
      ∀ ad', ad = some ad' → xs ≠ [] → ad'.spot = none ∧ ∃ c, vw E η w ad'.block c ∧ ad'.off + xs.length * e.size ≤ c.size ∧
        ∀ (i : Nat) (x : e.Den), xs[i]? = some x → Rep (vw E η w) e x ((c.toList.drop (ad'.off + i * e.size)).take e.size) := by
  obtain ⟨l, ⟨ad, cap, e1, e2, e3, e4, e5⟩, ⟨h2, _⟩ | ⟨_, h2⟩⟩ := h
  · cases h2
  · rw [e1] at h2
    simp only [List.cons.injEq, and_true] at h2
    exact ⟨ad, cap, h2.symm, e2, e3, e4, e5⟩

theorem effLen_sound {tt : TT} (hT : TblOk E.P tt) {o : Oper} {t ty : Nat} {x : Operand} (ho : o.op = .call { callee := .builtin .len, args := #[x], argTypes := #[t] }) {s : SV}
    (hs : holdsV (vw E η w) η s (a.eval x)) {e : Eff} (h : effLen tt t s = some e) (hty : o.type = ty) : EffSem E η a w o e := by
  unfold effLen at h
  split at h
  case h_2 => cases h
  case h_1 ti hti =>
    have hd := (hT.rows t ti hti).desc
    split at h
    case h_1 el hk =>
      rw [hk] at hd
      simp only at hd
      split at h
      · simp only [Option.some.injEq] at h
        subst h
        obtain ⟨ad, cap, hv, _⟩ := holds_sl hs
        exact fun _ => ⟨_, by simp [execOp, ho, resolve, invoke, builtin, hv, Builtin.len_, run_underlying hd, goInt], int_holds _ _⟩
      · simp only [Option.some.injEq] at h
        subst h
        rcases hs with ⟨_, rfl, hv⟩ | ⟨b, c, _, hv, _⟩ <;>
          exact fun _ => ⟨_, by simp [execOp, ho, resolve, invoke, builtin, hv, Builtin.len_, run_underlying hd, goInt], int_holds _ _⟩
      · rename_i z
        cases hz : isNilSlice z with
        | false => rw [hz] at h; simp at h
        | true =>
          rw [hz] at h
          simp only [cond_true, Option.some.injEq] at h
          subst h
          have hv : a.eval x = .slice none 0 0 := by rw [← isNilSlice_eq hz]; exact hs
          exact fun _ => ⟨_, by simp [execOp, ho, resolve, invoke, builtin, hv, Builtin.len_, run_underlying hd, goInt], int_holds _ _⟩
      · cases h
    case h_2 hk =>
      rw [hk] at hd
      simp only at hd
      split at h
      · simp only [Option.some.injEq] at h
        subst h
        have hv := holds_str hs
        exact fun _ => ⟨_, by simp [execOp, ho, resolve, invoke, builtin, hv, Builtin.len_, run_underlying hd, goInt], int_holds _ _⟩
      · cases h
    case h_3 => cases h

theorem run_sliceBound {P : Program} (k : IntKind) {n : Int} {y : Nat} (code : BoundsCode) (w : World) (h0 : 0 ≤ n) (h1 : n ≤ (y : Int)) : (Instr.sliceBound (.int k n) y code).run P w = .ok n.toNat w := by
  simp [Instr.sliceBound, asIntOf, h0, h1]

theorem optI_sound (H : ∀ f ∈ st, Fact.holds E η a w f) (q : Option Operand) (s : Option SV) (hq : optEval st q = some s) (n : Option Int) (hn : optI s = some n) :
    (q = none ∧ n = none) ∨ ∃ p m, q = some p ∧ n = some m ∧ a.eval p = .int .i64 m := by
  cases q with
  | none => simp only [optEval, Option.some.injEq] at hq; subst hq; simp only [optI, Option.some.injEq] at hn; exact .inl ⟨rfl, hn.symm⟩
  | some p =>
    simp only [optEval] at hq
    split at hq
    · rename_i s' hs'
      simp only [Option.some.injEq] at hq
      subst hq
      simp only [optI] at hn
      split at hn
      · rename_i m hm
        simp only [Option.some.injEq] at hn
        exact .inr ⟨p, m, rfl, hn.symm, asI_sound hm (eval_sound H hs')⟩
      · cases hn
    · cases hq

/-- A part of data is data. -/
theorem rep_cut {V : View} {u : Ty} {xs : List u.Den} {ad : Option Addr} {cap l h : Nat} (hle : l ≤ h) (hh : h ≤ xs.length) (hcap : xs.length ≤ cap) (hmax : cap ≤ maxLen)
    (hnone : ad = none → xs = [] ∧ cap = 0)
    (hsome : ∀ ad', ad = some ad' → xs ≠ [] → ad'.spot = none ∧ ∃ c, V ad'.block c ∧ ad'.off + xs.length * u.size ≤ c.size ∧
        ∀ (i : Nat) (x : u.Den), xs[i]? = some x → Rep V u x ((c.toList.drop (ad'.off + i * u.size)).take u.size)) :
    RepV V (.sl u) ((xs.take h).drop l) (.slice (if cap = l then ad else ad.map (·.add (l * u.size))) (h - l) (cap - l)) := by
  have hlen : ((xs.take h).drop l).length = h - l := by simp; omega
  refine RepV.mk1 rfl ⟨_, cap - l, by rw [hlen], by rw [hlen]; omega, by omega, ?_, ?_⟩
  · intro hn
    have : ad = none := by
      split at hn
      · exact hn
      · simpa using hn
    obtain ⟨h1, h2⟩ := hnone this
    subst h1
    exact ⟨by simp, by omega⟩
  · intro ad' had hne
    have hpos : l < h := by
      rcases Nat.lt_or_ge l h with h' | h'
      · exact h'
      · exact absurd (List.eq_nil_of_length_eq_zero (by rw [hlen]; omega)) hne
    have hxs : xs ≠ [] := by intro e; subst e; simp at hh; omega
    rw [if_neg (by omega)] at had
    cases ad with
    | none => simp at had
    | some ad0 =>
      simp only [Option.map_some, Option.some.injEq] at had
      obtain ⟨hsp, c, hV, hsz, hrep⟩ := hsome ad0 rfl hxs
      obtain ⟨b, off, sp⟩ := ad0
      simp only at hsp hV hsz hrep
      subst hsp
      rw [add_none] at had
      subst had
      have hm : (h - l) * u.size + l * u.size ≤ xs.length * u.size := by rw [← Nat.add_mul]; exact Nat.mul_le_mul_right _ (by omega)
      refine ⟨rfl, c, hV, by simp only [hlen]; omega, fun i x hx => ?_⟩
      have hx' : xs[l + i]? = some x := by
        have hx0 : ((xs.take h).drop l)[i]? = some x := hx
        rw [List.getElem?_drop, List.getElem?_take] at hx0
        split at hx0
        · exact hx0
        · cases hx0
      have := hrep (l + i) x hx'
      rw [Nat.add_mul, ← Nat.add_assoc] at this
      exact this

theorem effSlice_sound {tt : TT} (hT : TblOk E.P tt) {o : Oper} {t : Nat} {i : TInfo} (hi : tt.get t = some i) {x : Operand} {lo hi' : Option Operand} (ho : o.op = .slice t x lo hi' none) {s : SV}
    (hs : holdsV (vw E η w) η s (a.eval x)) {sl sh : Option SV} (hl : optEval st lo = some sl) (hh : optEval st hi' = some sh) (H : ∀ f ∈ st, Fact.holds E η a w f) {e : Eff}
    (h : effSlice tt i.kind s sl sh = some e) : EffSem E η a w o e := by
  unfold effSlice at h
  split at h
  case h_2 => cases h
  case h_1 el hk =>
    split at h
    case h_2 => cases h
    case h_1 ei u hei hu =>
      split at h
      case h_2 => cases h
      case h_1 xs l hv hden hl' hh' =>
        simp only [Option.some.injEq] at h
        subst h
        have hd := (hT.rows t i hi).desc
        rw [hk] at hd
        simp only at hd
        have hS := fun w => run_sizeOf (hT.rows el ei hei) w
        have hsz := (tyOf_size hT.ok 20 el _ ei hu hei).1
        obtain ⟨ad, cap, hx, hcap, hmax, hnone, hsome⟩ := holds_sl (SV.den_sound hden hs)
        have run : ∀ (l h : Nat) (lo hi : Option Value), l ≤ h → (Instr.sliceBounds true xs.length cap lo hi none).run E.P w = .ok (l, h, cap) w →
            (Instr.sliceAt t (a.eval x) lo hi none).run E.P w = .ok (.slice (if cap = l then ad else ad.map (·.add (l * u.size))) (h - l) (cap - l)) w := by
          intro l h lo hi _ hb
          rw [hx]
          simp [Instr.sliceAt, Instr.slice, run_underlying hd, hb, hS, hsz]
        have fin : ∀ (l h : Nat) (lo' hi'' : Option Value), l ≤ h → h ≤ xs.length → (Instr.sliceBounds true xs.length cap lo' hi'' none).run E.P w = .ok (l, h, cap) w →
            lo.map a.eval = lo' → hi'.map a.eval = hi'' → ∃ v, (execOp a.eval o).run E.P w = .ok (.value v) w ∧ holdsV (vw E η w) η (.one (.d (.sl u) ((xs.take h).drop l))) v := by
          intro l h lo' hi'' h1 h2 h3 h4 h5
          refine ⟨_, ?_, rep_cut h1 h2 hcap hmax hnone hsome⟩
          have := run l h lo' hi'' h1 h3
          simp [execOp, ho, h4, h5, this]
        have b1 : ∀ {k : IntKind} {n : Int} {y : Nat} (code : BoundsCode), 0 ≤ n → n ≤ (y : Int) → (Instr.sliceBound (.int k n) y code).run E.P w = .ok n.toNat w := fun code h0 h1 => run_sliceBound _ code w h0 h1
        rcases optI_sound H lo sl hl l hl' with ⟨rfl, rfl⟩ | ⟨p, m, rfl, rfl, hp⟩ <;> rcases optI_sound H hi' sh hh hv hh' with ⟨rfl, rfl⟩ | ⟨q, n, rfl, rfl, hq⟩
        · intro _
          have := fin 0 xs.length none none (Nat.zero_le _) (Nat.le_refl _) (by simp [Instr.sliceBounds]) rfl rfl
          simpa using this
        · rintro ⟨h0, h1⟩
          have := fin 0 n.toNat none (some (.int .i64 n)) (Nat.zero_le _) (by omega) (by simp [Instr.sliceBounds, b1 (y := cap) _ h0 (by omega)]) rfl (by simp [hq])
          simpa using this
        · rintro ⟨h0, h1⟩
          have := fin m.toNat xs.length (some (.int .i64 m)) none (by omega) (Nat.le_refl _) (by simp [Instr.sliceBounds, b1 (y := xs.length) _ h0 (by omega)]) (by simp [hp]) rfl
          simpa using this
        · rintro ⟨h0, h1, h2⟩
          exact fin m.toNat n.toNat (some (.int .i64 m)) (some (.int .i64 n)) (by omega) (by omega) (by simp [Instr.sliceBounds, b1 (k := .i64) (n := n) (y := cap) .sliceAcap (by omega) (by omega), b1 (k := .i64) (n := m) (y := n.toNat) .sliceB h0 (by omega)]) (by simp [hp]) (by simp [hq])

end
end Go.Eng
