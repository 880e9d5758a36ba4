/- The symbolic executor's readings are right: operands, data, cells. Conditions: none beyond each lemma's own. -/
import Derived.Test.YtimkbccpbjabiaaE5
set_option linter.all false
namespace Go.Eng

/-! ### The table of types -/

structure TIOk (P : Program) (t : Nat) (i : TInfo) : Prop where
  desc : match i.kind with
    | .int k => P.underlying t = some (.int k)
    | .bool => P.underlying t = some .bool
    | .str => P.underlying t = some .string
    | .flt k => P.underlying t = some (.float k)
    | .cpx k => P.underlying t = some (.complex k)
    | .slice e => P.underlying t = some (.slice e)
    | .struct fs => ∃ fa : Array Field, P.underlying t = some (.struct fa) ∧ fa.toList.map (fun f => (f.type, f.offset)) = fs
    | .array n e => P.underlying t = some (.array n e)
    | .ptr e => P.underlying t = some (.pointer e)
    | .other => ∃ d, P.underlying t = some d ∧ (match d with | .struct _ | .array _ _ => False | _ => True)
  info : ∃ ti, P.info? t = some ti ∧ ti.size = i.size ∧ ti.bytes = i.bytes ∧ ti.zero = some i.zero
  zsize : i.zero.cells.size = i.size

structure TblOk (P : Program) (tt : TT) : Prop where
  rows : ∀ t i, tt.get t = some i → TIOk P t i
  ok : tblOk tt tt = true

theorem tblOk_row {all : TT} : ∀ {tt : TT} {t : Nat} {i : TInfo}, tblOk all tt = true → tt.get t = some i → rowOk all i = true
  | [], _, _, _, h => by simp [TT.get] at h
  | (t', i') :: r, t, i, h, hg => by
    simp only [tblOk, Bool.and_eq_true] at h
    simp only [TT.get] at hg
    cases hb : Nat.beq t' t with
    | true => rw [hb] at hg; simp only [cond_true, Option.some.injEq] at hg; subst hg; exact h.1
    | false => rw [hb] at hg; exact tblOk_row h.2 hg

theorem TblOk.row {P : Program} {tt : TT} (h : TblOk P tt) {t : Nat} {i : TInfo} (hg : tt.get t = some i) : rowOk tt i = true := tblOk_row h.ok hg

theorem chain_size (u : Ty) : ∀ m : Nat, (chain (List.replicate m u)).size = m * u.size ∧ (chain (List.replicate m u)).agg = true
  | 0 => ⟨by simp [chain, Ty.size], rfl⟩
  | m + 1 => ⟨by simp only [List.replicate_succ, chain, Ty.size, (chain_size u m).1, Nat.add_mul, Nat.one_mul]; omega, rfl⟩

mutual
theorem tyOf_size {tt : TT} (hok : tblOk tt tt = true) : ∀ (n t : Nat) (ty : Ty) (i : TInfo), tyOf tt n t = some ty → tt.get t = some i → ty.size = i.size ∧ ty.agg = i.kind.isAgg
  | 0, _, _, _, h, _ => by simp [tyOf] at h
  | n + 1, t, ty, i, h, hg => by
    have hr := tblOk_row hok hg
    simp only [tyOf, hg] at h
    cases hk : i.kind with
    | struct fs =>
      rw [hk] at h
      simp only [rowOk, hk] at hr
      have := tyOfs_size hok n fs ty 0 i.size h hr
      exact ⟨by omega, by simp [TK.isAgg]; exact this.2⟩
    | slice e =>
      rw [hk] at h
      simp only [rowOk, hk] at hr
      cases he : tyOf tt n e with
      | none => simp [he] at h
      | some u => simp [he] at h; subst h; exact ⟨(Nat.eq_of_beq_eq_true hr).symm, rfl⟩
    | array m e =>
      rw [hk] at h
      simp only at h
      cases hb : Nat.ble m 8 with
      | false => rw [hb] at h; simp at h
      | true =>
        rw [hb] at h
        simp only [cond_true] at h
        simp only [rowOk, hk] at hr
        cases he : tyOf tt n e with
        | none => simp [he] at h
        | some u =>
          simp only [he, Option.map_some, Option.some.injEq] at h
          cases hge : tt.get e with
          | none => rw [hge] at hr; simp at hr
          | some ei =>
            rw [hge] at hr
            have e1 := (tyOf_size hok n e u ei he hge).1
            obtain ⟨e2, e3⟩ := chain_size u m
            rw [← h]
            exact ⟨by rw [e2, e1]; exact (Nat.eq_of_beq_eq_true hr).symm, e3⟩
    | ptr e => rw [hk] at h; simp at h
    | other => rw [hk] at h; simp at h
    | int k => rw [hk] at h; simp at h; subst h; simp only [rowOk, hk] at hr; exact ⟨(Nat.eq_of_beq_eq_true hr).symm, rfl⟩
    | bool => rw [hk] at h; simp at h; subst h; simp only [rowOk, hk] at hr; exact ⟨(Nat.eq_of_beq_eq_true hr).symm, rfl⟩
    | str => rw [hk] at h; simp at h; subst h; simp only [rowOk, hk] at hr; exact ⟨(Nat.eq_of_beq_eq_true hr).symm, rfl⟩
    | flt k => rw [hk] at h; simp at h; subst h; simp only [rowOk, hk] at hr; exact ⟨(Nat.eq_of_beq_eq_true hr).symm, rfl⟩
    | cpx k => rw [hk] at h; simp at h; subst h; simp only [rowOk, hk] at hr; exact ⟨(Nat.eq_of_beq_eq_true hr).symm, rfl⟩
theorem tyOfs_size {tt : TT} (hok : tblOk tt tt = true) : ∀ (n : Nat) (fs : List (Nat × Nat)) (ty : Ty) (off m : Nat), tyOfs tt n fs = some ty → fieldsOk tt off fs m = true → off + ty.size = m ∧ ty.agg = true
  | 0, fs, _, _, _, h, _ => by cases fs <;> simp [tyOfs] at h
  | n + 1, [], ty, off, m, h, hf => by
    simp only [tyOfs, Option.some.injEq] at h
    subst h
    simp only [fieldsOk] at hf
    exact ⟨by simpa [Ty.size] using Nat.eq_of_beq_eq_true hf, rfl⟩
  | n + 1, f :: r, ty, off, m, h, hf => by
    simp only [tyOfs] at h
    simp only [fieldsOk, Bool.and_eq_true] at hf
    cases hg : tt.get f.1 with
    | none => rw [hg] at hf; simp at hf
    | some i =>
      rw [hg] at hf
      cases h1 : tyOf tt n f.1 with
      | none => rw [h1] at h; simp at h
      | some u =>
        rw [h1] at h
        cases h2 : tyOfs tt n r with
        | none => rw [h2] at h; simp at h
        | some u2 =>
          rw [h2] at h
          simp only [Option.some.injEq] at h
          subst h
          have e1 := tyOf_size hok n f.1 u i h1 hg
          have e2 := tyOfs_size hok n r u2 _ m h2 hf.2
          exact ⟨by simp only [Ty.size]; omega, rfl⟩
end

/-! ### Values -/

section
variable {V : View} {η : Eta}

theorem RepV.one {t : Ty} {x : t.Den} {v : Value} (h : RepV V t x v) (h1 : v.oneCell' = true) : Rep V t x [v] := by
  obtain ⟨l, h2, ⟨_, rfl⟩ | ⟨_, rfl⟩⟩ := h
  · simp [Value.oneCell'] at h1
  · exact h2

theorem RepV.mk1 {t : Ty} {x : t.Den} {v : Value} (h : t.agg = false) (hr : Rep V t x [v]) : RepV V t x v := ⟨[v], hr, .inr ⟨h, rfl⟩⟩

theorem cellsOf_sound : ∀ (t : Ty) (x : t.Den) (l : List Value), Rep V t x l → holdsC V η (cellsOf t x) l
  | .nil, _, l, h => by subst h; exact trivial
  | .cons a b, x, l, ⟨l1, l2, e, h1, h2⟩ => by
    subst e
    have e1 := cellsOf_sound a x.1 l1 h1
    have e2 := cellsOf_sound b x.2 l2 h2
    have app : ∀ {cs ds : List S1} {l1 l2 : List Value}, holdsC V η cs l1 → holdsC V η ds l2 → holdsC V η (cs ++ ds) (l1 ++ l2) := by
      intro cs
      induction cs with
      | nil => intro ds l1 l2 h1 h2; cases l1 with | nil => exact h2 | cons _ _ => exact h1.elim
      | cons s r ih => intro ds l1 l2 h1 h2; cases l1 with | nil => exact h1.elim | cons v l => exact ⟨h1.1, h1.2.1, ih h1.2.2 h2⟩
    exact app e1 e2
  | .int k, x, l, h => by have h' := h; simp only [Rep] at h'; subst h'; exact ⟨RepV.mk1 rfl h, rfl, trivial⟩
  | .bool, x, l, h => by have h' := h; simp only [Rep] at h'; subst h'; exact ⟨RepV.mk1 rfl h, rfl, trivial⟩
  | .str, x, l, h => by have h' := h; simp only [Rep] at h'; subst h'; exact ⟨RepV.mk1 rfl h, rfl, trivial⟩
  | .flt k, x, l, h => by have h' := h; simp only [Rep] at h'; subst h'; exact ⟨RepV.mk1 rfl h, rfl, trivial⟩
  | .cpx k, x, l, h => by have h' := h; simp only [Rep] at h'; subst h'; exact ⟨RepV.mk1 rfl h, rfl, trivial⟩
  | .sl e, x, l, h => by obtain ⟨a, cap, e1, r⟩ := h; subst e1; exact ⟨RepV.mk1 rfl ⟨a, cap, rfl, r⟩, rfl, trivial⟩

theorem castD_eq {t t' : Ty} {x : t.Den} {y : t'.Den} (h : castD t t' x = some y) : ∃ e : t = t', y = e ▸ x := by
  unfold castD at h
  split at h
  · rename_i e
    exact ⟨e, by simpa using h.symm⟩
  · cases h

theorem isNilSlice_eq {x : Value} (h : isNilSlice x = true) : x = .slice none 0 0 := by
  unfold isNilSlice at h
  split at h
  · simp only [Bool.and_eq_true] at h
    rw [Nat.eq_of_beq_eq_true h.1, Nat.eq_of_beq_eq_true h.2]
  · cases h

theorem rep_nil (e : Ty) : Rep V (.sl e) [] [.slice none 0 0] := ⟨none, 0, rfl, Nat.le_refl _, Nat.zero_le _, fun _ => ⟨rfl, rfl⟩, fun _ h => by cases h⟩

theorem S1.den_sound {t : Ty} {s : S1} {x : t.Den} {v : Value} (h : s.den t = some x) (hs : holds1 V η s v) : RepV V t x v := by
  cases s with
  | d t' y =>
    obtain ⟨e, rfl⟩ := castD_eq h
    subst e
    exact hs
  | lb b =>
    obtain ⟨e, rfl⟩ := castD_eq h
    subst e
    simp only [holds1] at hs
    subst hs
    exact RepV.mk1 rfl rfl
  | v y =>
    simp only [S1.den] at h
    split at h
    · cases hn : isNilSlice y with
      | false => rw [hn] at h; simp at h
      | true =>
        rw [hn] at h
        simp only [cond_true, Option.some.injEq] at h
        subst h
        simp only [holds1] at hs
        subst hs
        rw [isNilSlice_eq hn]
        exact RepV.mk1 rfl (rep_nil _)
    · cases h
  | p k off => simp [S1.den] at h
  | pd t x => simp [S1.den] at h
  | pr k i sz => simp [S1.den] at h
  | o k n => simp [S1.den] at h

theorem parse_one {t : Ty} (hp : ∀ s l, parse t (s :: l) = pair1 l (s.den t)) (hn : parse t [] = none)
    {cs : List S1} {vs : List Value} {x : t.Den} {r : List S1} (h : parse t cs = some (x, r)) (hc : holdsC V η cs vs) :
    ∃ l1 l2, vs = l1 ++ l2 ∧ Rep V t x l1 ∧ holdsC V η r l2 := by
  cases cs with
  | nil => rw [hn] at h; cases h
  | cons s l =>
    rw [hp] at h
    cases hd : s.den t with
    | none => rw [hd] at h; cases h
    | some y =>
      rw [hd] at h
      simp only [pair1, Option.some.injEq, Prod.mk.injEq] at h
      obtain ⟨rfl, rfl⟩ := h
      cases vs with
      | nil => exact hc.elim
      | cons v vs => exact ⟨[v], vs, rfl, (S1.den_sound hd hc.1).one hc.2.1, hc.2.2⟩

theorem parse_sound : ∀ (t : Ty) (cs : List S1) (vs : List Value) (x : t.Den) (r : List S1), parse t cs = some (x, r) → holdsC V η cs vs →
    ∃ l1 l2, vs = l1 ++ l2 ∧ Rep V t x l1 ∧ holdsC V η r l2
  | .nil, cs, vs, x, r, h, hc => by
    simp only [parse, Option.some.injEq, Prod.mk.injEq] at h
    exact ⟨[], vs, rfl, rfl, h.2 ▸ hc⟩
  | .cons a b, cs, vs, x, r, h, hc => by
    simp only [parse] at h
    cases h1 : parse a cs with
    | none => rw [h1] at h; cases h
    | some p =>
      obtain ⟨y, l1⟩ := p
      rw [h1] at h
      simp only at h
      cases h2 : parse b l1 with
      | none => rw [h2] at h; cases h
      | some q =>
        obtain ⟨z, l2⟩ := q
        rw [h2] at h
        simp only [Option.some.injEq, Prod.mk.injEq] at h
        obtain ⟨rfl, rfl⟩ := h
        obtain ⟨m1, m2, rfl, e1, e2⟩ := parse_sound a cs vs y l1 h1 hc
        obtain ⟨m3, m4, rfl, e3, e4⟩ := parse_sound b l1 m2 z l2 h2 e2
        exact ⟨m1 ++ m3, m4, by simp, ⟨m1, m3, rfl, e1, e3⟩, e4⟩
  | .int k, cs, vs, x, r, h, hc => parse_one (fun _ _ => rfl) rfl h hc
  | .bool, cs, vs, x, r, h, hc => parse_one (fun _ _ => rfl) rfl h hc
  | .str, cs, vs, x, r, h, hc => parse_one (fun _ _ => rfl) rfl h hc
  | .flt k, cs, vs, x, r, h, hc => parse_one (fun _ _ => rfl) rfl h hc
  | .cpx k, cs, vs, x, r, h, hc => parse_one (fun _ _ => rfl) rfl h hc
  | .sl e, cs, vs, x, r, h, hc => parse_one (fun _ _ => rfl) rfl h hc

theorem SV.den_sound {t : Ty} {s : SV} {x : t.Den} {v : Value} (h : s.den t = some x) (hs : holdsV V η s v) : RepV V t x v := by
  cases s with
  | one s => exact S1.den_sound h hs
  | agg cs =>
    simp only [SV.den] at h
    cases ha : t.agg with
    | false => rw [ha] at h; simp at h
    | true =>
      rw [ha] at h
      simp only [cond_true] at h
      obtain ⟨vs, rfl, hc⟩ := hs
      split at h
      · rename_i y hp
        simp only [Option.some.injEq] at h
        subst h
        obtain ⟨l1, l2, rfl, e1, e2⟩ := parse_sound t cs vs _ [] hp hc
        cases l2 with
        | nil => exact ⟨l1, e1, .inl ⟨ha, by simp⟩⟩
        | cons _ _ => exact e2.elim
      · cases h
  | tup ss => simp [SV.den] at h

theorem SV.cells_sound {s : SV} {cs : List S1} {v : Value} (h : s.cells = some cs) (hs : holdsV V η s v) : holdsC V η cs v.cells.toList := by
  have one : ∀ (u : S1), holds1 V η u v → v.oneCell' = true → holdsC V η [u] v.cells.toList := fun u hu h1 => by
    have : v.cells = #[v] := by cases v <;> first | rfl | (simp [Value.oneCell'] at h1)
    rw [this]
    exact ⟨hu, h1, trivial⟩
  cases s with
  | one s =>
    cases s with
    | d t x => simp only [SV.cells, Option.some.injEq] at h; subst h; exact cellsOf_sound t x _ (RepV.cells hs)
    | lb b => simp only [SV.cells, Option.some.injEq] at h; subst h; exact one _ hs (by simp only [holdsV, holds1] at hs; subst hs; rfl)
    | v x =>
      simp only [SV.cells] at h
      cases h1 : x.oneCell' with
      | false => rw [h1] at h; simp at h
      | true => rw [h1] at h; simp only [cond_true, Option.some.injEq] at h; subst h; exact one _ hs (by simp only [holdsV, holds1] at hs; subst hs; exact h1)
    | p k off => simp only [SV.cells, Option.some.injEq] at h; subst h; exact one _ hs (by obtain ⟨b, c, _, rfl⟩ := hs; rfl)
    | pd t x => simp only [SV.cells, Option.some.injEq] at h; subst h; exact one _ hs (by obtain ⟨b, c, rfl, _⟩ := hs; rfl)
    | pr k i sz => simp only [SV.cells, Option.some.injEq] at h; subst h; exact one _ hs (by obtain ⟨_, b, c, _, rfl⟩ := hs; rfl)
    | o k n => simp only [SV.cells, Option.some.injEq] at h; subst h; exact one _ hs (by rcases hs with ⟨_, _, rfl⟩ | ⟨b, c, _, rfl, _⟩ <;> rfl)
  | agg cs' => simp only [SV.cells, Option.some.injEq] at h; subst h; obtain ⟨vs, rfl, hc⟩ := hs; simpa [Value.cells] using hc
  | tup ss => simp [SV.cells] at h

theorem constS1_sound {x : Value} {s : S1} (h : constS1 x = some s) : holds1 V η s x ∧ x.oneCell' = true := by
  cases x <;> simp only [constS1, Option.some.injEq] at h <;> first | (cases h; done) | (subst h; exact ⟨RepV.mk1 rfl rfl, rfl⟩) | (subst h; exact ⟨rfl, rfl⟩)

theorem constCells_sound : ∀ {l : List Value} {cs : List S1}, constCells l = some cs → holdsC V η cs l
  | [], cs, h => by simp only [constCells, Option.some.injEq] at h; subst h; trivial
  | x :: r, cs, h => by
    simp only [constCells] at h
    cases h1 : constS1 x with
    | none => rw [h1] at h; cases h
    | some s =>
      rw [h1] at h
      simp only at h
      cases h2 : constCells r with
      | none => rw [h2] at h; cases h
      | some l =>
        rw [h2] at h
        simp only [Option.some.injEq] at h
        subst h
        exact ⟨(constS1_sound h1).1, (constS1_sound (V := V) (η := η) h1).2, constCells_sound h2⟩

theorem constSV_sound {x : Value} {s : SV} (h : constSV x = some s) : holdsV V η s x := by
  unfold constSV at h
  split at h
  · rename_i cs
    cases hc : constCells cs.toList with
    | none => rw [hc] at h; cases h
    | some l =>
      rw [hc] at h
      simp only [Option.map_some, Option.some.injEq] at h
      subst h
      exact ⟨cs.toList, by simp, constCells_sound hc⟩
  · cases h
  · cases hc : constS1 x with
    | none => rw [hc] at h; cases h
    | some l =>
      rw [hc] at h
      simp only [Option.map_some, Option.some.injEq] at h
      subst h
      exact (constS1_sound hc).1

theorem findSlot_mem {t : Nat} : ∀ {st : St} {s : SV}, findSlot t st = some s → Fact.slot t s ∈ st
  | [], _, h => by simp [findSlot] at h
  | .slot t' s' :: r, s, h => by
    simp only [findSlot] at h
    cases hb : Nat.beq t' t with
    | true => rw [hb] at h; simp only [cond_true, Option.some.injEq] at h; subst h; rw [Nat.eq_of_beq_eq_true hb]; exact List.mem_cons_self
    | false => rw [hb] at h; exact List.mem_cons_of_mem _ (findSlot_mem h)
  | .cell _ _ _ :: r, s, h => List.mem_cons_of_mem _ (findSlot_mem (by simpa only [findSlot] using h))
  | .row _ _ _ _ :: r, s, h => List.mem_cons_of_mem _ (findSlot_mem (by simpa only [findSlot] using h))
  | .ob _ _ :: r, s, h => List.mem_cons_of_mem _ (findSlot_mem (by simpa only [findSlot] using h))

theorem findCell_mem {k off : Nat} : ∀ {st : St} {s : S1}, findCell k off st = some s → Fact.cell k off s ∈ st
  | [], _, h => by simp [findCell] at h
  | .cell k' o' s' :: r, s, h => by
    simp only [findCell] at h
    cases hb : (Nat.beq k' k && Nat.beq o' off) with
    | true =>
      rw [hb] at h; simp only [cond_true, Option.some.injEq] at h; subst h
      rw [Bool.and_eq_true] at hb
      rw [Nat.eq_of_beq_eq_true hb.1, Nat.eq_of_beq_eq_true hb.2]; exact List.mem_cons_self
    | false => rw [hb] at h; exact List.mem_cons_of_mem _ (findCell_mem h)
  | .slot _ _ :: r, s, h => List.mem_cons_of_mem _ (findCell_mem (by simpa only [findCell] using h))
  | .row _ _ _ _ :: r, s, h => List.mem_cons_of_mem _ (findCell_mem (by simpa only [findCell] using h))
  | .ob _ _ :: r, s, h => List.mem_cons_of_mem _ (findCell_mem (by simpa only [findCell] using h))

theorem findRow_mem {k : Nat} : ∀ {st : St} {f : RowF}, findRow k st = some f → Fact.row k f.el f.e f.xs ∈ st
  | [], _, h => by simp [findRow] at h
  | .row k' el e xs :: r, s, h => by
    simp only [findRow] at h
    cases hb : Nat.beq k' k with
    | true => rw [hb] at h; simp only [cond_true, Option.some.injEq] at h; subst h; rw [Nat.eq_of_beq_eq_true hb]; exact List.mem_cons_self
    | false => rw [hb] at h; exact List.mem_cons_of_mem _ (findRow_mem h)
  | .slot _ _ :: r, s, h => List.mem_cons_of_mem _ (findRow_mem (by simpa only [findRow] using h))
  | .cell _ _ _ :: r, s, h => List.mem_cons_of_mem _ (findRow_mem (by simpa only [findRow] using h))
  | .ob _ _ :: r, s, h => List.mem_cons_of_mem _ (findRow_mem (by simpa only [findRow] using h))

theorem findOb_mem {k : Nat} : ∀ {st : St} {i : Nat}, findOb k st = some i → Fact.ob k i ∈ st
  | [], _, h => by simp [findOb] at h
  | .ob k' i :: r, s, h => by
    simp only [findOb] at h
    cases hb : Nat.beq k' k with
    | true => rw [hb] at h; simp only [cond_true, Option.some.injEq] at h; subst h; rw [Nat.eq_of_beq_eq_true hb]; exact List.mem_cons_self
    | false => rw [hb] at h; exact List.mem_cons_of_mem _ (findOb_mem h)
  | .slot _ _ :: r, s, h => List.mem_cons_of_mem _ (findOb_mem (by simpa only [findOb] using h))
  | .cell _ _ _ :: r, s, h => List.mem_cons_of_mem _ (findOb_mem (by simpa only [findOb] using h))
  | .row _ _ _ _ :: r, s, h => List.mem_cons_of_mem _ (findOb_mem (by simpa only [findOb] using h))

end

theorem eval_sound {E : Env} {η : Eta} {a : Act} {w : World} {st : St} (H : ∀ f ∈ st, Fact.holds E η a w f) {x : Operand} {s : SV} (h : eval st x = some s) :
    holdsV (vw E η w) η s (a.eval x) := by
  cases x with
  | tmp t => exact H _ (findSlot_mem h)
  | const v => exact constSV_sound h
  | func f => simp only [eval, Option.some.injEq] at h; subst h; rfl
  | global g => simp [eval] at h

theorem evals_sound {E : Env} {η : Eta} {a : Act} {w : World} {st : St} (H : ∀ f ∈ st, Fact.holds E η a w f) : ∀ {xs : List Operand} {ss : List SV}, evals st xs = some ss →
    ss.length = xs.length ∧ ∀ (i : Nat) s, ss[i]? = some s → ∃ x, xs[i]? = some x ∧ holdsV (vw E η w) η s (a.eval x)
  | [], ss, h => by simp only [evals, Option.some.injEq] at h; subst h; simp
  | x :: r, ss, h => by
    simp only [evals] at h
    cases h1 : eval st x with
    | none => rw [h1] at h; cases h
    | some s =>
      rw [h1] at h
      simp only at h
      cases h2 : evals st r with
      | none => rw [h2] at h; cases h
      | some l =>
        rw [h2] at h
        simp only [Option.some.injEq] at h
        subst h
        have ih := evals_sound H h2
        refine ⟨by simp [ih.1], fun i u hu => ?_⟩
        cases i with
        | zero => simp at hu; subst hu; exact ⟨x, by simp, eval_sound H h1⟩
        | succ i => simpa using ih.2 i u (by simpa using hu)

end Go.Eng
