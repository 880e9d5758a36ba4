/- From a row's readings of its arguments to the executor's data: whole numbers, bools, texts, slices and structs of them. Conditions: the table of types is the program's. -/
import Derived.Test.YtnficfhnfpbhkaaGreatDoorEB
import Derived.RowKit
import Derived.RowKit3
import Derived.OpenShut
import Derived.Carry
import Derived.ChangeOld
namespace Go.Eng
set_option linter.all false

mutual
def brOf (tt : TT) : Nat → Nat → Option Ty
  | 0, _ => none
  | n + 1, t => match tt.get t with
    | some i => match i.kind with
      | .int .i64 => some (.int .i64)
      | .bool => some .bool
      | .str => some .str
      | .slice e => match tt.get e with
        | some ei => bif Nat.ble 1 ei.size then (match brOf tt n e with
          | some a => bif Nat.beq a.size ei.size then some (.sl a) else none
          | none => none) else none
        | none => none
      | .struct fs => brsOf tt n fs
      | .flt k => some (.flt k)
      | .array k e => match tt.get e with
        | some ei => match brOf tt n e with
          | some a => bif Nat.beq a.size ei.size then some (chain (List.replicate k a)) else none
          | none => none
        | none => none
      | _ => none
    | none => none
def brsOf (tt : TT) : Nat → List (Nat × Nat) → Option Ty
  | 0, _ => none
  | _, [] => some .nil
  | n + 1, f :: r => match brOf tt n f.1 with
    | some a => match brsOf tt n r with
      | some b => match tt.get f.1 with
        | some i => bif Nat.beq a.size i.size then some (.cons a b) else none
        | none => none
      | none => none
    | none => none
end

/-- All whole numbers fit. -/
def Ty.fits : (t : Ty) → t.Den → Prop
  | .int _, (x : Int) => -9223372036854775808 ≤ x ∧ x ≤ 9223372036854775807
  | .sl e, (xs : List e.Den) => ∀ x ∈ xs, e.fits x
  | .cons a b, x => a.fits x.1 ∧ b.fits x.2
  | _, _ => True

abbrev viewW (w : World) : View := fun b c => ∃ el f, w.heap[b]? = some (.cells c el f)

section
variable {H : Type} {enc : TypeId × Value → H} {P : Program} {w : World} {base : Nat} {spare : Nat → Bool} {held : Bool}

theorem cells_read {a : Addr} {n : Nat} (hn : 1 ≤ n) {cs : List Value} (h : w.cells? base a n = some cs) :
    a.spot = none ∧ cs.length = n ∧ ∃ c el f, w.heap[a.block]? = some (.cells c el f) ∧ a.off + n ≤ c.size ∧ cs = (c.toList.drop a.off).take n := by
  unfold World.cells? at h
  split at h
  case isFalse => cases h
  case isTrue =>
    have hlen := mapM_some_length h
    simp only [List.length_range] at hlen
    have each : ∀ i, i < n → w.cell? (a.add i) = cs[i]? := fun i hi => mapM_some_get h i i (by simp [hi])
    have h0 := each 0 (by omega)
    have e0 : a.add 0 = a := by simp [Addr.add]
    rw [e0, List.getElem?_eq_getElem (by omega)] at h0
    unfold World.cell? at h0
    split at h0
    case h_2 => cases h0
    case h_1 c el f hb =>
      have hsp : a.spot = none := by
        cases hs : a.spot with
        | none => rfl
        | some s => rw [hs] at h0; simp at h0
      have hc : ∀ i, i < n → c[a.off + i]? = cs[i]? := by
        intro i hi
        have := each i hi
        obtain ⟨b, off, sp⟩ := a
        simp only at hsp hb
        subst hsp
        rw [add_none, cell_of hb] at this
        exact this
      have hsz : a.off + n ≤ c.size := by
        have := hc (n - 1) (by omega)
        rw [List.getElem?_eq_getElem (by omega)] at this
        have := (Array.getElem?_eq_some_iff.1 this).1
        omega
      refine ⟨hsp, hlen, c, el, f, hb, hsz, ?_⟩
      apply List.ext_getElem?
      intro i
      by_cases hi : i < n
      · rw [List.getElem?_take, if_pos hi, List.getElem?_drop, ← hc i hi, Array.getElem?_toList]
      · rw [List.getElem?_eq_none (by omega), List.getElem?_eq_none (by simp; omega)]

theorem cellsOf_eq {tt : TT} (hT : TblOk P tt) {t : Nat} {i : TInfo} (h : tt.get t = some i) : P.cellsOf t = i.size := by
  obtain ⟨ti, h1, h2, _⟩ := (hT.rows t i h).info
  simp [Program.cellsOf, h1, h2]

theorem brsOf_size {tt : TT} : ∀ (n : Nat) (fs : List (Nat × Nat)) (ty : Ty) (off m : Nat), brsOf tt n fs = some ty → fieldsOk tt off fs m = true → off + ty.size = m ∧ ty.agg = true
  | 0, fs, ty, off, m, h, _ => by simp [brsOf] at h
  | n + 1, [], ty, off, m, h, hf => by
    simp only [brsOf, Option.some.injEq] at h
    subst h
    simp only [fieldsOk] at hf
    exact ⟨Nat.eq_of_beq_eq_true hf, rfl⟩
  | n + 1, f :: r, ty, off, m, h, hf => by
    simp only [brsOf] at h
    cases ha : brOf tt n f.1 with
    | none => rw [ha] at h; cases h
    | some a =>
      rw [ha] at h
      simp only at h
      cases hb : brsOf tt n r with
      | none => rw [hb] at h; cases h
      | some b =>
        rw [hb] at h
        simp only at h
        cases hg : tt.get f.1 with
        | none => rw [hg] at h; cases h
        | some i =>
          rw [hg] at h
          simp only at h
          cases hz : Nat.beq a.size i.size with
          | false => rw [hz] at h; simp at h
          | true =>
            rw [hz] at h
            simp only [cond_true, Option.some.injEq] at h
            subst h
            have hz' := Nat.eq_of_beq_eq_true hz
            simp only [fieldsOk, hg, Bool.and_eq_true] at hf
            have := (brsOf_size n r b _ m hb hf.2).1
            exact ⟨by simp only [Ty.size]; omega, rfl⟩

/-- The list of the data at each place below n. -/
theorem list_choose {α : Type} {p : Nat → α → Prop} : ∀ n : Nat, (∀ i, i < n → ∃ x, p i x) → ∃ xs : List α, xs.length = n ∧ ∀ i x, xs[i]? = some x → p i x
  | 0, _ => ⟨[], rfl, fun i x h => by simp at h⟩
  | n + 1, h => by
    obtain ⟨xs, h1, h2⟩ := list_choose n (fun i hi => h i (by omega))
    obtain ⟨x, hx⟩ := h n (by omega)
    refine ⟨xs ++ [x], by simp [h1], fun i y hy => ?_⟩
    by_cases hi : i < n
    · rw [List.getElem?_append_left (by omega)] at hy; exact h2 i y hy
    · rw [List.getElem?_append_right (by omega)] at hy
      have : i - xs.length = 0 := by
        have := (List.getElem?_eq_some_iff.1 hy).1
        simp at this; omega
      rw [this] at hy
      simp at hy
      subst hy
      have : i = n := by omega
      subst this
      exact hx

theorem chain_aggB (a : Ty) : ∀ n, (chain (List.replicate n a)).agg = true
  | 0 => rfl
  | _ + 1 => rfl

theorem trod_flt {t : TypeId} {fuel : Nat} {cs : List Value} {x : DataW H × List MemPlace} {k : FloatKind} (ht : P.underlying t = some (.float k)) (h : DataW.trod enc P w base spare held fuel t cs = some x) : ∃ n, cs = [.float k n] := by
  cases fuel with
  | zero => simp [DataW.trod] at h
  | succ n =>
    unfold DataW.trod at h
    rw [ht] at h
    split at h <;> simp_all

theorem trod_rep {tt : TT} (hT : TblOk P tt) : ∀ (fuel m t : Nat) (ty : Ty) (cs : List Value) (z : DataW H × List MemPlace), brOf tt m t = some ty → DataW.trod enc P w base spare held fuel t cs = some z →
    ∃ x : ty.Den, Rep (viewW w) ty x cs ∧ ty.fits x := by
  intro fuel
  induction fuel using Nat.strongRecOn with
  | _ fuel ih =>
    intro m t ty cs z hb hz
    cases m with
    | zero => simp [brOf] at hb
    | succ m =>
      simp only [brOf] at hb
      cases hg : tt.get t with
      | none => rw [hg] at hb; cases hb
      | some i =>
        rw [hg] at hb
        have hI := hT.rows t i hg
        have hd := hI.desc
        simp only at hb
        cases hk : i.kind with
        | int k =>
          rw [hk] at hb hd
          simp only at hd
          cases k <;> simp only [Option.some.injEq] at hb <;> first | (cases hb; done) | subst hb
          obtain ⟨n, rfl, _, hw⟩ := DataW.trod_int hd hz
          refine ⟨n, rfl, ?_⟩
          simp only [Lit.wf, Bool.and_eq_true, decide_eq_true_eq] at hw
          exact hw
        | bool =>
          rw [hk] at hb hd
          simp only [Option.some.injEq] at hb hd
          subst hb
          obtain ⟨b, rfl, _⟩ := DataW.trod_bool hd hz
          exact ⟨b, rfl, trivial⟩
        | str =>
          rw [hk] at hb hd
          simp only [Option.some.injEq] at hb hd
          subst hb
          obtain ⟨s, rfl, _⟩ := DataW.trod_string hd hz
          exact ⟨s, rfl, trivial⟩
        | flt k =>
          rw [hk] at hb hd
          simp only [Option.some.injEq] at hb hd
          subst hb
          obtain ⟨b, rfl⟩ := trod_flt hd hz
          exact ⟨b, rfl, trivial⟩
        | cpx k => rw [hk] at hb; cases hb
        | array len e =>
          rw [hk] at hb hd
          simp only at hb hd
          cases hge : tt.get e with
          | none => rw [hge] at hb; cases hb
          | some ei =>
            rw [hge] at hb
            simp only at hb
            cases ha : brOf tt m e with
            | none => rw [ha] at hb; cases hb
            | some a =>
              rw [ha] at hb
              simp only at hb
              cases h2 : Nat.beq a.size ei.size with
              | false => rw [h2] at hb; simp at hb
              | true =>
                rw [h2] at hb
                simp only [cond_true, Option.some.injEq] at hb
                subst hb
                have h2 := Nat.eq_of_beq_eq_true h2
                obtain ⟨xs, n, hf, _, hl, hxl, each⟩ := DataW.trod_array hd hz
                have hc := cellsOf_eq hT hge
                have hci := cellsOf_eq hT hg
                have hrow := hT.row hg
                simp only [rowOk, hk, hge] at hrow
                have hrow := Nat.eq_of_beq_eq_true hrow
                have go : ∀ (r off : Nat), off + r = len → ∃ x : (chain (List.replicate r a)).Den, Rep (viewW w) (chain (List.replicate r a)) x (cs.drop (off * ei.size)) ∧ (chain (List.replicate r a)).fits x := by
                  intro r
                  induction r with
                  | zero =>
                    intro off ho
                    refine ⟨(), List.drop_of_length_le ?_, trivial⟩
                    rw [hl, hci, hrow, show off = len by omega]
                    exact Nat.le_refl _
                  | succ r ihr =>
                    intro off ho
                    have hlt : off < xs.length := by omega
                    have hread := each off (by omega)
                    rw [hc, List.getElem?_eq_getElem hlt] at hread
                    obtain ⟨x, hx, hfx⟩ := ih n (by omega) m e a _ _ ha hread
                    obtain ⟨y, hy, hfy⟩ := ihr (off + 1) (by omega)
                    refine ⟨(x, y), ⟨_, _, ?_, hx, hy⟩, hfx, hfy⟩
                    rw [Nat.add_mul, Nat.one_mul, ← List.drop_drop]
                    exact (List.take_append_drop _ _).symm
                obtain ⟨x, hx, hfx⟩ := go len 0 (by omega)
                exact ⟨x, by simpa using hx, hfx⟩
        | ptr e => rw [hk] at hb; cases hb
        | other => rw [hk] at hb; cases hb
        | iface => rw [hk] at hb; cases hb
        | slice e =>
          rw [hk] at hb hd
          simp only at hb hd
          cases hge : tt.get e with
          | none => rw [hge] at hb; cases hb
          | some ei =>
            rw [hge] at hb
            simp only at hb
            cases h1 : Nat.ble 1 ei.size with
            | false => rw [h1] at hb; simp at hb
            | true =>
              rw [h1] at hb
              simp only [cond_true] at hb
              cases ha : brOf tt m e with
              | none => rw [ha] at hb; cases hb
              | some a =>
                rw [ha] at hb
                simp only at hb
                cases h2 : Nat.beq a.size ei.size with
                | false => rw [h2] at hb; simp at hb
                | true =>
                  rw [h2] at hb
                  simp only [cond_true, Option.some.injEq] at hb
                  subst hb
                  have h1 := Nat.le_of_ble_eq_true h1
                  have h2 := Nat.eq_of_beq_eq_true h2
                  have hc := cellsOf_eq hT hge
                  rw [← h2] at hc h1
                  rcases DataW.trod_slice hd hz with ⟨rfl, _⟩ | ⟨ad, len, cap, elems, rest, n, hf, rfl, _, _, hlc, hcm, hel, each, _, _⟩
                  · exact ⟨[], rep_nil a, (fun x hx => by cases hx)⟩
                  · have one : ∀ j, j < len → ∃ x : a.Den, (ad.spot = none ∧ ∃ c el f, w.heap[ad.block]? = some (.cells c el f) ∧ ad.off + j * a.size + a.size ≤ c.size ∧
                        Rep (viewW w) a x ((c.toList.drop (ad.off + j * a.size)).take a.size)) ∧ a.fits x := by
                      intro j hj
                      have h3 := each j hj
                      rw [hc, List.getElem?_eq_getElem (by omega)] at h3
                      obtain ⟨cj, h4, h5⟩ := Option.bind_eq_some_iff.1 h3
                      obtain ⟨s1, s2, c, el, f, s3, s4, s5⟩ := cells_read h1 h4
                      obtain ⟨x, hx, hfx⟩ := ih n (by omega) m e a cj _ ha h5
                      obtain ⟨b, off, sp⟩ := ad
                      have hsp : sp = none := by
                        have h6 := each 0 (by omega)
                        rw [hc, List.getElem?_eq_getElem (by omega)] at h6
                        obtain ⟨c0, h7, _⟩ := Option.bind_eq_some_iff.1 h6
                        have := (cells_read h1 h7).1
                        simpa [Addr.add] using this
                      subst hsp
                      rw [add_none] at s3 s4 s5
                      exact ⟨x, ⟨rfl, c, el, f, s3, s4, by rw [← s5]; exact hx⟩, hfx⟩
                    obtain ⟨xs, l1, l2⟩ := list_choose len one
                    refine ⟨xs, ⟨some ad, cap, ?_, ?_, hcm, (fun h => by cases h), fun ad' had hne => ?_⟩, fun x hx => ?_⟩
                    · rw [← l1]
                    · exact l1 ▸ hlc
                    · cases had
                      have hpos : 0 < len := by
                        rw [← l1]
                        exact List.length_pos_iff.2 hne
                      have hlast := l2 (len - 1) _ (List.getElem?_eq_getElem (by omega))
                      obtain ⟨⟨s1, c, el, f, s3, s4, s5⟩, _⟩ := hlast
                      refine ⟨s1, c, ⟨el, f, s3⟩, ?_, fun j x hx => ?_⟩
                      · change ad.off + xs.length * a.size ≤ c.size
                        rw [l1]
                        have : len * a.size = (len - 1) * a.size + a.size := by
                          rw [← Nat.succ_mul]; congr 1; omega
                        omega
                      · obtain ⟨⟨_, c', el', f', s6, _, s7⟩, _⟩ := l2 j x hx
                        rw [s3] at s6
                        simp only [Option.some.injEq, Obj.cells.injEq] at s6
                        obtain ⟨rfl, _, _⟩ := s6
                        exact s7
                    · obtain ⟨j, hj, rfl⟩ := List.mem_iff_getElem.1 hx
                      exact (l2 j _ (List.getElem?_eq_getElem hj)).2
        | struct fs =>
          rw [hk] at hb hd
          simp only at hb hd
          obtain ⟨fa, hd, hfs⟩ := hd
          obtain ⟨xs, n, hf, _, hl, hxl, each⟩ := DataW.trod_struct hd hz
          have hrow := hT.row hg
          simp only [rowOk, hk] at hrow
          have hci := cellsOf_eq hT hg
          -- the fields, from a place on
          have go : ∀ (gs : List (Nat × Nat)) (k off m' : Nat) (ty : Ty), fs.drop k = gs → brsOf tt m' gs = some ty → fieldsOk tt off gs i.size = true →
              ∃ x : ty.Den, Rep (viewW w) ty x (cs.drop off) ∧ ty.fits x := by
            intro gs
            induction gs with
            | nil =>
              intro k off m' ty _ h1 h2
              cases m' with
              | zero => simp [brsOf] at h1
              | succ m' =>
                simp only [brsOf, Option.some.injEq] at h1
                subst h1
                simp only [fieldsOk] at h2
                have h2 := Nat.eq_of_beq_eq_true h2
                exact ⟨(), List.drop_of_length_le (by omega), trivial⟩
            | cons g r ihg =>
              intro k off m' ty hgs h1 h2
              cases m' with
              | zero => simp [brsOf] at h1
              | succ m' =>
                simp only [brsOf] at h1
                cases ha : brOf tt m' g.1 with
                | none => rw [ha] at h1; cases h1
                | some a =>
                  rw [ha] at h1
                  simp only at h1
                  cases hb2 : brsOf tt m' r with
                  | none => rw [hb2] at h1; cases h1
                  | some b =>
                    rw [hb2] at h1
                    simp only at h1
                    cases hgg : tt.get g.1 with
                    | none => rw [hgg] at h1; cases h1
                    | some gi =>
                      rw [hgg] at h1
                      simp only at h1
                      cases hz2 : Nat.beq a.size gi.size with
                      | false => rw [hz2] at h1; simp at h1
                      | true =>
                        rw [hz2] at h1
                        simp only [cond_true, Option.some.injEq] at h1
                        subst h1
                        have hz2 := Nat.eq_of_beq_eq_true hz2
                        simp only [fieldsOk, hgg, Bool.and_eq_true] at h2
                        obtain ⟨h3, h4⟩ := h2
                        have h3 := Nat.eq_of_beq_eq_true h3
                        have hget : fs[k]? = some g := by
                          have := congrArg (fun l : List (Nat × Nat) => l[0]?) hgs
                          simpa using this
                        rw [← hfs] at hget
                        simp only [List.getElem?_map, Option.map_eq_some_iff, Array.getElem?_toList] at hget
                        obtain ⟨fl, hfl, hfg⟩ := hget
                        have e1 : fl.type = g.1 := congrArg Prod.fst hfg
                        have e2 : fl.offset = g.2 := congrArg Prod.snd hfg
                        have hread := each k fl hfl
                        have hlt : k < xs.length := by rw [hxl]; exact (Array.getElem?_eq_some_iff.1 hfl).1
                        rw [e1, e2, h3, cellsOf_eq hT hgg, List.getElem?_eq_getElem hlt] at hread
                        obtain ⟨x, hx, hfx⟩ := ih n (by omega) m' g.1 a _ _ ha hread
                        obtain ⟨y, hy, hfy⟩ := ihg (k + 1) (off + gi.size) m' b (by rw [← List.drop_drop, hgs]; rfl) hb2 h4
                        refine ⟨(x, y), ⟨_, _, ?_, hx, hy⟩, hfx, hfy⟩
                        rw [← List.drop_drop]
                        exact (List.take_append_drop _ _).symm
          obtain ⟨x, hx, hfx⟩ := go fs 0 0 m ty (by simp) hb hrow
          exact ⟨x, by simpa using hx, hfx⟩

end

/-- A value whose cells hold data, as an argument. -/
theorem repV_of {P : Program} {w : World} {tt : TT} (hT : TblOk P tt) {base m t : Nat} {ty : Ty} {v : Value} {r : Reach} {V : View} {x : ty.Den} (hb : brOf tt m t = some ty) (hv : Value.okWide P w r base t v) (hx : Rep V ty x v.cells.toList) : RepV V ty x v := by
  cases m with
  | zero => simp [brOf] at hb
  | succ m =>
    simp only [brOf] at hb
    cases hg : tt.get t with
    | none => rw [hg] at hb; cases hb
    | some i =>
      rw [hg] at hb
      have hd := (hT.rows t i hg).desc
      simp only at hb
      have oneC : ty.agg = false → v.oneCell' = true → RepV V ty x v := fun h1 h2 => by
        refine RepV.mk1 h1 ?_
        cases v <;> first | (simp [Value.oneCell'] at h2; done) | simpa [Value.cells] using hx
      cases hk : i.kind with
      | int k =>
        rw [hk] at hb hd
        simp only at hd
        cases k <;> simp only [Option.some.injEq] at hb <;> first | (cases hb; done) | subst hb
        refine oneC rfl ?_
        simp only [Value.okWide, hd, Cell.okWide, Cell.ok] at hv
        split at hv <;> first | rfl | exact hv.elim | (cases hv; done) | simp_all [Value.oneCell']
      | bool =>
        rw [hk] at hb hd
        simp only [Option.some.injEq] at hb hd
        subst hb
        refine oneC rfl ?_
        simp only [Value.okWide, hd, Cell.okWide, Cell.ok] at hv
        split at hv <;> first | rfl | exact hv.elim | (cases hv; done) | simp_all [Value.oneCell']
      | str =>
        rw [hk] at hb hd
        simp only [Option.some.injEq] at hb hd
        subst hb
        refine oneC rfl ?_
        simp only [Value.okWide, hd, Cell.okWide, Cell.ok] at hv
        split at hv <;> first | rfl | exact hv.elim | (cases hv; done) | simp_all [Value.oneCell']
      | flt k =>
        rw [hk] at hb hd
        simp only [Option.some.injEq] at hb hd
        subst hb
        refine oneC rfl ?_
        simp only [Value.okWide, hd, Cell.okWide, Cell.ok] at hv
        split at hv <;> first | rfl | exact hv.elim | (cases hv; done) | simp_all [Value.oneCell']
      | cpx k => rw [hk] at hb; cases hb
      | array len e =>
        rw [hk] at hb hd
        simp only at hb hd
        cases hge : tt.get e with
        | none => rw [hge] at hb; cases hb
        | some ei =>
          rw [hge] at hb
          simp only at hb
          cases ha : brOf tt m e with
          | none => rw [ha] at hb; cases hb
          | some a =>
            rw [ha] at hb
            simp only at hb
            cases h2 : Nat.beq a.size ei.size with
            | false => rw [h2] at hb; simp at hb
            | true =>
              rw [h2] at hb
              simp only [cond_true, Option.some.injEq] at hb
              subst hb
              simp only [Value.okWide, hd] at hv
              obtain ⟨cs, rfl, _, _⟩ := hv
              exact ⟨cs.toList, by simpa [Value.cells] using hx, .inl ⟨chain_aggB _ _, by simp⟩⟩
      | ptr e => rw [hk] at hb; cases hb
      | other => rw [hk] at hb; cases hb
      | iface => rw [hk] at hb; cases hb
      | slice e =>
        rw [hk] at hb hd
        simp only at hb hd
        have hag : ty.agg = false := by
          cases hge : tt.get e with
          | none => rw [hge] at hb; cases hb
          | some ei =>
            rw [hge] at hb
            simp only at hb
            cases h1 : Nat.ble 1 ei.size with
            | false => rw [h1] at hb; simp at hb
            | true =>
              rw [h1] at hb
              simp only [cond_true] at hb
              cases ha : brOf tt m e with
              | none => rw [ha] at hb; cases hb
              | some a =>
                rw [ha] at hb
                simp only at hb
                cases h2 : Nat.beq a.size ei.size with
                | false => rw [h2] at hb; simp at hb
                | true =>
                  rw [h2] at hb
                  simp only [cond_true, Option.some.injEq] at hb
                  subst hb; rfl
        refine oneC hag ?_
        simp only [Value.okWide, hd, Cell.okWide, Cell.ok] at hv
        split at hv <;> first | rfl | exact hv.elim | (cases hv; done) | simp_all [Value.oneCell']
      | struct fs =>
        rw [hk] at hb hd
        simp only at hb hd
        obtain ⟨fa, hd, _⟩ := hd
        have hrow := hT.row hg
        simp only [rowOk, hk] at hrow
        have hag := (brsOf_size m fs ty 0 i.size hb hrow).2
        simp only [Value.okWide, hd] at hv
        obtain ⟨cs, rfl, _, _⟩ := hv
        exact ⟨cs.toList, by simpa [Value.cells] using hx, .inl ⟨hag, by simp⟩⟩

def datP : List Ty → List Pat
  | [] => []
  | t :: r => .dat t :: datP r

def fitsAll : (tys : List Ty) → (argTy (datP tys)).Den → Prop
  | [], _ => True
  | t :: r, x => t.fits x.1 ∧ fitsAll r x.2

def brAll (tt : TT) : List TypeId → List Ty → Prop
  | [], [] => True
  | t :: r, ty :: s => brOf tt 20 t = some ty ∧ brAll tt r s
  | _, _ => False

theorem args_of {H : Type} {enc : TypeId × Value → H} {P : Program} {W : World} {OB : Nat → Obj → Prop} {tt : TT} (hT : TblOk P tt) {base : Nat} : ∀ {ts : List TypeId} {tys : List Ty} {vs : List Value} {ds : List (DataW H)} {ps : List MemPlace}, brAll tt ts tys →
    DataW.TrodAll enc P W 0 (fun _ => true) true ts vs ds ps → (∀ (j : Nat) t v, ts[j]? = some t → vs[j]? = some v → Value.okWide P W .any base t v) →
    ∃ x : (argTy (datP tys)).Den, ArgsOK OB W (fun _ => False) (datP tys) x vs [] ∧ fitsAll tys x
  | [], [], [], [], ps, _, _, _ => ⟨(), ⟨rfl, rfl⟩, trivial⟩
  | t :: ts, ty :: tys, v :: vs, d :: ds, ps, hb, h, hv => by
    obtain ⟨p, q, ⟨fuel, h1⟩, h2, _⟩ := h
    obtain ⟨x, hx, hf⟩ := trod_rep hT fuel 20 t ty _ _ hb.1 h1
    obtain ⟨y, hy, hg⟩ := args_of hT hb.2 h2 (fun j t' v' h3 h4 => hv (j + 1) t' v' (by simpa using h3) (by simpa using h4))
    have hr := repV_of hT hb.1 (hv 0 t v rfl rfl) hx
    exact ⟨(x, y), ⟨v, vs, rfl, hr.mono (fun b c h => ⟨fun h => h, h⟩), hy⟩, hf, hg⟩

end Go.Eng
