/- From a row's readings of its arguments to the executor's data: whole numbers, bools, texts, slices and structs of them. Conditions: the table of types is the program's. The table of the program's types for the executor, with its proof. Conditions: none. The frame for the contracts of the functions of pulse: types, settings. Conditions: each contract's own. What the variable turns holds. Conditions: none. From a law's contract to its given statement: its arguments read behind the call as before. Conditions: none beyond each lemma's own. -/
import Derived.Test.YtcoimlnplaidiaaDoorEB
import Derived.RowKit
import Derived.RowKit3
import Derived.OpenShut
import Derived.Carry
import Derived.ChangeOld
import Derived.KernelRfl
import Derived.Test.YtcoimlnplaidiaaDoorProg
import GoSem.Extern.MathFloatBits
import Derived.Test.YtcoimlnplaidiaaDoorRows
import Derived.LaidMore
import Derived.Stop.Joined
import Derived.Handed
import Derived.WalkKit
import Derived.ChangeCalls
import Derived.ProofKit
namespace Go.Eng
set_option linter.all false

mutual
def brOf (tt : TT) : Nat → Nat → Option Ty
  | 0, _ => none
  | n + 1, t => match tt.get t with
    | some i => match i.kind with
      | .int .i64 => some (.int .i64)
      | .bool => some .bool
      | .str => some .str
      | .slice e => match tt.get e with
        | some ei => bif Nat.ble 1 ei.size then (match brOf tt n e with
          | some a => bif Nat.beq a.size ei.size then some (.sl a) else none
          | none => none) else none
        | none => none
      | .struct fs => brsOf tt n fs
      | .flt k => some (.flt k)
      | .array k e => match tt.get e with
        | some ei => match brOf tt n e with
          | some a => bif Nat.beq a.size ei.size then some (chain (List.replicate k a)) else none
          | none => none
        | none => none
      | _ => none
    | none => none
def brsOf (tt : TT) : Nat → List (Nat × Nat) → Option Ty
  | 0, _ => none
  | _, [] => some .nil
  | n + 1, f :: r => match brOf tt n f.1 with
    | some a => match brsOf tt n r with
      | some b => match tt.get f.1 with
        | some i => bif Nat.beq a.size i.size then some (.cons a b) else none
        | none => none
      | none => none
    | none => none
end

/-- All whole numbers fit. -/
def Ty.fits : (t : Ty) → t.Den → Prop
  | .int _, (x : Int) => -9223372036854775808 ≤ x ∧ x ≤ 9223372036854775807
  | .sl e, (xs : List e.Den) => ∀ x ∈ xs, e.fits x
  | .cons a b, x => a.fits x.1 ∧ b.fits x.2
  | _, _ => True

abbrev viewW (w : World) : View := fun b c => ∃ el f, w.heap[b]? = some (.cells c el f)

section
variable {H : Type} {enc : TypeId × Value → H} {P : Program} {w : World} {base : Nat} {spare : Nat → Bool} {held : Bool}

theorem cells_read {a : Addr} {n : Nat} (hn : 1 ≤ n) {cs : List Value} (h : w.cells? base a n = some cs) :
    a.spot = none ∧ cs.length = n ∧ ∃ c el f, w.heap[a.block]? = some (.cells c el f) ∧ a.off + n ≤ c.size ∧ cs = (c.toList.drop a.off).take n := by
  unfold World.cells? at h
  split at h
  case isFalse => cases h
  case isTrue =>
    have hlen := mapM_some_length h
    simp only [List.length_range] at hlen
    have each : ∀ i, i < n → w.cell? (a.add i) = cs[i]? := fun i hi => mapM_some_get h i i (by simp [hi])
    have h0 := each 0 (by omega)
    have e0 : a.add 0 = a := by simp [Addr.add]
    rw [e0, List.getElem?_eq_getElem (by omega)] at h0
    unfold World.cell? at h0
    split at h0
    case h_2 => cases h0
    case h_1 c el f hb =>
      have hsp : a.spot = none := by
        cases hs : a.spot with
        | none => rfl
        | some s => rw [hs] at h0; simp at h0
      have hc : ∀ i, i < n → c[a.off + i]? = cs[i]? := by
        intro i hi
        have := each i hi
        obtain ⟨b, off, sp⟩ := a
        simp only at hsp hb
        subst hsp
        rw [add_none, cell_of hb] at this
        exact this
      have hsz : a.off + n ≤ c.size := by
        have := hc (n - 1) (by omega)
        rw [List.getElem?_eq_getElem (by omega)] at this
        have := (Array.getElem?_eq_some_iff.1 this).1
        omega
      refine ⟨hsp, hlen, c, el, f, hb, hsz, ?_⟩
      apply List.ext_getElem?
      intro i
      by_cases hi : i < n
      · rw [List.getElem?_take, if_pos hi, List.getElem?_drop, ← hc i hi, Array.getElem?_toList]
      · rw [List.getElem?_eq_none (by omega), List.getElem?_eq_none (by simp; omega)]

theorem cellsOf_eq {tt : TT} (hT : TblOk P tt) {t : Nat} {i : TInfo} (h : tt.get t = some i) : P.cellsOf t = i.size := by
  obtain ⟨ti, h1, h2, _⟩ := (hT.rows t i h).info
  simp [Program.cellsOf, h1, h2]

theorem brsOf_size {tt : TT} : ∀ (n : Nat) (fs : List (Nat × Nat)) (ty : Ty) (off m : Nat), brsOf tt n fs = some ty → fieldsOk tt off fs m = true → off + ty.size = m ∧ ty.agg = true
  | 0, fs, ty, off, m, h, _ => by simp [brsOf] at h
  | n + 1, [], ty, off, m, h, hf => by
    simp only [brsOf, Option.some.injEq] at h
    subst h
    simp only [fieldsOk] at hf
    exact ⟨Nat.eq_of_beq_eq_true hf, rfl⟩
  | n + 1, f :: r, ty, off, m, h, hf => by
    simp only [brsOf] at h
    cases ha : brOf tt n f.1 with
    | none => rw [ha] at h; cases h
    | some a =>
      rw [ha] at h
      simp only at h
      cases hb : brsOf tt n r with
      | none => rw [hb] at h; cases h
      | some b =>
        rw [hb] at h
        simp only at h
        cases hg : tt.get f.1 with
        | none => rw [hg] at h; cases h
        | some i =>
          rw [hg] at h
          simp only at h
          cases hz : Nat.beq a.size i.size with
          | false => rw [hz] at h; simp at h
          | true =>
            rw [hz] at h
            simp only [cond_true, Option.some.injEq] at h
            subst h
            have hz' := Nat.eq_of_beq_eq_true hz
            simp only [fieldsOk, hg, Bool.and_eq_true] at hf
            have := (brsOf_size n r b _ m hb hf.2).1
            exact ⟨by simp only [Ty.size]; omega, rfl⟩

/-- The list of the data at each place below n. -/
theorem list_choose {α : Type} {p : Nat → α → Prop} : ∀ n : Nat, (∀ i, i < n → ∃ x, p i x) → ∃ xs : List α, xs.length = n ∧ ∀ i x, xs[i]? = some x → p i x
  | 0, _ => ⟨[], rfl, fun i x h => by simp at h⟩
  | n + 1, h => by
    obtain ⟨xs, h1, h2⟩ := list_choose n (fun i hi => h i (by omega))
    obtain ⟨x, hx⟩ := h n (by omega)
    refine ⟨xs ++ [x], by simp [h1], fun i y hy => ?_⟩
    by_cases hi : i < n
    · rw [List.getElem?_append_left (by omega)] at hy; exact h2 i y hy
    · rw [List.getElem?_append_right (by omega)] at hy
      have : i - xs.length = 0 := by
        have := (List.getElem?_eq_some_iff.1 hy).1
        simp at this; omega
      rw [this] at hy
      simp at hy
      subst hy
      have : i = n := by omega
      subst this
      exact hx

theorem chain_aggB (a : Ty) : ∀ n, (chain (List.replicate n a)).agg = true
  | 0 => rfl
  | _ + 1 => rfl

theorem trod_flt {t : TypeId} {fuel : Nat} {cs : List Value} {x : DataW H × List MemPlace} {k : FloatKind} (ht : P.underlying t = some (.float k)) (h : DataW.trod enc P w base spare held fuel t cs = some x) : ∃ n, cs = [.float k n] := by
  cases fuel with
  | zero => simp [DataW.trod] at h
  | succ n =>
    unfold DataW.trod at h
    rw [ht] at h
    split at h <;> simp_all

theorem trod_rep {tt : TT} (hT : TblOk P tt) : ∀ (fuel m t : Nat) (ty : Ty) (cs : List Value) (z : DataW H × List MemPlace), brOf tt m t = some ty → DataW.trod enc P w base spare held fuel t cs = some z →
    ∃ x : ty.Den, Rep (viewW w) ty x cs ∧ ty.fits x := by
  intro fuel
  induction fuel using Nat.strongRecOn with
  | _ fuel ih =>
    intro m t ty cs z hb hz
    cases m with
    | zero => simp [brOf] at hb
    | succ m =>
      simp only [brOf] at hb
      cases hg : tt.get t with
      | none => rw [hg] at hb; cases hb
      | some i =>
        rw [hg] at hb
        have hI := hT.rows t i hg
        have hd := hI.desc
        simp only at hb
        cases hk : i.kind with
        | int k =>
          rw [hk] at hb hd
          simp only at hd
          cases k <;> simp only [Option.some.injEq] at hb <;> first | (cases hb; done) | subst hb
          obtain ⟨n, rfl, _, hw⟩ := DataW.trod_int hd hz
          refine ⟨n, rfl, ?_⟩
          simp only [Lit.wf, Bool.and_eq_true, decide_eq_true_eq] at hw
          exact hw
        | bool =>
          rw [hk] at hb hd
          simp only [Option.some.injEq] at hb hd
          subst hb
          obtain ⟨b, rfl, _⟩ := DataW.trod_bool hd hz
          exact ⟨b, rfl, trivial⟩
        | str =>
          rw [hk] at hb hd
          simp only [Option.some.injEq] at hb hd
          subst hb
          obtain ⟨s, rfl, _⟩ := DataW.trod_string hd hz
          exact ⟨s, rfl, trivial⟩
        | flt k =>
          rw [hk] at hb hd
          simp only [Option.some.injEq] at hb hd
          subst hb
          obtain ⟨b, rfl⟩ := trod_flt hd hz
          exact ⟨b, rfl, trivial⟩
        | cpx k => rw [hk] at hb; cases hb
        | array len e =>
          rw [hk] at hb hd
          simp only at hb hd
          cases hge : tt.get e with
          | none => rw [hge] at hb; cases hb
          | some ei =>
            rw [hge] at hb
            simp only at hb
            cases ha : brOf tt m e with
            | none => rw [ha] at hb; cases hb
            | some a =>
              rw [ha] at hb
              simp only at hb
              cases h2 : Nat.beq a.size ei.size with
              | false => rw [h2] at hb; simp at hb
              | true =>
                rw [h2] at hb
                simp only [cond_true, Option.some.injEq] at hb
                subst hb
                have h2 := Nat.eq_of_beq_eq_true h2
                obtain ⟨xs, n, hf, _, hl, hxl, each⟩ := DataW.trod_array hd hz
                have hc := cellsOf_eq hT hge
                have hci := cellsOf_eq hT hg
                have hrow := hT.row hg
                simp only [rowOk, hk, hge] at hrow
                have hrow := Nat.eq_of_beq_eq_true hrow
                have go : ∀ (r off : Nat), off + r = len → ∃ x : (chain (List.replicate r a)).Den, Rep (viewW w) (chain (List.replicate r a)) x (cs.drop (off * ei.size)) ∧ (chain (List.replicate r a)).fits x := by
                  intro r
                  induction r with
                  | zero =>
                    intro off ho
                    refine ⟨(), List.drop_of_length_le ?_, trivial⟩
                    rw [hl, hci, hrow, show off = len by omega]
                    exact Nat.le_refl _
                  | succ r ihr =>
                    intro off ho
                    have hlt : off < xs.length := by omega
                    have hread := each off (by omega)
                    rw [hc, List.getElem?_eq_getElem hlt] at hread
                    obtain ⟨x, hx, hfx⟩ := ih n (by omega) m e a _ _ ha hread
                    obtain ⟨y, hy, hfy⟩ := ihr (off + 1) (by omega)
                    refine ⟨(x, y), ⟨_, _, ?_, hx, hy⟩, hfx, hfy⟩
                    rw [Nat.add_mul, Nat.one_mul, ← List.drop_drop]
                    exact (List.take_append_drop _ _).symm
                obtain ⟨x, hx, hfx⟩ := go len 0 (by omega)
                exact ⟨x, by simpa using hx, hfx⟩
        | ptr e => rw [hk] at hb; cases hb
        | other => rw [hk] at hb; cases hb
        | slice e =>
          rw [hk] at hb hd
          simp only at hb hd
          cases hge : tt.get e with
          | none => rw [hge] at hb; cases hb
          | some ei =>
            rw [hge] at hb
            simp only at hb
            cases h1 : Nat.ble 1 ei.size with
            | false => rw [h1] at hb; simp at hb
            | true =>
              rw [h1] at hb
              simp only [cond_true] at hb
              cases ha : brOf tt m e with
              | none => rw [ha] at hb; cases hb
              | some a =>
                rw [ha] at hb
                simp only at hb
                cases h2 : Nat.beq a.size ei.size with
                | false => rw [h2] at hb; simp at hb
                | true =>
                  rw [h2] at hb
                  simp only [cond_true, Option.some.injEq] at hb
                  subst hb
                  have h1 := Nat.le_of_ble_eq_true h1
                  have h2 := Nat.eq_of_beq_eq_true h2
                  have hc := cellsOf_eq hT hge
                  rw [← h2] at hc h1
                  rcases DataW.trod_slice hd hz with ⟨rfl, _⟩ | ⟨ad, len, cap, elems, rest, n, hf, rfl, _, _, hlc, hcm, hel, each, _, _⟩
                  · exact ⟨[], rep_nil a, (fun x hx => by cases hx)⟩
                  · have one : ∀ j, j < len → ∃ x : a.Den, (ad.spot = none ∧ ∃ c el f, w.heap[ad.block]? = some (.cells c el f) ∧ ad.off + j * a.size + a.size ≤ c.size ∧
                        Rep (viewW w) a x ((c.toList.drop (ad.off + j * a.size)).take a.size)) ∧ a.fits x := by
                      intro j hj
                      have h3 := each j hj
                      rw [hc, List.getElem?_eq_getElem (by omega)] at h3
                      obtain ⟨cj, h4, h5⟩ := Option.bind_eq_some_iff.1 h3
                      obtain ⟨s1, s2, c, el, f, s3, s4, s5⟩ := cells_read h1 h4
                      obtain ⟨x, hx, hfx⟩ := ih n (by omega) m e a cj _ ha h5
                      obtain ⟨b, off, sp⟩ := ad
                      have hsp : sp = none := by
                        have h6 := each 0 (by omega)
                        rw [hc, List.getElem?_eq_getElem (by omega)] at h6
                        obtain ⟨c0, h7, _⟩ := Option.bind_eq_some_iff.1 h6
                        have := (cells_read h1 h7).1
                        simpa [Addr.add] using this
                      subst hsp
                      rw [add_none] at s3 s4 s5
                      exact ⟨x, ⟨rfl, c, el, f, s3, s4, by rw [← s5]; exact hx⟩, hfx⟩
                    obtain ⟨xs, l1, l2⟩ := list_choose len one
                    refine ⟨xs, ⟨some ad, cap, ?_, ?_, hcm, (fun h => by cases h), fun ad' had hne => ?_⟩, fun x hx => ?_⟩
                    · rw [← l1]
                    · exact l1 ▸ hlc
                    · cases had
                      have hpos : 0 < len := by
                        rw [← l1]
                        exact List.length_pos_iff.2 hne
                      have hlast := l2 (len - 1) _ (List.getElem?_eq_getElem (by omega))
                      obtain ⟨⟨s1, c, el, f, s3, s4, s5⟩, _⟩ := hlast
                      refine ⟨s1, c, ⟨el, f, s3⟩, ?_, fun j x hx => ?_⟩
                      · change ad.off + xs.length * a.size ≤ c.size
                        rw [l1]
                        have : len * a.size = (len - 1) * a.size + a.size := by
                          rw [← Nat.succ_mul]; congr 1; omega
                        omega
                      · obtain ⟨⟨_, c', el', f', s6, _, s7⟩, _⟩ := l2 j x hx
                        rw [s3] at s6
                        simp only [Option.some.injEq, Obj.cells.injEq] at s6
                        obtain ⟨rfl, _, _⟩ := s6
                        exact s7
                    · obtain ⟨j, hj, rfl⟩ := List.mem_iff_getElem.1 hx
                      exact (l2 j _ (List.getElem?_eq_getElem hj)).2
        | struct fs =>
          rw [hk] at hb hd
          simp only at hb hd
          obtain ⟨fa, hd, hfs⟩ := hd
          obtain ⟨xs, n, hf, _, hl, hxl, each⟩ := DataW.trod_struct hd hz
          have hrow := hT.row hg
          simp only [rowOk, hk] at hrow
          have hci := cellsOf_eq hT hg
          -- the fields, from a place on
          have go : ∀ (gs : List (Nat × Nat)) (k off m' : Nat) (ty : Ty), fs.drop k = gs → brsOf tt m' gs = some ty → fieldsOk tt off gs i.size = true →
              ∃ x : ty.Den, Rep (viewW w) ty x (cs.drop off) ∧ ty.fits x := by
            intro gs
            induction gs with
            | nil =>
              intro k off m' ty _ h1 h2
              cases m' with
              | zero => simp [brsOf] at h1
              | succ m' =>
                simp only [brsOf, Option.some.injEq] at h1
                subst h1
                simp only [fieldsOk] at h2
                have h2 := Nat.eq_of_beq_eq_true h2
                exact ⟨(), List.drop_of_length_le (by omega), trivial⟩
            | cons g r ihg =>
              intro k off m' ty hgs h1 h2
              cases m' with
              | zero => simp [brsOf] at h1
              | succ m' =>
                simp only [brsOf] at h1
                cases ha : brOf tt m' g.1 with
                | none => rw [ha] at h1; cases h1
                | some a =>
                  rw [ha] at h1
                  simp only at h1
                  cases hb2 : brsOf tt m' r with
                  | none => rw [hb2] at h1; cases h1
                  | some b =>
                    rw [hb2] at h1
                    simp only at h1
                    cases hgg : tt.get g.1 with
                    | none => rw [hgg] at h1; cases h1
                    | some gi =>
                      rw [hgg] at h1
                      simp only at h1
                      cases hz2 : Nat.beq a.size gi.size with
                      | false => rw [hz2] at h1; simp at h1
                      | true =>
                        rw [hz2] at h1
                        simp only [cond_true, Option.some.injEq] at h1
                        subst h1
                        have hz2 := Nat.eq_of_beq_eq_true hz2
                        simp only [fieldsOk, hgg, Bool.and_eq_true] at h2
                        obtain ⟨h3, h4⟩ := h2
                        have h3 := Nat.eq_of_beq_eq_true h3
                        have hget : fs[k]? = some g := by
                          have := congrArg (fun l : List (Nat × Nat) => l[0]?) hgs
                          simpa using this
                        rw [← hfs] at hget
                        simp only [List.getElem?_map, Option.map_eq_some_iff, Array.getElem?_toList] at hget
                        obtain ⟨fl, hfl, hfg⟩ := hget
                        have e1 : fl.type = g.1 := congrArg Prod.fst hfg
                        have e2 : fl.offset = g.2 := congrArg Prod.snd hfg
                        have hread := each k fl hfl
                        have hlt : k < xs.length := by rw [hxl]; exact (Array.getElem?_eq_some_iff.1 hfl).1
                        rw [e1, e2, h3, cellsOf_eq hT hgg, List.getElem?_eq_getElem hlt] at hread
                        obtain ⟨x, hx, hfx⟩ := ih n (by omega) m' g.1 a _ _ ha hread
                        obtain ⟨y, hy, hfy⟩ := ihg (k + 1) (off + gi.size) m' b (by rw [← List.drop_drop, hgs]; rfl) hb2 h4
                        refine ⟨(x, y), ⟨_, _, ?_, hx, hy⟩, hfx, hfy⟩
                        rw [← List.drop_drop]
                        exact (List.take_append_drop _ _).symm
          obtain ⟨x, hx, hfx⟩ := go fs 0 0 m ty (by simp) hb hrow
          exact ⟨x, by simpa using hx, hfx⟩

end

/-- A value whose cells hold data, as an argument. -/
theorem repV_of {P : Program} {w : World} {tt : TT} (hT : TblOk P tt) {base m t : Nat} {ty : Ty} {v : Value} {r : Reach} {V : View} {x : ty.Den} (hb : brOf tt m t = some ty) (hv : Value.okWide P w r base t v) (hx : Rep V ty x v.cells.toList) : RepV V ty x v := by
  cases m with
  | zero => simp [brOf] at hb
  | succ m =>
    simp only [brOf] at hb
    cases hg : tt.get t with
    | none => rw [hg] at hb; cases hb
    | some i =>
      rw [hg] at hb
      have hd := (hT.rows t i hg).desc
      simp only at hb
      have oneC : ty.agg = false → v.oneCell' = true → RepV V ty x v := fun h1 h2 => by
        refine RepV.mk1 h1 ?_
        cases v <;> first | (simp [Value.oneCell'] at h2; done) | simpa [Value.cells] using hx
      cases hk : i.kind with
      | int k =>
        rw [hk] at hb hd
        simp only at hd
        cases k <;> simp only [Option.some.injEq] at hb <;> first | (cases hb; done) | subst hb
        refine oneC rfl ?_
        simp only [Value.okWide, hd, Cell.okWide, Cell.ok] at hv
        split at hv <;> first | rfl | exact hv.elim | (cases hv; done) | simp_all [Value.oneCell']
      | bool =>
        rw [hk] at hb hd
        simp only [Option.some.injEq] at hb hd
        subst hb
        refine oneC rfl ?_
        simp only [Value.okWide, hd, Cell.okWide, Cell.ok] at hv
        split at hv <;> first | rfl | exact hv.elim | (cases hv; done) | simp_all [Value.oneCell']
      | str =>
        rw [hk] at hb hd
        simp only [Option.some.injEq] at hb hd
        subst hb
        refine oneC rfl ?_
        simp only [Value.okWide, hd, Cell.okWide, Cell.ok] at hv
        split at hv <;> first | rfl | exact hv.elim | (cases hv; done) | simp_all [Value.oneCell']
      | flt k =>
        rw [hk] at hb hd
        simp only [Option.some.injEq] at hb hd
        subst hb
        refine oneC rfl ?_
        simp only [Value.okWide, hd, Cell.okWide, Cell.ok] at hv
        split at hv <;> first | rfl | exact hv.elim | (cases hv; done) | simp_all [Value.oneCell']
      | cpx k => rw [hk] at hb; cases hb
      | array len e =>
        rw [hk] at hb hd
        simp only at hb hd
        cases hge : tt.get e with
        | none => rw [hge] at hb; cases hb
        | some ei =>
          rw [hge] at hb
          simp only at hb
          cases ha : brOf tt m e with
          | none => rw [ha] at hb; cases hb
          | some a =>
            rw [ha] at hb
            simp only at hb
            cases h2 : Nat.beq a.size ei.size with
            | false => rw [h2] at hb; simp at hb
            | true =>
              rw [h2] at hb
              simp only [cond_true, Option.some.injEq] at hb
              subst hb
              simp only [Value.okWide, hd] at hv
              obtain ⟨cs, rfl, _, _⟩ := hv
              exact ⟨cs.toList, by simpa [Value.cells] using hx, .inl ⟨chain_aggB _ _, by simp⟩⟩
      | ptr e => rw [hk] at hb; cases hb
      | other => rw [hk] at hb; cases hb
      | slice e =>
        rw [hk] at hb hd
        simp only at hb hd
        have hag : ty.agg = false := by
          cases hge : tt.get e with
          | none => rw [hge] at hb; cases hb
          | some ei =>
            rw [hge] at hb
            simp only at hb
            cases h1 : Nat.ble 1 ei.size with
            | false => rw [h1] at hb; simp at hb
            | true =>
              rw [h1] at hb
              simp only [cond_true] at hb
              cases ha : brOf tt m e with
              | none => rw [ha] at hb; cases hb
              | some a =>
                rw [ha] at hb
                simp only at hb
                cases h2 : Nat.beq a.size ei.size with
                | false => rw [h2] at hb; simp at hb
                | true =>
                  rw [h2] at hb
                  simp only [cond_true, Option.some.injEq] at hb
                  subst hb; rfl
        refine oneC hag ?_
        simp only [Value.okWide, hd, Cell.okWide, Cell.ok] at hv
        split at hv <;> first | rfl | exact hv.elim | (cases hv; done) | simp_all [Value.oneCell']
      | struct fs =>
        rw [hk] at hb hd
        simp only at hb hd
        obtain ⟨fa, hd, _⟩ := hd
        have hrow := hT.row hg
        simp only [rowOk, hk] at hrow
        have hag := (brsOf_size m fs ty 0 i.size hb hrow).2
        simp only [Value.okWide, hd] at hv
        obtain ⟨cs, rfl, _, _⟩ := hv
        exact ⟨cs.toList, by simpa [Value.cells] using hx, .inl ⟨hag, by simp⟩⟩

def datP : List Ty → List Pat
  | [] => []
  | t :: r => .dat t :: datP r

def fitsAll : (tys : List Ty) → (argTy (datP tys)).Den → Prop
  | [], _ => True
  | t :: r, x => t.fits x.1 ∧ fitsAll r x.2

def brAll (tt : TT) : List TypeId → List Ty → Prop
  | [], [] => True
  | t :: r, ty :: s => brOf tt 20 t = some ty ∧ brAll tt r s
  | _, _ => False

theorem args_of {H : Type} {enc : TypeId × Value → H} {P : Program} {W : World} {OB : Nat → Obj → Prop} {tt : TT} (hT : TblOk P tt) {base : Nat} : ∀ {ts : List TypeId} {tys : List Ty} {vs : List Value} {ds : List (DataW H)} {ps : List MemPlace}, brAll tt ts tys →
    DataW.TrodAll enc P W 0 (fun _ => true) true ts vs ds ps → (∀ (j : Nat) t v, ts[j]? = some t → vs[j]? = some v → Value.okWide P W .any base t v) →
    ∃ x : (argTy (datP tys)).Den, ArgsOK OB W (fun _ => False) (datP tys) x vs [] ∧ fitsAll tys x
  | [], [], [], [], ps, _, _, _ => ⟨(), ⟨rfl, rfl⟩, trivial⟩
  | t :: ts, ty :: tys, v :: vs, d :: ds, ps, hb, h, hv => by
    obtain ⟨p, q, ⟨fuel, h1⟩, h2, _⟩ := h
    obtain ⟨x, hx, hf⟩ := trod_rep hT fuel 20 t ty _ _ hb.1 h1
    obtain ⟨y, hy, hg⟩ := args_of hT hb.2 h2 (fun j t' v' h3 h4 => hv (j + 1) t' v' (by simpa using h3) (by simpa using h4))
    have hr := repV_of hT hb.1 (hv 0 t v rfl rfl) hx
    exact ⟨(x, y), ⟨v, vs, rfl, hr.mono (fun b c h => ⟨fun h => h, h⟩), hy⟩, hf, hg⟩

end Go.Eng

namespace Go.Eng.Pu
open Go.Eng Go.Proofs

def RowsOk (P : Program) : TT → Prop
  | [] => True
  | (t, i) :: r => TIOk P t i ∧ RowsOk P r

theorem rowsOk_get {P : Program} : ∀ {tt : TT} {t : Nat} {i : TInfo}, RowsOk P tt → tt.get t = some i → TIOk P t i
  | [], _, _, _, h => by simp [TT.get] at h
  | (t', i') :: r, t, i, hr, h => by
    simp only [TT.get] at h
    cases hb : Nat.beq t' t with
    | true =>
      rw [hb] at h
      have := Nat.eq_of_beq_eq_true hb
      subst this
      simp only [cond_true, Option.some.injEq] at h
      subst h
      exact hr.1
    | false => rw [hb] at h; exact rowsOk_get hr.2 h

def i3 : TInfo := { kind := .int .i64, size := 1, bytes := 8, zero := .int .i64 0 }
theorem row3 : TIOk Tryd.prog 3 i3 := ⟨Tryd.underlying3, ⟨Tryd.t3, by kernel_rfl, by kernel_rfl, by kernel_rfl, by kernel_rfl⟩, rfl⟩

def i4 : TInfo := { kind := .bool, size := 1, bytes := 1, zero := .bool false }
theorem row4 : TIOk Tryd.prog 4 i4 := ⟨Tryd.underlying4, ⟨Tryd.t4, by kernel_rfl, by kernel_rfl, by kernel_rfl, by kernel_rfl⟩, rfl⟩

def i23 : TInfo := { kind := .slice 48, size := 1, bytes := 24, zero := .slice none 0 0 }
theorem row23 : TIOk Tryd.prog 23 i23 := ⟨Tryd.underlying23, ⟨Tryd.t23, by kernel_rfl, by kernel_rfl, by kernel_rfl, by kernel_rfl⟩, rfl⟩

def i24 : TInfo := { kind := .int .i64, size := 1, bytes := 8, zero := .int .i64 0 }
theorem row24 : TIOk Tryd.prog 24 i24 := ⟨Tryd.underlying24, ⟨Tryd.t24, by kernel_rfl, by kernel_rfl, by kernel_rfl, by kernel_rfl⟩, rfl⟩

def i31 : TInfo := { kind := .slice 37, size := 1, bytes := 24, zero := .slice none 0 0 }
theorem row31 : TIOk Tryd.prog 31 i31 := ⟨Tryd.underlying31, ⟨Tryd.t31, by kernel_rfl, by kernel_rfl, by kernel_rfl, by kernel_rfl⟩, rfl⟩

def i32 : TInfo := { kind := .slice 3, size := 1, bytes := 24, zero := .slice none 0 0 }
theorem row32 : TIOk Tryd.prog 32 i32 := ⟨Tryd.underlying32, ⟨Tryd.t32, by kernel_rfl, by kernel_rfl, by kernel_rfl, by kernel_rfl⟩, rfl⟩

def i34 : TInfo := { kind := .struct [(3, 0), (32, 1)], size := 2, bytes := 32, zero := .agg #[.int .i64 0, .slice none 0 0] }
theorem row34 : TIOk Tryd.prog 34 i34 := ⟨⟨_, Tryd.underlying34, rfl⟩, ⟨Tryd.t34, by kernel_rfl, by kernel_rfl, by kernel_rfl, by kernel_rfl⟩, rfl⟩

def i35 : TInfo := { kind := .struct [(34, 0), (3, 2)], size := 3, bytes := 40, zero := .agg #[.int .i64 0, .slice none 0 0, .int .i64 0] }
theorem row35 : TIOk Tryd.prog 35 i35 := ⟨⟨_, Tryd.underlying35, rfl⟩, ⟨Tryd.t35, by kernel_rfl, by kernel_rfl, by kernel_rfl, by kernel_rfl⟩, rfl⟩

def i36 : TInfo := { kind := .struct [(34, 0), (3, 2)], size := 3, bytes := 40, zero := .agg #[.int .i64 0, .slice none 0 0, .int .i64 0] }
theorem row36 : TIOk Tryd.prog 36 i36 := ⟨⟨_, Tryd.underlying36, rfl⟩, ⟨Tryd.t36, by kernel_rfl, by kernel_rfl, by kernel_rfl, by kernel_rfl⟩, rfl⟩

def i37 : TInfo := { kind := .array 2 3, size := 2, bytes := 16, zero := .agg #[.int .i64 0, .int .i64 0] }
theorem row37 : TIOk Tryd.prog 37 i37 := ⟨Tryd.underlying37, ⟨Tryd.t37, by kernel_rfl, by kernel_rfl, by kernel_rfl, by kernel_rfl⟩, rfl⟩

def i48 : TInfo := { kind := .cpx .f32, size := 1, bytes := 8, zero := .complex .f32 0 0 }
theorem row48 : TIOk Tryd.prog 48 i48 := ⟨Tryd.underlying48, ⟨Tryd.t48, by kernel_rfl, by kernel_rfl, by kernel_rfl, by kernel_rfl⟩, rfl⟩

def i50 : TInfo := { kind := .flt .f32, size := 1, bytes := 4, zero := .float .f32 0 }
theorem row50 : TIOk Tryd.prog 50 i50 := ⟨Tryd.underlying50, ⟨Tryd.t50, by kernel_rfl, by kernel_rfl, by kernel_rfl, by kernel_rfl⟩, rfl⟩

def i56 : TInfo := { kind := .array 2 50, size := 2, bytes := 8, zero := .agg #[.float .f32 0, .float .f32 0] }
theorem row56 : TIOk Tryd.prog 56 i56 := ⟨Tryd.underlying56, ⟨Tryd.t56, by kernel_rfl, by kernel_rfl, by kernel_rfl, by kernel_rfl⟩, rfl⟩

def i57 : TInfo := { kind := .slice 56, size := 1, bytes := 24, zero := .slice none 0 0 }
theorem row57 : TIOk Tryd.prog 57 i57 := ⟨Tryd.underlying57, ⟨Tryd.t57, by kernel_rfl, by kernel_rfl, by kernel_rfl, by kernel_rfl⟩, rfl⟩

def i58 : TInfo := { kind := .slice 56, size := 1, bytes := 24, zero := .slice none 0 0 }
theorem row58 : TIOk Tryd.prog 58 i58 := ⟨Tryd.underlying58, ⟨Tryd.t58, by kernel_rfl, by kernel_rfl, by kernel_rfl, by kernel_rfl⟩, rfl⟩

def i63 : TInfo := { kind := .struct [(3, 0), (3, 1), (3, 2)], size := 3, bytes := 24, zero := .agg #[.int .i64 0, .int .i64 0, .int .i64 0] }
theorem row63 : TIOk Tryd.prog 63 i63 := ⟨⟨_, Tryd.underlying63, rfl⟩, ⟨Tryd.t63, by kernel_rfl, by kernel_rfl, by kernel_rfl, by kernel_rfl⟩, rfl⟩

def i65 : TInfo := { kind := .other, size := 1, bytes := 8, zero := .nilFunc }
theorem row65 : TIOk Tryd.prog 65 i65 := ⟨⟨_, Tryd.underlying65, trivial⟩, ⟨Tryd.t65, by kernel_rfl, by kernel_rfl, by kernel_rfl, by kernel_rfl⟩, rfl⟩

def i66 : TInfo := { kind := .slice 69, size := 1, bytes := 24, zero := .slice none 0 0 }
theorem row66 : TIOk Tryd.prog 66 i66 := ⟨Tryd.underlying66, ⟨Tryd.t66, by kernel_rfl, by kernel_rfl, by kernel_rfl, by kernel_rfl⟩, rfl⟩

def i67 : TInfo := { kind := .slice 69, size := 1, bytes := 24, zero := .slice none 0 0 }
theorem row67 : TIOk Tryd.prog 67 i67 := ⟨Tryd.underlying67, ⟨Tryd.t67, by kernel_rfl, by kernel_rfl, by kernel_rfl, by kernel_rfl⟩, rfl⟩

def i69 : TInfo := { kind := .struct [(3, 0), (3, 1)], size := 2, bytes := 16, zero := .agg #[.int .i64 0, .int .i64 0] }
theorem row69 : TIOk Tryd.prog 69 i69 := ⟨⟨_, Tryd.underlying69, rfl⟩, ⟨Tryd.t69, by kernel_rfl, by kernel_rfl, by kernel_rfl, by kernel_rfl⟩, rfl⟩

def i75 : TInfo := { kind := .cpx .f64, size := 1, bytes := 16, zero := .complex .f64 0 0 }
theorem row75 : TIOk Tryd.prog 75 i75 := ⟨Tryd.underlying75, ⟨Tryd.t75, by kernel_rfl, by kernel_rfl, by kernel_rfl, by kernel_rfl⟩, rfl⟩

def i84 : TInfo := { kind := .struct [(34, 0)], size := 2, bytes := 32, zero := .agg #[.int .i64 0, .slice none 0 0] }
theorem row84 : TIOk Tryd.prog 84 i84 := ⟨⟨_, Tryd.underlying84, rfl⟩, ⟨Tryd.t84, by kernel_rfl, by kernel_rfl, by kernel_rfl, by kernel_rfl⟩, rfl⟩

def i97 : TInfo := { kind := .struct [(63, 0)], size := 3, bytes := 24, zero := .agg #[.int .i64 0, .int .i64 0, .int .i64 0] }
theorem row97 : TIOk Tryd.prog 97 i97 := ⟨⟨_, Tryd.underlying97, rfl⟩, ⟨Tryd.t97, by kernel_rfl, by kernel_rfl, by kernel_rfl, by kernel_rfl⟩, rfl⟩

def i101 : TInfo := { kind := .array 4 37, size := 8, bytes := 64, zero := .agg #[.int .i64 0, .int .i64 0, .int .i64 0, .int .i64 0, .int .i64 0, .int .i64 0, .int .i64 0, .int .i64 0] }
theorem row101 : TIOk Tryd.prog 101 i101 := ⟨Tryd.underlying101, ⟨Tryd.t101, by kernel_rfl, by kernel_rfl, by kernel_rfl, by kernel_rfl⟩, rfl⟩

def i103 : TInfo := { kind := .int .u64, size := 1, bytes := 8, zero := .int .u64 0 }
theorem row103 : TIOk Tryd.prog 103 i103 := ⟨Tryd.underlying103, ⟨Tryd.t103, by kernel_rfl, by kernel_rfl, by kernel_rfl, by kernel_rfl⟩, rfl⟩

def i105 : TInfo := { kind := .flt .f64, size := 1, bytes := 8, zero := .float .f64 0 }
theorem row105 : TIOk Tryd.prog 105 i105 := ⟨Tryd.underlying105, ⟨Tryd.t105, by kernel_rfl, by kernel_rfl, by kernel_rfl, by kernel_rfl⟩, rfl⟩

def i112 : TInfo := { kind := .slice 24, size := 1, bytes := 24, zero := .slice none 0 0 }
theorem row112 : TIOk Tryd.prog 112 i112 := ⟨Tryd.underlying112, ⟨Tryd.t112, by kernel_rfl, by kernel_rfl, by kernel_rfl, by kernel_rfl⟩, rfl⟩

def i113 : TInfo := { kind := .other, size := 1, bytes := 8, zero := .nilFunc }
theorem row113 : TIOk Tryd.prog 113 i113 := ⟨⟨_, Tryd.underlying113, trivial⟩, ⟨Tryd.t113, by kernel_rfl, by kernel_rfl, by kernel_rfl, by kernel_rfl⟩, rfl⟩

def i120 : TInfo := { kind := .int .u64, size := 1, bytes := 8, zero := .int .u64 0 }
theorem row120 : TIOk Tryd.prog 120 i120 := ⟨Tryd.underlying120, ⟨Tryd.t120, by kernel_rfl, by kernel_rfl, by kernel_rfl, by kernel_rfl⟩, rfl⟩

def i128 : TInfo := { kind := .int .u32, size := 1, bytes := 4, zero := .int .u32 0 }
theorem row128 : TIOk Tryd.prog 128 i128 := ⟨Tryd.underlying128, ⟨Tryd.t128, by kernel_rfl, by kernel_rfl, by kernel_rfl, by kernel_rfl⟩, rfl⟩

def i70 : TInfo := { kind := .array 4 69, size := 8, bytes := 64, zero := .agg #[.int .i64 0, .int .i64 0, .int .i64 0, .int .i64 0, .int .i64 0, .int .i64 0, .int .i64 0, .int .i64 0] }
theorem row70 : TIOk Tryd.prog 70 i70 := ⟨Tryd.underlying70, ⟨Tryd.t70, by kernel_rfl, by kernel_rfl, by kernel_rfl, by kernel_rfl⟩, rfl⟩

def tt : TT := [(3, i3), (4, i4), (23, i23), (24, i24), (31, i31), (32, i32), (34, i34), (35, i35), (36, i36), (37, i37), (48, i48), (50, i50), (56, i56), (57, i57), (58, i58), (63, i63), (65, i65), (66, i66), (67, i67), (69, i69), (75, i75), (84, i84), (97, i97), (101, i101), (103, i103), (105, i105), (112, i112), (113, i113), (120, i120), (128, i128), (70, i70)]
theorem rows : RowsOk Tryd.prog tt := ⟨row3, row4, row23, row24, row31, row32, row34, row35, row36, row37, row48, row50, row56, row57, row58, row63, row65, row66, row67, row69, row75, row84, row97, row101, row103, row105, row112, row113, row120, row128, row70, trivial⟩
theorem tbl : TblOk Tryd.prog tt := ⟨fun _ _ h => rowsOk_get rows h, by kernel_rfl⟩
end Go.Eng.Pu

namespace Go.Eng.Pu
open Go.Eng Go.Proofs
set_option linter.all false

abbrev I64 : Ty := .int .i64
abbrev F32 : Ty := .flt .f32
abbrev C64 : Ty := .cpx .f32
abbrev C128 : Ty := .cpx .f64
abbrev Reg0 : Ty := .cons I64 (.cons (.sl I64) .nil)
abbrev Reg : Ty := .cons Reg0 .nil
abbrev PairT : Ty := .cons I64 (.cons I64 .nil)
abbrev Fld0 : Ty := .cons I64 (.cons I64 (.cons I64 .nil))
abbrev Fld : Ty := .cons Fld0 .nil
abbrev RawT : Ty := .cons F32 (.cons F32 .nil)

abbrev sI (t : Nat) (n : Int) : Fact := .slot t (.one (.d I64 n))
abbrev sB (t : Nat) (b : Bool) : Fact := .slot t (.one (.d .bool b))
abbrev cI (k off : Nat) (n : Int) : Fact := .cell k off (.d I64 n)

def OB (_ : Nat) (_ : Obj) : Prop := False

def Ok (f : Nat) (sp : Spec) : Prop := Holds Tryd.prog OB f sp ∧ Enters Tryd.prog f

def All : List (Nat × Spec) → Prop
  | [] => True
  | p :: r => Ok p.1 p.2 ∧ All r

theorem all_get : ∀ {ctr : List (Nat × Spec)} {f : Nat} {sp : Spec}, All ctr → getSpec f ctr = some sp → Ok f sp
  | [], _, _, _, h => by simp [getSpec] at h
  | (g, s) :: r, f, sp, ha, h => by
    simp only [getSpec] at h
    cases hb : Nat.beq g f with
    | true =>
      rw [hb] at h
      have := Nat.eq_of_beq_eq_true hb
      subst this
      simp only [cond_true, Option.some.injEq] at h
      subst h
      exact ha.1
    | false => rw [hb] at h; exact all_get ha.2 h

/-- What else a walk knows: iterators, closures, rounds of loops without annotation. -/
structure Xt where
  its : List (Nat × ISpec) := []
  clos : List (Nat × List Ty) := []
  fuel : Nat := 0

@[reducible] def cfg (X : Xt) (ctr : List (Nat × Spec)) (nt : Nat) : Cfg := { tt := tt, eqs := [], ctr := ctr, nt := nt, extb := [(60, .f64)], its := X.its, clos := X.clos, fuel := X.fuel }

def bodyOf (f : Func) : Code := match f.body with | some b => b | none => .skip

def Its : List (Nat × ISpec) → Prop
  | [] => True
  | p :: r => (IHolds Tryd.prog p.1 p.2 ∧ Enters Tryd.prog p.1) ∧ Its r

theorem its_get : ∀ {l : List (Nat × ISpec)} {g : Nat} {sp : ISpec}, Its l → getIt g l = some sp → IHolds Tryd.prog g sp ∧ Enters Tryd.prog g
  | [], _, _, _, h => by simp [getIt] at h
  | (g, s) :: r, f, sp, ha, h => by
    simp only [getIt] at h
    cases hb : Nat.beq g f with
    | true =>
      rw [hb] at h
      have := Nat.eq_of_beq_eq_true hb
      subst this
      simp only [cond_true, Option.some.injEq] at h
      subst h
      exact ha.1
    | false => rw [hb] at h; exact its_get ha.2 h

theorem mixed : Tryd.prog.follows .mixedOrders = true := by kernel_rfl

theorem extOk (f : Nat) (k : FloatKind) (h : getEx f [(60, .f64)] = some k) : ∃ fn F, Tryd.prog.funcs[f]? = some fn ∧ (fn.name == "runtime.NumGoroutine") = false ∧ fn.body.isNone = true ∧ Extern.findNext fn = none ∧ Extern.find fn = some F ∧
    ∀ (n : Nat) w, (F #[.float k n]).run Tryd.prog w = .ok (.int (bitK k) n) w := by
  simp only [getEx] at h
  cases h1 : Nat.beq 60 f with
  | true =>
    rw [h1] at h
    have := Nat.eq_of_beq_eq_true h1
    subst this
    simp only [cond_true, Option.some.injEq] at h
    subst h
    exact ⟨Tryd.f60, Extern.MathFloatBits.float64bits, Tryd.func60, by kernel_rfl, by kernel_rfl, by kernel_rfl, by kernel_rfl, fun n w => rfl⟩
  | false => rw [h1] at h; simp at h

theorem cfgOk {X : Xt} (hX : Its X.its) {ctr : List (Nat × Spec)} {nt : Nat} (h : All ctr) : CfgOk Tryd.prog OB (cfg X ctr nt) where
  tbl := tbl
  eqs := fun t ht => by cases ht
  ctr := fun f sp hf => all_get h hf
  ext := fun f hf => by simp [memN] at hf
  extb := extOk
  obs := fun t i hi => by simp [obOf] at hi
  its := fun g isp h => its_get hX h

theorem mkX {X : Xt} (hX : Its X.its) {ctr : List (Nat × Spec)} (hctr : All ctr) {f nt : Nat} {fn : Func} {sp : Spec} (hf : Tryd.prog.funcs[f]? = some fn) (hb : fn.body = some (bodyOf fn)) (hnt : fn.ntmps = nt) (hps : (Nat.ble sp.pats.length nt && Nat.ble nt 1000000) = true)
    (hob : Nat.ble (obCount sp.pats) 1 = true) (hd : dstOk nt (bodyOf fn) = true) (hn : (fn.name == "runtime.NumGoroutine") = false) (anns : (argTy sp.pats).Den → List (St → LoopAnn))
    (h : ∀ x, sp.pre x → bodyVC (cfg X ctr nt) (par (cfg X ctr nt)) (anns x) fn.results.toList (bodyOf fn) sp x) : Ok f sp :=
  ⟨fn_sound (cfgOk hX hctr) (par_sound mixed (cfgOk hX hctr)) hf hb hnt (Nat.le_of_ble_eq_true (Bool.and_eq_true _ _ ▸ hps : _ ∧ _).1) (Nat.le_of_ble_eq_true (Bool.and_eq_true _ _ ▸ hps : _ ∧ _).2) (Nat.le_of_ble_eq_true hob) rfl hd anns h, fn, hf, hn, by rw [hb]; rfl⟩

theorem mk {ctr : List (Nat × Spec)} (hctr : All ctr) {f nt : Nat} {fn : Func} {sp : Spec} (hf : Tryd.prog.funcs[f]? = some fn) (hb : fn.body = some (bodyOf fn)) (hnt : fn.ntmps = nt) (hps : (Nat.ble sp.pats.length nt && Nat.ble nt 1000000) = true)
    (hob : Nat.ble (obCount sp.pats) 1 = true) (hd : dstOk nt (bodyOf fn) = true) (hn : (fn.name == "runtime.NumGoroutine") = false) (anns : (argTy sp.pats).Den → List (St → LoopAnn))
    (h : ∀ x, sp.pre x → bodyVC (cfg {} ctr nt) (par (cfg {} ctr nt)) (anns x) fn.results.toList (bodyOf fn) sp x) : Ok f sp := mkX (X := {}) True.intro hctr hf hb hnt hps hob hd hn anns h

/-- No iterators; loops go round by round. -/
@[reducible] def xU : Xt := { fuel := 400 }
theorem xU_ok : Its xU.its := True.intro

end Go.Eng.Pu

namespace Go.Eng.Pu
open Go.Eng Go.Proofs
set_option linter.all false

/-- What the variable turns holds. -/
abbrev TurnT : Ty := .cons PairT (.cons PairT (.cons PairT (.cons PairT .nil)))
def turnsD : TurnT.Den := ((1, 0, ()), (0, 1, ()), (-1, 0, ()), (0, -1, ()), ())

end Go.Eng.Pu

namespace Go.Eng.Pu
open Go.Eng Go.Proofs Go.ChangeShapes Go.WideShapes Go.ChangeAt Go.RowKit
set_option linter.all false
set_option maxRecDepth 100000

/-- What a law's contract says: it returns true, whatever fits, where the variable holds what its text lays. -/
@[reducible] def lawSpecG (tys : List Ty) : Spec := { pats := .gl 0 TurnT :: datP tys, res := [{ t := .bool }], pre := fun x => x.1 = turnsD ∧ fitsAll tys x.2, f := fun _ => (true, ()) }

abbrev laidG : List (String × DataW Unit) := [("shoebox/pulse.turns", Go.Proofs.YtcoimlnplaidiaaDoor.Rows.laid_shoebox_pulse_turns)]
theorem own : ownKnob Tryd.prog.godebug = none := by kernel_rfl
theorem laidOut : laidOutB Tryd.prog = true := by kernel_rfl
theorem gTurns : Tryd.prog.globalNamed "shoebox/pulse.turns" = some 0 := by kernel_rfl
theorem tTurns : (Tryd.prog.globals[0]?).map (·.type) = some 70 := by kernel_rfl
theorem c3 : Tryd.prog.cellsOf 3 = 1 := by kernel_rfl
theorem c69 : Tryd.prog.cellsOf 69 = 2 := by kernel_rfl
theorem c70 : Tryd.prog.cellsOf 70 = 8 := by kernel_rfl

theorem pair_of {H : Type} {enc : TypeId × Value → H} {W : World} {base fuel : Nat} {spare : Nat → Bool} {held : Bool} {cs : List Value} {a b : Int} {p : List MemPlace}
    (h : DataW.trod enc Tryd.prog W base spare held fuel 69 cs = some (.agg [.lit (.int .i64 a), .lit (.int .i64 b)], p)) : cs = [.int .i64 a, .int .i64 b] := by
  obtain ⟨y0, y1, n, e, hl, h0, h1⟩ := trod_struct2 Tryd.underlying69 h
  rw [c69] at hl
  rw [c3] at h0 h1
  simp only [Prod.mk.injEq, DataW.agg.injEq, List.cons.injEq, and_true] at e
  obtain ⟨⟨e0, e1⟩, _⟩ := e
  obtain ⟨k0, q0, z0, _⟩ := DataW.trod_int Tryd.underlying3 h0
  obtain ⟨k1, q1, z1, _⟩ := DataW.trod_int Tryd.underlying3 h1
  rw [z0] at e0
  rw [z1] at e1
  match cs, hl with
  | [u, v], _ =>
    simp at q0 q1 e0 e1
    rw [q0, q1, ← e0, ← e1]

theorem turns_of {W : World} (h : laidMetH Tryd.prog laidG W) : ∃ c el f, W.heap[0]? = some (.cells c el f) ∧ c.toList = [.int .i64 1, .int .i64 0, .int .i64 0, .int .i64 1, .int .i64 (-1), .int .i64 0, .int .i64 0, .int .i64 (-1)] := by
  rw [MakeChecks.laidMetH_plain _ _ _ (by kernel_rfl)] at h
  obtain ⟨ps, ⟨g0, t0, cs0, f0, p0, q0, hg0, ht0, hv0, hd0, _, _⟩, _, _⟩ := h
  obtain rfl := Option.some.inj (gTurns.symm.trans hg0)
  obtain rfl := Option.some.inj (tTurns.symm.trans ht0)
  have hheap : ∃ el f, W.heap[0]? = some (.cells cs0 el f) := by
    simp only [World.var?, gTurns, Option.bind_some] at hv0
    split at hv0
    · rename_i cs el f hh
      simp only [Option.some.injEq] at hv0
      exact ⟨el, f, by rw [hh, hv0]⟩
    · cases hv0
  obtain ⟨el, f, hheap⟩ := hheap
  refine ⟨cs0, el, f, hheap, ?_⟩
  obtain ⟨xs, m, _, hx, hlen, hn, hel⟩ := DataW.trod_array Tryd.underlying70 hd0
  rw [c70] at hlen
  simp only [Prod.mk.injEq] at hx
  obtain ⟨hx, _⟩ := hx
  have e0 := hel 0 (by decide)
  have e1 := hel 1 (by decide)
  have e2 := hel 2 (by decide)
  have e3 := hel 3 (by decide)
  rw [c69] at e0 e1 e2 e3
  match xs, hn, hx with
  | [x0, x1, x2, x3], _, hx =>
    simp only [Go.Proofs.YtcoimlnplaidiaaDoor.Rows.laid_shoebox_pulse_turns, List.map_cons, List.map_nil, DataW.agg.injEq, List.cons.injEq, and_true] at hx
    obtain ⟨z0, z1, z2, z3⟩ := hx
    obtain ⟨x0, y0⟩ := x0
    obtain ⟨x1, y1⟩ := x1
    obtain ⟨x2, y2⟩ := x2
    obtain ⟨x3, y3⟩ := x3
    simp only at z0 z1 z2 z3
    subst z0 z1 z2 z3
    have a0 := pair_of (show DataW.trod _ Tryd.prog W 0 _ false m 69 _ = some _ from e0)
    have a1 := pair_of (show DataW.trod _ Tryd.prog W 0 _ false m 69 _ = some _ from e1)
    have a2 := pair_of (show DataW.trod _ Tryd.prog W 0 _ false m 69 _ = some _ from e2)
    have a3 := pair_of (show DataW.trod _ Tryd.prog W 0 _ false m 69 _ = some _ from e3)
    match hc : cs0.toList, hlen with
    | [b0, b1, b2, b3, b4, b5, b6, b7], _ =>
      rw [hc] at a0 a1 a2 a3
      simp at a0 a1 a2 a3
      obtain ⟨rfl, rfl⟩ := a0
      obtain ⟨rfl, rfl⟩ := a1
      obtain ⟨rfl, rfl⟩ := a2
      obtain ⟨rfl, rfl⟩ := a3
      rfl

theorem turns_rep {W : World} (h : laidMetH Tryd.prog laidG W) : RepV (fun b c => ¬ False ∧ ∃ el f, W.heap[b]? = some (.cells c el f)) (.ptr TurnT) turnsD (.pointer (some ⟨0, 0, none⟩)) := by
  obtain ⟨c, el, f, h1, h2⟩ := turns_of h
  have hs : c.size = 8 := by rw [← Array.length_toList, h2]; rfl
  refine ⟨_, ⟨⟨0, 0, none⟩, c, rfl, rfl, ⟨id, el, f, h1⟩, by rw [hs]; decide, ?_⟩, .inr ⟨rfl, rfl⟩⟩
  rw [h2]
  exact ⟨[.int .i64 1, .int .i64 0], _, rfl, ⟨[_], [_], rfl, rfl, [_], [], rfl, rfl, rfl⟩, [.int .i64 0, .int .i64 1], _, rfl, ⟨[_], [_], rfl, rfl, [_], [], rfl, rfl, rfl⟩,
    [.int .i64 (-1), .int .i64 0], _, rfl, ⟨[_], [_], rfl, rfl, [_], [], rfl, rfl, rfl⟩, [.int .i64 0, .int .i64 (-1)], [], rfl, ⟨[_], [_], rfl, rfl, [_], [], rfl, rfl, rfl⟩, rfl⟩

theorem law_calls {H : Type} {enc : TypeId × Value → H} {F : Nat} {tys : List Ty} (h : Ok F (lawSpecG tys)) {W : World} (hL : laidMetH Tryd.prog laidG W) {args : Array Value} {ds : List (DataW H)} {ps : List MemPlace} {ts : List TypeId} {base : Nat} (hbr : brAll tt ts tys)
    (hA : DataW.TrodAll enc Tryd.prog W 0 (fun _ => true) true ts args.toList ds ps) (hval : ∀ (j : Nat) t v, ts[j]? = some t → args.toList[j]? = some v → Value.okWide Tryd.prog W .any base t v) :
    Calls Tryd.prog F args W fun e W' => e = .returned (.bool true) ∧ Below W.heap.size W W' := by
  obtain ⟨x, hx, hf⟩ := args_of tbl (OB := OB) hbr hA hval
  have := h.1 W (fun _ => False) (turnsD, x) args.toList [] (fun _ h => h.elim) ⟨turns_rep hL, hx⟩ ⟨rfl, hf⟩
  refine this.mono fun e W' ⟨rs, g, h1, h2, h3⟩ => ?_
  subst h1
  obtain ⟨v, vs', rfl, ⟨l, r1, ⟨r2, _⟩ | ⟨_, r2⟩⟩, rfl, rfl⟩ := h3
  · cases r2
  · have r1 : l = [.bool true] := r1
    rw [r1] at r2
    simp at r2
    subst r2
    exact ⟨rfl, h2.os, h2.tape, h2.output, h2.size, fun k hk => h2.keep k hk (by simp)⟩

theorem kept_of {W W' : World} (h : Below W.heap.size W W') (may : MemPlace → Prop) : W.keptBut W' may := by
  refine ⟨h.os, h.output, fun i hi => ?_⟩
  rw [h.block i hi]
  split
  · rename_i h1 h2
    rw [h1] at h2
    simp only [Option.some.injEq, Obj.cells.injEq] at h2
    obtain ⟨rfl, rfl, rfl⟩ := h2
    exact ⟨rfl, rfl, rfl, fun _ _ => rfl⟩
  · rename_i h1 h2
    rw [h1] at h2
    simp only [Option.some.injEq, Obj.map.injEq] at h2
    obtain ⟨rfl, rfl⟩ := h2
    exact .inr ⟨rfl, rfl⟩
  · rfl

def readAll (P : Program) : List TypeId → Bool
  | [] => true
  | t :: r => P.readableRec t && decide (t < P.types.size) && readAll P r

theorem trodAll_stays {P : Program} (hl : laidOutB P = true) {H : Type} {enc : TypeId × Value → H} {W W' : World} (hb : Below W.heap.size W W') : ∀ {ts : List TypeId} {vs : List Value} {ds : List (DataW H)} {ps : List MemPlace}, readAll P ts = true →
    DataW.TrodAll enc P W 0 (fun _ => true) true ts vs ds ps → DataW.TrodAll enc P W' 0 (fun b => decide (b < W.heap.size)) true ts vs ds ps
  | [], [], [], _, _, h => h
  | t :: ts, v :: vs, d :: ds, ps, hr, ⟨p, q, h1, h2, h3⟩ => by
    simp only [readAll, Bool.and_eq_true, decide_eq_true_eq] at hr
    have hlt := DataW.TrodAll.lt (show DataW.TrodAll enc P W 0 (fun _ => true) true (t :: ts) (v :: vs) (d :: ds) ps from ⟨p, q, h1, h2, h3⟩)
    subst h3
    exact ⟨p, q, Below.trod hl hr.1.1 hr.1.2 h1 hb (fun x hx => hlt x (List.mem_append.2 (.inl hx))), trodAll_stays hl hb hr.2 h2, rfl⟩

theorem law_post {H : Type} {enc : TypeId × Value → H} {f : Func} {s : ChangeSpec} {W W' : World} {args : Array Value} {ds gs : List (DataW H)} {before : List MemPlace}
    (hW : DataW.Whole enc Tryd.prog f.params.toList s.vars false W args.toList ds gs before) (hv : s.vars = []) (hr : f.resultTypes.toList = [4]) (hs : f.resultTypes.size = 1) (hfn : s.fn H (ds ++ gs) = { results := [.lit (.bool true)], args := ds }) (hread : readAll Tryd.prog f.params.toList = true)
    (hb : Below W.heap.size W W') : s.post enc Tryd.prog f false true false false W args (.bool true) W' := by
  have hW0 := hW
  obtain ⟨p, q, hA, hV, rfl, _, _⟩ := hW
  rw [hv] at hV
  obtain ⟨rfl, rfl⟩ := trodVars_none hV
  refine ⟨ds, [], p ++ [], [], p, [], hW0, ?_, ?_, ?_, kept_of hb _, fun h => by cases h⟩
  · rw [hfn, hr, hs]
    exact trodAll_cons_mk (shut_bool Tryd.underlying4 true) trodAll_mk0
  · rw [hfn]
    exact trodAll_stays laidOut hb hread hA
  · rw [hfn, hv]
    rfl

/-- The door's own heap meets the condition. -/
theorem door_met (os : Os) (args : Array Value) : laidMetH Tryd.prog laidG ((World.doorLaid Tryd.prog 400 os).forCall (fun _ _ => 0) ⟨#[], args, []⟩).memory :=
  laidMetH_of_parts3 (fuel := 8) (laidMet_of_run' 8 (by kernel_rfl) (by kernel_rfl)) (by kernel_rfl) (by kernel_rfl)

theorem law_lifted {F : Nat} {fn : Func} {s : ChangeSpec} {tys : List Ty} (h : Ok F (lawSpecG tys)) (hf : Tryd.prog.funcs[F]? = some fn) (hinit : Tryd.prog.inits.idxOf? F = none) (hbr : brAll tt fn.params.toList tys) (hv : s.vars = []) (hr : fn.resultTypes.toList = [4]) (hs : fn.resultTypes.size = 1)
    (hread : readAll Tryd.prog fn.params.toList = true) (hfn : ∀ (H : Type) (ds : List (DataW H)), ds.length = fn.params.size → s.fn H (ds ++ []) = { results := [.lit (.bool true)], args := ds })
    (os : Os) (started : os.Started) (H : Type) (enc : TypeId × Value → H)
    (wit : ∃ (w : World) (tape : Tape) (i : Input), w.os = os ∧ (w.forCall tape i).Shaped Tryd.checked.prog ∧ i.vars = [] ∧ Input.okWide Tryd.checked.prog (w.forCall tape i) .any w.heap.size F i ∧
      ((s.pre enc Tryd.checked.prog fn [] false (w.forCall tape i).memory i.args ∧ laidMetH Tryd.prog laidG (w.forCall tape i).memory) ∧ sizedMet enc Tryd.checked.prog fn (OpenSpec.ofChange s) false (w.forCall tape i).memory i.args) ∧ ({} : Assume).holds Tryd.checked.prog (lone (Frame.enter Tryd.checked.prog F i.args .normal) [] (w.forCall tape i))) :
    ReturnsInHanded {} Tryd.checked os F .any (fun w args => (s.pre enc Tryd.prog fn [] false w args ∧ laidMetH Tryd.prog laidG w) ∧ sizedMet enc Tryd.prog fn (OpenSpec.ofChange s) false w args) (s.post enc Tryd.prog fn false true false false) := by
  refine returnsInHanded_of_change_and (C := Tryd.checked) (X := fun w _ => laidMetH Tryd.prog laidG w) (fun _ _ _ hh h => h.of_heap hh) own started hinit hf wit ?_
  intro W base args ds gs before hval hW _ _ hL _
  have hW0 := hW
  obtain ⟨p, q, hA, hV, rfl, _, _⟩ := hW
  have hV' : DataW.TrodVars enc Tryd.prog W (fun _ => true) [] gs q := by rw [← hv]; exact hV
  obtain ⟨rfl, rfl⟩ := trodVars_none hV'
  have hlen : ds.length = fn.params.size := by
    have := (Go.trodAll_length hA).2
    simpa using this
  refine (law_calls h hL hbr hA (fun j t v h1 h2 => hval j t v (by simpa using h1) (by simpa using h2))).mono fun e W' ⟨he, hb⟩ => ?_
  subst he
  exact ⟨_, rfl, law_post hW0 hv hr hs (hfn H ds hlen) hread hb⟩

end Go.Eng.Pu
