/- The model's operations on memory and numbers, as the symbolic executor takes them: loads, stores, addresses, arithmetic. Conditions: none beyond each lemma's own. -/
import Derived.Test.YtimkbccpbjabiaaE6
set_option linter.all false
namespace Go.Eng

section
variable {P : Program} {t : Nat} {i : TInfo}

theorem TIOk.und (h : TIOk P t i) : ∃ d, P.underlying t = some d ∧ (match d with | .struct _ | .array _ _ => true | _ => false) = i.kind.isAgg := by
  have hd := h.desc
  cases hk : i.kind <;> rw [hk] at hd <;> simp only at hd
  case struct fs => obtain ⟨fa, h1, _⟩ := hd; exact ⟨_, h1, rfl⟩
  case other => obtain ⟨d, h1, h2⟩ := hd; refine ⟨d, h1, ?_⟩; cases d <;> simp_all [TK.isAgg]
  all_goals exact ⟨_, hd, rfl⟩

theorem run_isAgg (h : TIOk P t i) (w : World) : (isAgg t).run P w = .ok i.kind.isAgg w := by
  obtain ⟨d, h1, h2⟩ := h.und
  simp only [isAgg, Sem.run_bind, run_underlying h1, Result.andThen_ok]
  rw [← h2]
  cases d <;> rfl

theorem run_sizeOf (h : TIOk P t i) (w : World) : (sizeOf t).run P w = .ok i.size w := by
  obtain ⟨ti, h1, h2, _⟩ := h.info
  simp [sizeOf, typeInfo, h1, h2]

theorem run_zeroValue (h : TIOk P t i) (w : World) : (zeroValue t).run P w = .ok i.zero w := by
  obtain ⟨ti, h1, _, _, h2⟩ := h.info
  simp [zeroValue, typeInfo, h1, h2]

theorem cell_of {w : World} {b : Nat} {cur : Array Value} {el : Nat} {f : Nat × Nat} (h : w.heap[b]? = some (.cells cur el f)) (off : Nat) : w.cell? ⟨b, off, none⟩ = cur[off]? := by
  simp [World.cell?, h]

theorem add_none (b off n : Nat) : (⟨b, off, none⟩ : Addr).add n = ⟨b, off + n, none⟩ := by
  unfold Addr.add; split <;> simp_all

theorem run_loadVar_one (h : TIOk P t i) (ha : i.kind.isAgg = false) {w : World} {a : Addr} {v : Value} (hc : w.cell? a = some v) : (loadVar t a).run P w = .ok v w := by
  simp [loadVar, run_isAgg h, ha, hc]

theorem run_loadVar_agg (h : TIOk P t i) (ha : i.kind.isAgg = true) {w : World} {a : Addr} {cs : List Value} (hl : cs.length = i.size)
    (hc : ∀ j v, cs[j]? = some v → w.cell? (a.add j) = some v) : (loadVar t a).run P w = .ok (.agg cs.toArray) w := by
  simp only [loadVar, Sem.run_bind, run_isAgg h, ha, Result.andThen_ok, run_sizeOf h, if_true, ← hl, run_loadCells_list w a cs hc, Sem.run_pure]

theorem run_storeVar_row (h : TIOk P t i) {w : World} {b off : Nat} {cur : Array Value} {el : Nat} {v : Value} (hb : w.heap[b]? = some (.cells cur el (0, 0)))
    (hl : v.cells.size = i.size) (hsz : off + v.cells.size ≤ cur.size) (h1 : ∀ u ∈ v.cells.toList, u.oneCell' = true) :
    (storeVar t ⟨b, off, none⟩ v).run P w = .ok () (w.setRow b (cur.toList.take off ++ v.cells.toList ++ cur.toList.drop (off + v.cells.size)).toArray) := by
  have := run_storeCells_at P b off el v.cells.toList 0 cur w hb (by simpa using hsz) h1
  simp only [Nat.add_zero, Array.length_toList] at this
  simp only [storeVar, Sem.run_bind, run_sizeOf h, Result.andThen_ok, hl, ne_eq, not_true_eq_false, if_false, this]

end

section
variable {E : Env} {nt : Nat} {η : Eta} {st : St} {a : Act} {w : World}

/-- Cells of a box that are known, at their places. -/
theorem findCells_sound (H : ∀ f ∈ st, Fact.holds E η a w f) {k : Nat} : ∀ (n off : Nat) (cs : List S1), findCells st k off n = some cs → ∀ (b c : Nat), η k = some (b, c) →
    cs.length = n ∧ ∀ (j : Nat) s, cs[j]? = some s → ∃ cur el v, w.heap[b]? = some (.cells cur el (0, 0)) ∧ cur[off + j]? = some v ∧ v.oneCell' = true ∧ holds1 (vw E η w) η s v
  | 0, off, cs, h, b, c, _ => by simp only [findCells, Option.some.injEq] at h; subst h; simp
  | n + 1, off, cs, h, b, c, hk => by
    simp only [findCells] at h
    cases h1 : findCell k off st with
    | none => rw [h1] at h; cases h
    | some s =>
      rw [h1] at h
      simp only at h
      cases h2 : findCells st k (off + 1) n with
      | none => rw [h2] at h; cases h
      | some l =>
        rw [h2] at h
        simp only [Option.some.injEq] at h
        subst h
        have ih := findCells_sound H n (off + 1) l h2 b c hk
        refine ⟨by simp [ih.1], fun j u hu => ?_⟩
        cases j with
        | zero =>
          simp at hu; subst hu
          obtain ⟨b', c', cur, el, v, _, e1, e2, e3, e4, e5⟩ := H _ (findCell_mem h1)
          rw [hk] at e1
          simp only [Option.some.injEq, Prod.mk.injEq] at e1
          obtain ⟨rfl, rfl⟩ := e1
          exact ⟨cur, el, v, e2, e3, e4, e5⟩
        | succ j =>
          obtain ⟨cur, el, v, e2, e3, e4⟩ := ih.2 j u (by simpa using hu)
          exact ⟨cur, el, v, e2, by rw [← e3]; congr 1; omega, e4⟩

/-- The values of known cells, as one list. -/
theorem findCells_vals (H : ∀ f ∈ st, Fact.holds E η a w f) {k : Nat} {b c : Nat} (hk : η k = some (b, c)) : ∀ (n off : Nat) (cs : List S1), findCells st k off n = some cs →
    ∃ vs : List Value, holdsC (vw E η w) η cs vs ∧ vs.length = n ∧ (∀ j v, vs[j]? = some v → w.cell? ⟨b, off + j, none⟩ = some v) ∧
      (n ≠ 0 → ∃ cur el, E.w0.heap.size ≤ b ∧ w.heap[b]? = some (.cells cur el (0, 0)) ∧ off + n ≤ cur.size)
  | 0, off, cs, h => by simp only [findCells, Option.some.injEq] at h; subst h; exact ⟨[], trivial, rfl, by simp, by simp⟩
  | n + 1, off, cs, h => by
    simp only [findCells] at h
    cases h1 : findCell k off st with
    | none => rw [h1] at h; cases h
    | some s =>
      rw [h1] at h
      simp only at h
      cases h2 : findCells st k (off + 1) n with
      | none => rw [h2] at h; cases h
      | some l =>
        rw [h2] at h
        simp only [Option.some.injEq] at h
        subst h
        obtain ⟨vs, e1, e2, e3, e4⟩ := findCells_vals H hk n (off + 1) l h2
        obtain ⟨b', c', cur, el, v, q0, q1, q2, q3, q4, q5⟩ := H _ (findCell_mem h1)
        rw [hk] at q1
        simp only [Option.some.injEq, Prod.mk.injEq] at q1
        obtain ⟨rfl, rfl⟩ := q1
        refine ⟨v :: vs, ⟨q5, q4, e1⟩, by simp [e2], fun j u hu => ?_, fun _ => ⟨cur, el, q0, q2, ?_⟩⟩
        · cases j with
          | zero => simp at hu; subst hu; rw [Nat.add_zero, cell_of q2]; exact q3
          | succ j => rw [show off + (j + 1) = off + 1 + j from by omega]; exact e3 j u (by simpa using hu)
        · by_cases hn : n = 0
          · subst hn
            have := (Array.getElem?_eq_some_iff.1 q3).1
            omega
          · obtain ⟨cur', el', _, q6, q7⟩ := e4 hn
            rw [q2] at q6
            simp only [Option.some.injEq, Obj.cells.injEq] at q6
            obtain ⟨rfl, _, _⟩ := q6
            omega

theorem rep_at {V : View} {t : Ty} {x : t.Den} {cur : List Value} {off n : Nat} (h : Rep V t x ((cur.drop off).take n)) (hn : n = t.size) :
    ∀ j v, ((cur.drop off).take n)[j]? = some v → cur[off + j]? = some v := by
  intro j v hv
  rw [List.getElem?_take] at hv
  split at hv
  · simpa [List.getElem?_drop] using hv
  · cases hv

/-- A load of data that lies in memory that does not change. -/
theorem load_pd {V : View} {P : Program} {t : Nat} {i : TInfo} (h : TIOk P t i) {ty : Ty} (hsz : ty.size = i.size) (hag : ty.agg = i.kind.isAgg) {x : ty.Den} {ad : Addr} {c : Array Value} {el : Nat} {f : Nat × Nat}
    (hs : ad.spot = none) (hb : w.heap[ad.block]? = some (.cells c el f)) (hr : Rep V ty x ((c.toList.drop ad.off).take ty.size)) :
    ∃ v, (loadVar t ad).run P w = .ok v w ∧ RepV V ty x v := by
  obtain ⟨b, off, sp⟩ := ad
  simp only at hs hb hr
  subst hs
  have hlen := Rep.length _ _ _ hr
  have hat := rep_at hr rfl
  cases hg : ty.agg with
  | true =>
    refine ⟨_, run_loadVar_agg h (hag ▸ hg) (cs := (c.toList.drop off).take ty.size) (by omega) (fun j v hv => ?_), ⟨_, hr, .inl ⟨hg, rfl⟩⟩⟩
    rw [add_none, cell_of hb]
    simpa using hat j v hv
  | false =>
    have h1 : ∃ v, (c.toList.drop off).take ty.size = [v] := by
      have : ty.size = 1 := by cases ty <;> first | rfl | simp [Ty.agg] at hg
      rw [this] at hlen ⊢
      match hh : (c.toList.drop off).take 1, hlen with
      | [v], _ => exact ⟨v, rfl⟩
    obtain ⟨v, hv⟩ := h1
    rw [hv] at hr
    refine ⟨v, run_loadVar_one h (hag ▸ hg) ?_, RepV.mk1 hg hr⟩
    rw [cell_of hb]
    have := hat 0 v (by rw [hv]; rfl)
    simpa using this

end
end Go.Eng
