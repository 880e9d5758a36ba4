/- Operations that make memory: boxes, literals of structs and slices, make, append. Conditions: the table of types is the program's. -/
import Derived.Test.YtimkbccpbjabiaaE10
set_option linter.all false
namespace Go.Eng

theorem fold_set (off : Nat) : ∀ (vs : List Value) (j : Nat) (cur : Array Value), off + j + vs.length ≤ cur.size →
    ((vs.zipIdx j).foldl (fun cs (p : Value × Nat) => cs.setIfInBounds (off + p.2) p.1) cur).toList = cur.toList.take (off + j) ++ vs ++ cur.toList.drop (off + j + vs.length)
  | [], j, cur, _ => by simp
  | v :: r, j, cur, h => by
    simp only [List.length_cons] at h
    have ih := fold_set off r (j + 1) (cur.setIfInBounds (off + j) v) (by simp; omega)
    simp only [List.zipIdx_cons, List.foldl_cons]
    rw [ih]
    have hlt : off + j < cur.toList.length := by simp; omega
    simp only [Array.toList_setIfInBounds]
    have h1 : (cur.toList.set (off + j) v).take (off + (j + 1)) = cur.toList.take (off + j) ++ [v] := by
      rw [show off + (j + 1) = off + j + 1 from by omega, List.take_succ_eq_append_getElem (by simpa using hlt), List.take_set_of_le (Nat.le_refl _)]
      simp
    have h2 : (cur.toList.set (off + j) v).drop (off + (j + 1) + r.length) = cur.toList.drop (off + j + (r.length + 1)) := by
      rw [List.drop_set_of_lt (by omega)]
      congr 1; omega
    rw [h1, h2]
    simp

theorem fill_one (off : Nat) (vs : Array Value) (cur : Array Value) (h : off + vs.size ≤ cur.size) :
    (vs.zipIdx.foldl (fun cs (p : Value × Nat) => cs.setIfInBounds (off + p.2) p.1) cur).toList = cur.toList.take off ++ vs.toList ++ cur.toList.drop (off + vs.size) := by
  have := fold_set off vs.toList 0 cur (by simpa using h)
  simp only [Nat.add_zero, Array.length_toList] at this
  rw [← this, ← Array.foldl_toList, Array.toList_zipIdx]

section
variable {E : Env} {nt : Nat} {η : Eta} {st : St} {a : Act} {w : World}

theorem holdsC_app {V : View} : ∀ {cs ds : List S1} {l m : List Value}, holdsC V η cs l → holdsC V η ds m → holdsC V η (cs ++ ds) (l ++ m)
  | [], _, [], _, _, h => h
  | [], _, _ :: _, _, h, _ => h.elim
  | _ :: _, _, [], _, h, _ => h.elim
  | s :: r, _, v :: l, _, ⟨h1, h2, h3⟩, h => ⟨h1, h2, holdsC_app h3 h⟩

theorem setCells_sound {V : View} : ∀ {l : List S1} {n : Nat} {cs r : List S1} {vs us : List Value}, setCells l n cs = some r → holdsC V η l vs → holdsC V η cs us →
    n + us.length ≤ vs.length ∧ holdsC V η r (vs.take n ++ us ++ vs.drop (n + us.length))
  | l, 0, cs, r, vs, us, h, h1, h2 => by
    simp only [setCells] at h
    have e1 := holdsC_length h1
    have e2 := holdsC_length h2
    cases hb : Nat.ble cs.length l.length with
    | false => rw [hb] at h; simp at h
    | true =>
      rw [hb] at h
      simp only [cond_true, Option.some.injEq] at h
      subst h
      have := Nat.le_of_ble_eq_true hb
      refine ⟨by omega, ?_⟩
      simp only [List.take_zero, List.nil_append, Nat.zero_add, ← e2]
      exact holdsC_app h2 (holdsC_split cs.length h1).1
  | a :: l, n + 1, cs, r, vs, us, h, h1, h2 => by
    simp only [setCells] at h
    cases hs : setCells l n cs with
    | none => rw [hs] at h; cases h
    | some q =>
      rw [hs] at h
      simp only [Option.some.injEq] at h
      subst h
      cases vs with
      | nil => exact h1.elim
      | cons v vs =>
        obtain ⟨g1, g2, g3⟩ := h1
        have ih := setCells_sound hs g3 h2
        refine ⟨by simp; omega, ?_⟩
        have : n + 1 + us.length = (n + us.length) + 1 := by omega
        rw [this]
        exact ⟨g1, g2, by simpa using ih.2⟩
  | [], n + 1, cs, r, vs, us, h, _, _ => by simp [setCells] at h

theorem buildParts_sound {place : Nat → Option (Nat × Nat)} {pl : Nat → Option (Nat × Nat)} (hp : ∀ i r, place i = some r → pl i = some r) (H : ∀ f ∈ st, Fact.holds E η a w f) :
    ∀ (ps : List (Nat × Operand)) (l r : List S1) (cur : Array Value), buildParts place st l ps = some r → holdsC (vw E η w) η l cur.toList →
      ∃ cur', Instr.fill pl cur (ps.map fun (p : Nat × Operand) => (p.1, a.eval p.2)) = some cur' ∧ holdsC (vw E η w) η r cur'.toList
  | [], l, r, cur, h, hc => by
    simp only [buildParts, Option.some.injEq] at h
    subst h
    exact ⟨cur, rfl, hc⟩
  | (i, x) :: ps, l, r, cur, h, hc => by
    simp only [buildParts] at h
    split at h
    case h_2 => cases h
    case h_1 off n hpl =>
      split at h
      case h_2 => cases h
      case h_1 s hs =>
        split at h
        case h_2 => cases h
        case h_1 cs hcs =>
          cases hb : Nat.beq cs.length n with
          | false => rw [hb] at h; simp at h
          | true =>
            rw [hb] at h
            simp only [cond_true] at h
            split at h
            case h_2 => cases h
            case h_1 l' hl' =>
              have hv := SV.cells_sound hcs (eval_sound H hs)
              have hn := Nat.eq_of_beq_eq_true hb
              have hlen := holdsC_length hv
              obtain ⟨g1, g2⟩ := setCells_sound hl' hc hv
              simp only [Array.length_toList] at hlen g1 g2
              have hfill := fill_one off (a.eval x).cells cur (by omega)
              obtain ⟨cur', q1, q2⟩ := buildParts_sound hp H ps l' r _ h (by rw [hfill]; exact g2)
              refine ⟨cur', ?_, q2⟩
              simp only [List.map_cons, Instr.fill, hp i _ hpl]
              rw [if_neg (by simp; omega)]
              exact q1

theorem rowIn_nil {V : View} {e : Ty} {c : Nat} {cur : Array Value} (h1 : cur.size = c * e.size) (h2 : c ≤ maxLen) : RowIn V e [] c cur :=
  ⟨h1, Nat.zero_le _, h2, fun i x hx => by simp at hx⟩

theorem elems_sound {e : Ty} (H : ∀ f ∈ st, Fact.holds E η a w f) : ∀ (ps : List (Nat × Operand)) (n : Nat) (xs : List e.Den) (cur : Array Value), elems st e n ps = some xs →
    n * e.size + xs.length * e.size ≤ cur.size →
    ∃ cur', Instr.fill (fun i => some (i * e.size, e.size)) cur (ps.map fun (p : Nat × Operand) => (p.1, a.eval p.2)) = some cur' ∧ cur'.size = cur.size ∧
      (∀ j, j < n * e.size → cur'[j]? = cur[j]?) ∧ ∀ (i : Nat) (x : e.Den), xs[i]? = some x → Rep (vw E η w) e x ((cur'.toList.drop ((n + i) * e.size)).take e.size)
  | [], n, xs, cur, h, _ => by
    simp only [elems, Option.some.injEq] at h
    subst h
    exact ⟨cur, rfl, rfl, fun _ _ => rfl, fun i x hx => by simp at hx⟩
  | (i, x) :: ps, n, xs, cur, h, hsz => by
    simp only [elems] at h
    cases hb : Nat.beq i n with
    | false => rw [hb] at h; simp at h
    | true =>
      rw [hb] at h
      simp only [cond_true] at h
      have hi := Nat.eq_of_beq_eq_true hb
      subst hi
      split at h
      case h_2 => cases h
      case h_1 s hs =>
        split at h
        case h_2 => cases h
        case h_1 y hy =>
          split at h
          case h_2 => cases h
          case h_1 l hl =>
            simp only [Option.some.injEq] at h
            subst h
            have hr := RepV.cells (SV.den_sound hy (eval_sound H hs))
            have hlen := Rep.length _ _ _ hr
            simp only [Array.length_toList] at hlen
            simp only [List.length_cons, Nat.add_mul, Nat.one_mul] at hsz
            have hfill := fill_one (i * e.size) (a.eval x).cells cur (by omega)
            have hfs : ((a.eval x).cells.zipIdx.foldl (fun cs (p : Value × Nat) => cs.setIfInBounds (i * e.size + p.2) p.1) cur).size = cur.size := by
              rw [← Array.length_toList, hfill]; simp; omega
            obtain ⟨cur', q1, q2, q3, q4⟩ := elems_sound H ps (i + 1) l _ hl (by rw [hfs, Nat.add_mul, Nat.one_mul]; omega)
            have hget : ∀ j, ((a.eval x).cells.zipIdx.foldl (fun cs (p : Value × Nat) => cs.setIfInBounds (i * e.size + p.2) p.1) cur)[j]? =
                (cur.toList.take (i * e.size) ++ (a.eval x).cells.toList ++ cur.toList.drop (i * e.size + (a.eval x).cells.size))[j]? := fun (j : Nat) => by rw [← hfill, Array.getElem?_toList]
            refine ⟨cur', ?_, q2.trans hfs, ?_, ?_⟩
            · simp only [List.map_cons, Instr.fill]
              rw [if_neg (by simp; omega)]
              exact q1
            · intro j hj
              rw [q3 j (by rw [Nat.add_mul, Nat.one_mul]; omega), hget, List.append_assoc, List.getElem?_append_left (by simp; omega), List.getElem?_take]
              simp [hj]
            · intro k z hz
              cases k with
              | zero =>
                simp only [List.getElem?_cons_zero, Option.some.injEq] at hz
                subst hz
                have : (cur'.toList.drop ((i + 0) * e.size)).take e.size = (a.eval x).cells.toList := by
                  apply List.ext_getElem?
                  intro j
                  rw [List.getElem?_take, List.getElem?_drop]
                  by_cases hj : j < e.size
                  · rw [if_pos hj, Nat.add_zero]
                    have h1 := q3 (i * e.size + j) (by rw [Nat.add_mul, Nat.one_mul]; omega)
                    rw [hget, List.getElem?_append_left (by simp; omega), List.getElem?_append_right (by simp; omega)] at h1
                    simp only [Array.getElem?_toList]
                    rw [h1]
                    have hl : (cur.toList.take (i * e.size)).length = i * e.size := by simp; omega
                    rw [hl, Nat.add_sub_cancel_left]
                    simp
                  · rw [if_neg hj]
                    simp
                    omega
                rw [this]
                exact hr
              | succ k =>
                have := q4 k z (by simpa using hz)
                rw [show i + (k + 1) = i + 1 + k from by omega]
                exact this

/-- The cells of a made row are those of the zero value. -/
theorem madeCells_rep {V : View} {e : Ty} {x : e.Den} {z : Array Value} (h : Rep V e x z.toList) (hs : 1 ≤ e.size) (n i : Nat) (hi : i < n) :
    Rep V e x (((madeCells z (n * e.size)).toList.drop (i * e.size)).take e.size) := by
  have hl := Rep.length _ _ _ h
  simp only [Array.length_toList] at hl
  have : ((madeCells z (n * e.size)).toList.drop (i * e.size)).take e.size = z.toList := by
    apply List.ext_getElem?
    intro j
    rw [List.getElem?_take, List.getElem?_drop]
    by_cases hj : j < e.size
    · rw [if_pos hj]
      have hm := Nat.mul_le_mul_right e.size (show i + 1 ≤ n by omega)
      rw [Nat.add_mul, Nat.one_mul] at hm
      have hlt : i * e.size + j < n * e.size := by omega
      simp only [madeCells, Array.getElem?_toList, Array.getElem?_map, Array.getElem?_range, hlt, if_true, Option.map_some, hl]
      rw [Nat.mul_comm i, Nat.mul_add_mod, Nat.mod_eq_of_lt hj]
      have hjz : j < z.size := by omega
      simp [hjz]
    · rw [if_neg hj]; simp; omega
  rw [this]; exact h

end
end Go.Eng
