/- An append, a call, and the one lemma on all operations. Conditions: the table of types is the program's; each contract in use holds. -/
import Derived.Test.YtimkbccpbjabiaaE11
set_option linter.all false
namespace Go.Eng

section
variable {E : Env} {nt : Nat} {η : Eta} {st : St} {a : Act} {w : World}

/-- Where the cells of a source lie. -/
theorem src_sound (H : ∀ f ∈ st, Fact.holds E η a w f) {e : Ty} {s : SV} {v : Value} (hs : holdsV (vw E η w) η s v) {ob : Prop} {ys : List e.Den} (h : srcOf st e s = some (ob, ys)) (hob : ob) :
    ∃ (ad : Option Addr) (c : Nat), v = .slice ad ys.length c ∧ (ys ≠ [] → ∃ ad' : Addr, ad = some ad') ∧
      ∀ ad', ad = some ad' → ∃ news : List Value, news.length = ys.length * e.size ∧ (∀ j u, news[j]? = some u → w.cell? (ad'.add j) = some u) ∧ (∀ u ∈ news, u.oneCell' = true) ∧
        ∀ (i : Nat) (y : e.Den), ys[i]? = some y → Rep (vw E η w) e y ((news.drop (i * e.size)).take e.size) := by
  have cut : ∀ (b off : Nat) (c : Array Value) (el : Nat) (f : Nat × Nat) (n : Nat), w.heap[b]? = some (.cells c el f) → off + n * e.size ≤ c.size → ys.length = n →
      (∀ (i : Nat) (x : e.Den), ys[i]? = some x → Rep (vw E η w) e x ((c.toList.drop (off + i * e.size)).take e.size)) →
      ∃ news : List Value, news.length = ys.length * e.size ∧ (∀ j u, news[j]? = some u → w.cell? ((⟨b, off, none⟩ : Addr).add j) = some u) ∧ (∀ u ∈ news, u.oneCell' = true) ∧
        ∀ (i : Nat) (y : e.Den), ys[i]? = some y → Rep (vw E η w) e y ((news.drop (i * e.size)).take e.size) := by
    intro b off c el f n hb hsz hn hrep
    have hat : ∀ i y, ys[i]? = some y → ((((c.toList.drop off).take (ys.length * e.size)).drop (i * e.size)).take e.size) = (c.toList.drop (off + i * e.size)).take e.size := by
      intro i y hy
      have hi := (List.getElem?_eq_some_iff.1 hy).1
      have hm := Nat.mul_le_mul_right e.size (show i + 1 ≤ ys.length by omega)
      rw [Nat.add_mul, Nat.one_mul] at hm
      rw [List.drop_take, List.drop_drop, List.take_take]
      congr 1; omega
    refine ⟨(c.toList.drop off).take (ys.length * e.size), by simp; rw [hn]; omega, fun j u hu => ?_, fun u hu => ?_, fun i y hy => by rw [hat i y hy]; exact hrep i y hy⟩
    · rw [add_none, cell_of hb]
      rw [List.getElem?_take, List.getElem?_drop] at hu
      split at hu
      · simpa using hu
      · cases hu
    · obtain ⟨j, hj⟩ := List.getElem?_of_mem hu
      have hjl : j < ys.length * e.size := by
        have := (List.getElem?_eq_some_iff.1 hj).1
        simp at this; omega
      have hes : 0 < e.size := by
        rcases Nat.eq_zero_or_pos e.size with h0 | h0
        · rw [h0] at hjl; omega
        · exact h0
      have hq : j / e.size < ys.length := Nat.div_lt_of_lt_mul (by rw [Nat.mul_comm]; exact hjl)
      have hr := hrep _ _ (List.getElem?_eq_getElem hq)
      rw [← hat _ _ (List.getElem?_eq_getElem hq)] at hr
      have hdm := Nat.div_add_mod j e.size
      have hml := Nat.mod_lt j hes
      refine Rep.oneCell _ _ _ hr u (List.mem_of_getElem? (i := j % e.size) ?_)
      rw [List.getElem?_take, if_pos hml, List.getElem?_drop]
      rw [show j / e.size * e.size + j % e.size = j from by rw [Nat.mul_comm]; exact hdm]
      exact hj
  have data : ∀ (s : SV), holdsV (vw E η w) η s v → s.den (.sl e) = some ys → ∃ (ad : Option Addr) (c : Nat), v = .slice ad ys.length c ∧ (ys ≠ [] → ∃ ad' : Addr, ad = some ad') ∧
      ∀ ad', ad = some ad' → ∃ news : List Value, news.length = ys.length * e.size ∧ (∀ j u, news[j]? = some u → w.cell? (ad'.add j) = some u) ∧ (∀ u ∈ news, u.oneCell' = true) ∧
        ∀ (i : Nat) (y : e.Den), ys[i]? = some y → Rep (vw E η w) e y ((news.drop (i * e.size)).take e.size) := by
    intro s hs hd
    obtain ⟨ad, cap, hv, _, _, hnone, hsome⟩ := holds_sl (SV.den_sound hd hs)
    refine ⟨ad, cap, hv, fun hne => ?_, fun ad' had => ?_⟩
    · cases ad with
      | none => exact absurd (hnone rfl).1 hne
      | some ad => exact ⟨ad, rfl⟩
    · by_cases hne : ys = []
      · exact ⟨[], by simp [hne], by simp, by simp, fun i y hy => by rw [hne] at hy; simp at hy⟩
      · obtain ⟨hsp, c, ⟨_, _, el, f, hb⟩, hsz, hrep⟩ := hsome ad' had hne
        obtain ⟨b, off, sp⟩ := ad'
        simp only at hsp hb hsz hrep
        subst hsp
        exact cut b off c el f ys.length hb hsz rfl hrep
  unfold srcOf at h
  split at h
  · rename_i k n
    split at h
    · rename_i r hr
      split at h
      · rename_i zs hz
        simp only [Option.some.injEq, Prod.mk.injEq] at h
        obtain ⟨h1, h2⟩ := h
        subst h2
        rw [← h1] at hob
        obtain ⟨hty, hz⟩ := castD_eq hz
        injection hty with hty
        obtain ⟨el, re, xs⟩ := r
        simp only at hty hob hz
        subst hty
        simp only at hz
        subst hz
        rcases hs with ⟨hk, hn, hv⟩ | ⟨b, c, hk, hv, hn⟩
        · have hnil : zs = [] := List.eq_nil_of_length_eq_zero (by omega)
          subst hnil
          exact ⟨none, 0, hv, fun h => absurd rfl h, fun _ h => by cases h⟩
        · rcases H _ (findRow_mem hr) with ⟨hkn, _⟩ | ⟨b', c', cur, q0, q1, q2, q3⟩
          · rw [hk] at hkn; cases hkn
          · rw [hk] at q1
            simp only [Option.some.injEq, Prod.mk.injEq] at q1
            obtain ⟨rfl, rfl⟩ := q1
            refine ⟨some ⟨b, 0, none⟩, c, by rw [hv, hob], fun _ => ⟨_, rfl⟩, fun ad' had => ?_⟩
            simp only [Option.some.injEq] at had
            subst had
            refine cut b 0 cur el (0, 0) zs.length q2 ?_ rfl (fun i x hx => by rw [Nat.zero_add]; exact q3.2.2.2 i x hx)
            have h1 := q3.1; have h2 := q3.2.1; simp only at h1 h2; rw [h1]; rw [Nat.zero_add]; exact Nat.mul_le_mul_right re.size h2
      · cases h
    · cases h
  · split at h
    · rename_i zs hz
      simp only [Option.some.injEq, Prod.mk.injEq] at h
      obtain ⟨h1, h2⟩ := h
      subst h2
      exact data s hs hz
    · cases h

theorem rowIn_app {V : View} {e : Ty} {xs ys : List e.Den} {c c' : Nat} {cur cur' : Array Value} {news : List Value} (h : RowIn V e xs c cur) (hn : news.length = ys.length * e.size)
    (hy : ∀ (i : Nat) (y : e.Den), ys[i]? = some y → Rep V e y ((news.drop (i * e.size)).take e.size)) (h1 : cur'.size = c' * e.size) (h2 : xs.length + ys.length ≤ c') (h3 : c' ≤ maxLen)
    (h4 : cur'.toList.take ((xs.length + ys.length) * e.size) = cur.toList.take (xs.length * e.size) ++ news) : RowIn V e (xs ++ ys) c' cur' := by
  refine ⟨h1, by simpa using h2, h3, fun i x hx => ?_⟩
  have hi : i < xs.length + ys.length := by have := (List.getElem?_eq_some_iff.1 hx).1; simpa using this
  have hm := Nat.mul_le_mul_right e.size (show i + 1 ≤ xs.length + ys.length by omega)
  rw [Nat.add_mul, Nat.one_mul] at hm
  have e1 : (cur'.toList.drop (i * e.size)).take e.size = ((cur.toList.take (xs.length * e.size) ++ news).drop (i * e.size)).take e.size := by
    rw [← h4, List.drop_take, List.take_take]
    congr 1; omega
  have hcl : (cur.toList.take (xs.length * e.size)).length = xs.length * e.size := by
    have h5 := h.1
    have h6 := Nat.mul_le_mul_right e.size h.2.1
    have h7 : cur.toList.length = cur.size := Array.length_toList
    rw [List.length_take, Nat.min_eq_left (by rw [h7, h5]; exact h6)]
  rw [e1]
  by_cases hlt : i < xs.length
  · rw [List.getElem?_append_left hlt] at hx
    have hm' := Nat.mul_le_mul_right e.size (show i + 1 ≤ xs.length by omega)
    rw [Nat.add_mul, Nat.one_mul] at hm'
    rw [List.drop_append_of_le_length (by omega), List.take_append_of_le_length (by rw [List.length_drop, hcl]; omega), List.drop_take, List.take_take, Nat.min_eq_left (by omega)]
    exact h.2.2.2 i x hx
  · rw [List.getElem?_append_right (by omega)] at hx
    have hm' := Nat.mul_le_mul_right e.size (show xs.length ≤ i by omega)
    have := hy (i - xs.length) x hx
    rw [List.drop_append, List.drop_of_length_le (by omega), List.nil_append, hcl, ← Nat.sub_mul]
    exact this

theorem maxLen_big {n : Nat} (h : n ≤ big) : n ≤ maxLen := by unfold maxLen; unfold big at h; omega

theorem append_run {t ty el : Nat} {ei : TInfo} (hd : E.P.underlying t = some (.slice el)) (hI : TIOk E.P el ei) {e : Ty} (z2 : e.size = ei.size) (z3 : 1 ≤ ei.size) (z4 : ei.bytes ≤ 65536)
    {xs ys : List e.Den} (hbig : xs.length + ys.length ≤ big) {k : Option Nat} {v1 : Value} {ad2 : Option Addr} {c2 : Nat} (hex : ys ≠ [] → ∃ ad' : Addr, ad2 = some ad')
    (hcells : ∀ ad', ad2 = some ad' → ∃ news : List Value, news.length = ys.length * e.size ∧ (∀ j u, news[j]? = some u → w.cell? (ad'.add j) = some u) ∧ (∀ u ∈ news, u.oneCell' = true) ∧
        ∀ (i : Nat) (y : e.Den), ys[i]? = some y → Rep (vw E η w) e y ((news.drop (i * e.size)).take e.size))
    (hbase : (v1 = .slice none 0 0 ∧ xs = []) ∨ ∃ kk b c cur, k = some kk ∧ η kk = some (b, c) ∧ E.w0.heap.size ≤ b ∧ w.heap[b]? = some (.cells cur el (0, 0)) ∧ v1 = .slice (some ⟨b, 0, none⟩) xs.length c ∧
      RowIn (vw E η w) e xs c cur) :
    ∃ v w', (Builtin.append_ #[t, t] ty #[v1, .slice ad2 ys.length c2]).run E.P w = .ok v w' ∧ AppOK E η w k el e (xs ++ ys) v w' := by
  obtain ⟨pi, hpi, hps, hpb, hpz⟩ := hI.info
  have hbytes : (xs.length + ys.length) * ei.bytes ≤ 140737488355328 := by
    have := Nat.mul_le_mul hbig z4
    unfold big at this; omega
  have zero : ∀ (ad : Option Addr) (n c : Nat), n ≤ c → (Builtin.append_ #[t, t] ty #[.slice ad n c, .slice ad2 0 c2]).run E.P w = .ok (.slice ad n c) w := by
    intro ad n c hn
    cases ad <;> cases ad2 <;> simp [Builtin.append_, run_underlying hd, sizeOf, typeInfo, hpi, Builtin.lenOf, hn, Builtin.firstCells, loadCells, loadCellsFrom, storeCells]
  rcases hbase with ⟨rfl, rfl⟩ | ⟨kk, b, c, cur, rfl, hkk, hlow, hb, rfl, hr⟩
  · by_cases hy0 : ys = []
    · subst hy0
      exact ⟨_, w, zero none 0 0 (Nat.le_refl _), .inl ⟨rfl, rfl, rfl⟩⟩
    · obtain ⟨ad, rfl⟩ := hex hy0
      obtain ⟨news, g1, g2, g3, g4⟩ := hcells ad rfl
      have hpos : 0 < ys.length := List.length_pos_iff.2 hy0
      simp only [List.length_nil, Nat.zero_add] at hbig hbytes
      have hrun := run_append_nil (P := E.P) w t ty el pi ei.zero hd hpi hpz ad ys.length c2 news (by rw [hps, ← z2]; exact g1) g2 hpos (by unfold big at hbig; omega) (by rw [hpb]; omega)
      have hcap := grownCap_ge w ys.length 0 el
      have hmax := grownCap_le_maxLen w ys.length 0 el (maxLen_big hbig)
      refine ⟨_, _, hrun, .inr (.inl ⟨grownCap w ys.length 0 el, _, w.drew, by simp, rfl, rfl, rfl, rfl, rfl, ?_⟩)⟩
      have hz := hI.zsize
      refine rowIn_app (cur := #[]) (c := 0) (rowIn_nil (by simp) (Nat.zero_le _)) g1 g4 ?_ (by simpa using hcap) hmax ?_
      · rw [Array.size_append, size_zeroCells, hz, ← z2]
        simp only [List.size_toArray, g1, ← Nat.add_mul]
        congr 1; omega
      · simp only [List.length_nil, Nat.zero_add, Nat.zero_mul, Array.toList_append, List.take_zero, List.nil_append]
        rw [List.take_append_of_le_length (by simp [g1]), List.take_of_length_le (by simp [g1])]
  · by_cases hy0 : ys = []
    · subst hy0
      refine ⟨_, w, zero (some ⟨b, 0, none⟩) xs.length c hr.2.1, .inr (.inr ⟨kk, b, c, cur, cur, rfl, hkk, hlow, hb, by simp, (setRow_self w b cur el (0, 0) hb).symm, by simpa using hr⟩)⟩
    · obtain ⟨ad, rfl⟩ := hex hy0
      obtain ⟨news, g1, g2, g3, g4⟩ := hcells ad rfl
      have hpos : 0 < ys.length := List.length_pos_iff.2 hy0
      have hle := Nat.mul_le_mul_right e.size hr.2.1
      have hcs := hr.1
      have hol : (cur.toList.take (xs.length * e.size)).length = xs.length * e.size := by
        have h7 : cur.toList.length = cur.size := Array.length_toList
        rw [List.length_take, Nat.min_eq_left (by rw [h7, hcs]; exact hle)]
      by_cases hroom : xs.length + ys.length ≤ c
      · have hle2 := Nat.mul_le_mul_right e.size hroom
        rw [Nat.add_mul] at hle2
        have hrun := run_append_room (P := E.P) w t ty el pi hd hpi b xs.length c cur hb ad ys.length c2 news (by rw [hps, ← z2]; exact g1) g2 g3 hroom (by rw [hps, ← z2, g1, hcs]; exact hle2)
        rw [hps, ← z2] at hrun
        refine ⟨_, _, hrun, .inr (.inr ⟨kk, b, c, cur, _, rfl, hkk, hlow, hb, by simp, rfl, ?_⟩)⟩
        refine rowIn_app hr g1 g4 ?_ hroom hr.2.2.1 ?_
        · have h7 : cur.toList.length = cur.size := Array.length_toList
          rw [List.size_toArray, List.length_append, List.length_append, hol, g1, List.length_drop, h7, hcs]
          omega
        · rw [List.take_append_of_le_length (Nat.le_of_eq (by rw [List.length_append, hol, g1, Nat.add_mul])), List.take_of_length_le (by rw [List.length_append, hol, g1, Nat.add_mul]; omega)]
      · have hrun := run_append_grow (P := E.P) w t ty el pi ei.zero hd hpi hpz ⟨b, 0, none⟩ xs.length c (cur.toList.take (xs.length * e.size)) (by rw [hps, ← z2]; exact hol)
          (fun j v hj => by
            rw [add_none, cell_of hb, Nat.zero_add]
            rw [List.getElem?_take] at hj
            split at hj
            · simpa using hj
            · cases hj) ad ys.length c2 news (by rw [hps, ← z2]; exact g1) g2 (by omega) (by unfold big at hbig; omega) (growslice_fits (by omega) (by rw [hpb]; exact hbytes))
        have hcap := grownCap_ge w (xs.length + ys.length) c el
        have hmax := grownCap_le_maxLen w (xs.length + ys.length) c el (maxLen_big hbig)
        refine ⟨_, _, hrun, .inr (.inl ⟨grownCap w (xs.length + ys.length) c el, _, w.drew, by simp, rfl, rfl, rfl, rfl, rfl, ?_⟩)⟩
        have hz := hI.zsize
        refine rowIn_app hr g1 g4 ?_ hcap hmax ?_
        · rw [Array.size_append, Array.size_append, size_zeroCells, hz, ← z2, List.size_toArray, List.size_toArray, hol, g1, ← Nat.add_mul, ← Nat.add_mul]
          congr 1; omega
        · rw [Array.toList_append, Array.toList_append, List.take_append_of_le_length (by simp only [List.length_append, hol, g1, Nat.add_mul]; omega), List.take_of_length_le (by simp only [List.length_append, hol, g1, Nat.add_mul]; omega)]

theorem effAppend_sound {tt : TT} (hT : TblOk E.P tt) (H : ∀ f ∈ st, Fact.holds E η a w f) {o : Oper} {t : Nat} {x y : Operand}
    (ho : o.op = .call { callee := .builtin .append, args := #[x, y], argTypes := #[t, t] }) {s u : SV} (hs : holdsV (vw E η w) η s (a.eval x)) (hu : holdsV (vw E η w) η u (a.eval y)) {e : Eff}
    (h : effAppend tt st t s u = some e) : EffSem E η a w o e := by
  have exec : ∀ {v' : Value} {w' : World}, (Builtin.append_ #[t, t] o.type #[a.eval x, a.eval y]).run E.P w = .ok v' w' → (execOp a.eval o).run E.P w = .ok (.value v') w' := by
    intro v' w' hr
    simp [execOp, ho, resolve, invoke, builtin, hr]
  unfold effAppend at h
  split at h
  case h_2 => cases h
  case h_1 ti hti =>
    have hd := (hT.rows t ti hti).desc
    split at h
    case h_2 => cases h
    case h_1 el hk =>
      rw [hk] at hd
      simp only at hd
      split at h
      case h_2 => cases h
      case h_1 ei hei =>
        have hI := hT.rows el ei hei
        split at h
        case h_1 k n =>
          split at h
          case h_2 => cases h
          case h_1 r hr =>
            split at h
            case h_2 => cases h
            case h_1 ob ys hys =>
              cases hz : (Nat.beq r.el el && Nat.beq r.e.size ei.size && Nat.ble 1 ei.size && Nat.ble ei.bytes 65536) with
              | false => rw [hz] at h; simp at h
              | true =>
                rw [hz] at h
                simp only [cond_true, Option.some.injEq] at h
                subst h
                simp only [Bool.and_eq_true] at hz
                obtain ⟨⟨⟨z1, z2⟩, z3⟩, z4⟩ := hz
                have z1 := Nat.eq_of_beq_eq_true z1
                rintro ⟨hn, hob, hbig⟩
                obtain ⟨ad2, c2, hv2, hex, hcells⟩ := src_sound H hu hys hob
                have hbase : (a.eval x = .slice none 0 0 ∧ r.xs = []) ∨ ∃ kk b c cur, some k = some kk ∧ η kk = some (b, c) ∧ E.w0.heap.size ≤ b ∧ w.heap[b]? = some (.cells cur el (0, 0)) ∧
                    a.eval x = .slice (some ⟨b, 0, none⟩) r.xs.length c ∧ RowIn (vw E η w) r.e r.xs c cur := by
                  rcases hs with ⟨hkn, hn0, hv⟩ | ⟨b, c, hkk, hv, hnc⟩
                  · exact .inl ⟨hv, List.eq_nil_of_length_eq_zero (by omega)⟩
                  · rcases H _ (findRow_mem hr) with ⟨hkn, _⟩ | ⟨b', c', cur, q0, q1, q2, q3⟩
                    · rw [hkk] at hkn; cases hkn
                    · rw [hkk] at q1
                      simp only [Option.some.injEq, Prod.mk.injEq] at q1
                      obtain ⟨rfl, rfl⟩ := q1
                      exact .inr ⟨k, b, c, cur, rfl, hkk, q0, z1 ▸ q2, by rw [hv, hn], q3⟩
                obtain ⟨v, w', h1, h2⟩ := append_run (ty := o.type) hd hI (Nat.eq_of_beq_eq_true z2) (Nat.le_of_ble_eq_true z3) (Nat.le_of_ble_eq_true z4) hbig (c2 := c2) hex hcells hbase
                exact ⟨v, w', exec (by rw [hv2]; exact h1), h2⟩
        case h_2 z =>
          split at h
          case h_2 => cases h
          case h_1 e' he' =>
            split at h
            case h_2 => cases h
            case h_1 ob ys hys =>
              cases hz : (isNilSlice z && Nat.beq e'.size ei.size && Nat.ble 1 ei.size && Nat.ble ei.bytes 65536) with
              | false => rw [hz] at h; simp at h
              | true =>
                rw [hz] at h
                simp only [cond_true, Option.some.injEq] at h
                subst h
                simp only [Bool.and_eq_true] at hz
                obtain ⟨⟨⟨z1, z2⟩, z3⟩, z4⟩ := hz
                rintro ⟨hob, hbig⟩
                obtain ⟨ad2, c2, hv2, hex, hcells⟩ := src_sound H hu hys hob
                have hv : a.eval x = .slice none 0 0 := by rw [← isNilSlice_eq z1]; exact hs
                obtain ⟨v, w', h1, h2⟩ := append_run (E := E) (η := η) (w := w) (k := none) (ty := o.type) (xs := []) hd hI (Nat.eq_of_beq_eq_true z2) (Nat.le_of_ble_eq_true z3) (Nat.le_of_ble_eq_true z4) (by simpa using hbig) (c2 := c2) hex hcells (.inl ⟨hv, rfl⟩)
                exact ⟨v, w', exec (by rw [hv2]; exact h1), h2⟩
        case h_3 => cases h

end
end Go.Eng
