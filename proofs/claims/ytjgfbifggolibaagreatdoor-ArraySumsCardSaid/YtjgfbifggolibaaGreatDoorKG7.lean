/- Texts A15 A17 A23 F0 F1 F2 A24 A25 W7, as far as they are used. Conditions: each lemma's own. -/
import Derived.Test.YtjgfbifggolibaaGreatDoorKG6
namespace Go.Eng.Ar
open Go.Eng Go.Proofs
set_option linter.all false
set_option maxRecDepth 100000
set_option maxHeartbeats 8000000
theorem ok_each {f : Nat} {sp : Spec} (h : ∀ x0, sp.pre x0 → Ok f { sp with pre := fun x => x = x0 }) (he : Enters Tryz.prog f) : Ok f sp :=
  ⟨fun w M x vs bs hM hA hp => (h x hp).1 w M x vs bs hM hA rfl, he⟩
@[reducible] def sClSpk : Spec := { pats := [.dat (.sl SpkT)], res := [{ own := some 53, t := .sl SpkT }], pre := fun x => pCloneS (List.length (α := SpkD) x.1), f := fun x => (x.1, ()) }
theorem h139 : Ok 139 sClSpk := by
  refine mk (ctr := []) trivial (nt := 8) Tryz.func139 rfl rfl rfl rfl (by kernel_rfl) (by kernel_rfl) (fun _ => []) ?_
  rintro ⟨(xs : List SpkD), _⟩ ⟨(h0 : 0 < xs.length), (h : xs.length ≤ 2000000000)⟩
  repeat' (intro hzz; (try (rename Two => hq; cases hq)); (try dsimp only at hzz); (try simp only [resTy, argTy, eqD, inR, big, wantOf, zB] at hzz); (try (revert hzz; intro _)))
  all_goals try (rename Unit => hq; clear hq)
  all_goals try ((with_reducible refine Held.mk ?_); (with_reducible (first | refine Frz.mk ?_ | refine And.intro (Frz.mk ?_) ?_ | refine And.intro ?_ (Frz.mk ?_))); repeat' first | exact True.intro | (change _ = _; with_reducible rfl) | refine And.intro ?_ ?_ | (with_reducible refine Frz.mk ?_))
  all_goals try (refine Held.mk ?_; (try dsimp only at *); (try simp only [resTy, argTy, eqD, inR, big, wantOf, zB] at *))
  all_goals first | exact h0 | exact List.nil_append _ | (show ([] : List SpkD).length + xs.length ≤ 2147483648; simp; omega)
def Hid (p : Prop) : Prop := p
def mapTo (f : Nat → SpkD → SpkD) (xs : List SpkD) (k : Nat) : List SpkD := tab (fun i => if i < k then f i (spkN xs i) else spkN xs i) xs.length
theorem mapTo_len {f : Nat → SpkD → SpkD} {xs : List SpkD} {k : Nat} : (mapTo f xs k).length = xs.length := tab_len _ _
theorem mapTo_0 {f : Nat → SpkD → SpkD} {xs : List SpkD} : mapTo f xs 0 = xs := by
  unfold mapTo
  rw [show (fun i => if i < 0 then f i (spkN xs i) else spkN xs i) = fun i => xs.getD i spkZ from by funext i; simp]
  exact (list_tab spkZ xs).symm
theorem mapTo_get {f : Nat → SpkD → SpkD} {xs : List SpkD} {k i : Nat} (hi : i < xs.length) : (mapTo f xs k).getD i spkZ = if i < k then f i (spkN xs i) else spkN xs i := tab_get _ _ _ _ hi
theorem mapTo_set {f : Nat → SpkD → SpkD} {xs : List SpkD} {k : Nat} (hk : k < xs.length) : (mapTo f xs k).set k (f k (spkN xs k)) = mapTo f xs (k + 1) := by
  apply List.ext_getElem?
  intro i
  by_cases hi : i < xs.length
  · have e1 : ∀ j, (mapTo f xs j)[i]? = some (if i < j then f i (spkN xs i) else spkN xs i) := fun j => by
      have := mapTo_get (f := f) (k := j) hi
      rw [List.getD_eq_getElem?_getD, List.getElem?_eq_getElem (by rw [mapTo_len]; exact hi), Option.getD_some] at this
      rw [List.getElem?_eq_getElem (by rw [mapTo_len]; exact hi), this]
    rw [e1 (k + 1), List.getElem?_set]
    by_cases e : k = i
    · subst e
      rw [if_pos rfl, if_pos (by rw [mapTo_len]; exact hi), if_pos (Nat.lt_succ_self k)]
    · rw [if_neg e, e1 k]
      by_cases h : i < k
      · rw [if_pos h, if_pos (by omega)]
      · rw [if_neg h, if_neg (by omega)]
  · rw [List.getElem?_eq_none (by rw [List.length_set, mapTo_len]; omega), List.getElem?_eq_none (by rw [mapTo_len]; omega)]
theorem mapTo_noset {f : Nat → SpkD → SpkD} {xs : List SpkD} {k : Nat} (hf : f k (spkN xs k) = spkN xs k) : mapTo f xs (k + 1) = mapTo f xs k := by
  refine tab_congr _ fun i hi => ?_
  by_cases e : i = k
  · subst e; rw [if_pos (Nat.lt_succ_self _), if_neg (Nat.lt_irrefl _), hf]
  · by_cases h : i < k
    · rw [if_pos h, if_pos (by omega)]
    · rw [if_neg h, if_neg (by omega)]
def mute (s : Int) (i : Nat) (x : SpkD) : SpkD := if (i : Int) = s then (x.1, 0, x.2.2.1, ()) else x
theorem mute_set {s : Int} {xs : List SpkD} {k : Nat} (hk : k < xs.length) (he : (k : Int) = s) : (mapTo (mute s) xs k).set k (((mapTo (mute s) xs k).getD k spkZ).1, 0, ((mapTo (mute s) xs k).getD k spkZ).2.2) = mapTo (mute s) xs (k + 1) := by
  rw [mapTo_get hk, if_neg (Nat.lt_irrefl _), ← mapTo_set hk]
  unfold mute
  rw [if_pos he]
def mutErr (r v : Int) (xs : List SpkD) (s : Int) : Int := if (chkA r v xs).2 = 0 then (if 0 ≤ s ∧ s ≤ (xs.length : Int) - 1 then 0 else 6) else (chkA r v xs).2
def mutR (r v : Int) (xs : List SpkD) (s : Int) : ArrD × Int × Unit := if mutErr r v xs s = 0 then ((r, v, mapTo (mute s) xs xs.length, ()), 0, ()) else ((0, 0, ([] : List SpkD), ()), mutErr r v xs s, ())
def mutAnn (s : Int) (xs : List SpkD) : LoopAnn := { σ := Nat, pat := fun k => [sI 13 k, .row 8 53 SpkT (mapTo (mute s) xs k)], inv := fun k => k ≤ xs.length, meas := fun k => xs.length - k }
noncomputable def w90 : InlF := { nt := 11, np := 3, body := bodyOf Tryz.f90, rs := [], anns := [] }
noncomputable def w89 (ann : St → LoopAnn) : InlF := { nt := 25, np := 2, body := bodyOf Tryz.f89, rs := [.cell 4 41], anns := [ann] }
theorem ok90 : InlOk Tryz.prog [(90, w90)] := one_ok Tryz.func90 rfl rfl rfl (by kernel_rfl) (by kernel_rfl) rfl (by kernel_rfl)
theorem ok89 (ann : St → LoopAnn) : InlOk Tryz.prog [(89, w89 ann)] := one_ok Tryz.func89 rfl rfl rfl (by kernel_rfl) (by kernel_rfl) rfl (by kernel_rfl)
@[reducible] def sMuted : Spec := { pats := [.dat ArrT, .dat I64], res := [{ t := ArrT }, { t := I64 }], pre := fun x => pTen (List.length (α := SpkD) x.1.2.2.1), f := fun x => mutR x.1.1 x.1.2.1 x.1.2.2.1 x.2.1 }
theorem h27 : Ok 27 sMuted := by
  refine ok_each (fun x0 h0 => ?_) ⟨_, Tryz.func27, by kernel_rfl, by kernel_rfl⟩
  obtain ⟨⟨(r : Int), (v : Int), (xs : List SpkD), ⟨⟩⟩, (s : Int), ⟨⟩⟩ := x0
  have hp : xs.length ≤ 1000 := h0
  refine mkI (sp := { sMuted with pre := fun x => x = ((r, v, xs, ()), s, ()) }) (c := ((cfg {} [(73, sFirst), (85, sUnless), (87, sArrErr), (88, sWithin), (139, sClSpk)] 0).withInl [(90, w90)]).withInl [(89, w89 fun _ => mutAnn s xs)]) (withInl_ok (withInl_ok (fun nt => cfgOk (X := {}) True.intro (ctr := [(73, sFirst), (85, sUnless), (87, sArrErr), (88, sWithin), (139, sClSpk)]) ⟨h73, h85, h87, h88, h139, trivial⟩) mixed ok90) mixed (ok89 _)) (nt := 25) Tryz.func27 rfl rfl rfl rfl (by kernel_rfl) (by kernel_rfl) (fun x => []) ?_
  rintro _ rfl
  have hE : firstI [(chkA r v xs).2, bif decide (0 ≤ s ∧ s ≤ (xs.length : Int) - 1) then 0 else 6] = mutErr r v xs s := by
    simp only [firstI, mutErr]
    by_cases h : 0 ≤ s ∧ s ≤ (xs.length : Int) - 1
    · rw [decide_eq_true h, if_pos h]; split <;> rfl
    · rw [decide_eq_false h, if_neg h]; split <;> rfl
  have hl : mutErr r v xs s = 0 → 0 < xs.length ∧ (0 ≤ s ∧ s ≤ (xs.length : Int) - 1) := fun h => by
    unfold mutErr at h
    split at h
    · rename_i h1
      split at h
      · rename_i h2; exact ⟨(arr_of h1).pos, h2⟩
      · cases h
    · rename_i h1; exact absurd h h1
  repeat' (intro hzz; (try (rename Two => hq; cases hq)); (try dsimp only at hzz); (try simp only [resTy, argTy, eqD, inR, big, wantOf, zB] at hzz); (try simp only [resTy, argTy, eqD, inR, big, wantOf, zB, fWithin, hE, Int.toNat_natCast] at hzz); (try (revert hzz; intro _)))
  all_goals try (rename Unit => hq; clear hq)
  all_goals try ((with_reducible refine Held.mk ?_); (with_reducible (first | refine Frz.mk ?_ | refine And.intro (Frz.mk ?_) ?_ | refine And.intro ?_ (Frz.mk ?_))); repeat' first | exact True.intro | (change _ = _; with_reducible rfl) | refine And.intro ?_ ?_ | (with_reducible refine Frz.mk ?_))
  all_goals try (refine Held.mk ?_; (try dsimp only at *); (try simp only [resTy, argTy, eqD, inR, big, wantOf, zB] at *); (try simp only [resTy, argTy, eqD, inR, big, wantOf, zB, fWithin, hE, Int.toNat_natCast] at *))
  · show (xs.length : Int) ≤ 4611686018427387904; omega
  · omega
  · show ((2 : Nat) : Int) ≤ 4611686018427387904; decide
  · rename_i h
    have e : mutR r v xs s = ((0, 0, [], ()), mutErr r v xs s, ()) := if_neg h
    rw [e]; exact ⟨⟨rfl, rfl, rfl⟩, rfl⟩
  · rename_i h
    exact ⟨(hl h).1, by omega⟩
  · 
    refine GHeld.mk ?_
    refine Exists.intro (0 : Nat) ?_
    refine And.intro (Leaf.mk ?_) ?_
    · repeat' first | exact True.intro | refine And.intro ?_ ?_
      all_goals try ((change _ = _ <;> try dsimp only) <;> try with_reducible rfl)
      all_goals try omega
      all_goals (first | rfl | exact mapTo_0.symm | exact mapTo_0)
    exact Nat.zero_le _
  · omega
  · rw [mapTo_len]; omega
  · omega
  · rename_i h k hk hlt he
    refine GHeld.mk ?_
    refine Exists.intro (k + 1) ?_
    refine And.intro (Leaf.mk ?_) ?_
    · repeat' first | exact True.intro | refine And.intro ?_ ?_
      all_goals try ((change _ = _ <;> try dsimp only) <;> try with_reducible rfl)
      all_goals try omega
      all_goals (first | rfl | exact mute_set (by omega) he)
    exact ⟨(show k + 1 ≤ xs.length by omega), (show xs.length - (k + 1) < xs.length - k by omega)⟩
  · omega
  · rename_i h k hk hlt he
    refine GHeld.mk ?_
    refine Exists.intro (k + 1) ?_
    refine And.intro (Leaf.mk ?_) ?_
    · repeat' first | exact True.intro | refine And.intro ?_ ?_
      all_goals try ((change _ = _ <;> try dsimp only) <;> try with_reducible rfl)
      all_goals try omega
      all_goals (first | rfl | exact (mapTo_noset (if_neg he)).symm | exact mapTo_noset (if_neg he))
    exact ⟨(show k + 1 ≤ xs.length by omega), (show xs.length - (k + 1) < xs.length - k by omega)⟩
  all_goals try exact mapTo_len.symm
  all_goals try exact mapTo_len
  · rename_i h k hk hlt
    obtain rfl : k = xs.length := by omega
    have e : mutR r v xs s = ((r, v, mapTo (mute s) xs xs.length, ()), 0, ()) := if_pos h
    rw [e]; exact ⟨⟨rfl, rfl, rfl⟩, rfl⟩
end Go.Eng.Ar

namespace Go.Eng.Ar
open Go.Eng Go.Proofs
set_option linter.all false
set_option maxRecDepth 100000
set_option maxHeartbeats 8000000
abbrev pMod (n b : Int) : Prop := (-4000000000000000000 ≤ n ∧ n ≤ 4000000000000000000) ∧ 0 < b ∧ b ≤ 1000000000000000000
abbrev pGood (r v : Int) (xs : List SpkD) (p : PlaceD) : Prop := opErr r v xs p = 0
theorem good_of {r v : Int} {xs : List SpkD} {p : PlaceD} (h : pGood r v xs p) : goodArr r v xs ∧ inP p ∧ (∀ i, i < xs.length → 100 ≤ sqP (spkN xs i).1 p) ∧ ∀ i, i < xs.length → goodRay (rayOf r v p (spkN xs i)) := by
  unfold pGood opErr at h
  split at h
  · rename_i h1
    have ha := arr_of h1
    have hs := seat_of h
    have hf : ∀ i, i < xs.length → 100 ≤ sqP (spkN xs i).1 p := fun i hi => far_of (ha.sp i hi).1 hs.1 (hs.2 i hi)
    exact ⟨ha, hs.1, hf, fun i hi => rayOf_good ha.snd (ha.sp i hi) hs.1 (hf i hi)⟩
  · rename_i h1; exact absurd h h1
def raysA (r v : Int) (xs : List SpkD) (p : PlaceD) : List RayD := raysT r v xs p xs.length
theorem raysA_len {r v : Int} {xs : List SpkD} {p : PlaceD} : (raysA r v xs p).length = xs.length := tab_len _ _
theorem raysA_get {r v : Int} {xs : List SpkD} {p : PlaceD} {i : Nat} (hi : i < xs.length) : rayN (raysA r v xs p) i = rayOf r v p (spkN xs i) := tab_get _ _ _ _ hi
theorem raysA_good {r v : Int} {xs : List SpkD} {p : PlaceD} (h : pGood r v xs p) : xs.length ≤ 8 ∧ ∀ i, i < xs.length → goodRay (rayN (raysA r v xs p) i) := by
  obtain ⟨h1, h2, h3, h4⟩ := good_of h
  exact ⟨h1.le, fun i hi => by rw [raysA_get hi]; exact h4 i hi⟩
end Go.Eng.Ar

namespace Go.Eng.Ar
open Go.Eng Go.Proofs
set_option linter.all false
set_option maxRecDepth 100000
set_option maxHeartbeats 8000000
noncomputable def w26 : InlF := { nt := 9, np := 1, body := bodyOf Tryz.f26, rs := [.cell 2 41], anns := [] }
theorem ok26 : InlOk Tryz.prog [(26, w26)] := one_ok Tryz.func26 rfl rfl rfl (by kernel_rfl) (by kernel_rfl) rfl (by kernel_rfl)
end Go.Eng.Ar

namespace Go.Eng.Ar
open Go Go.Eng Ieee
set_option linter.all false
set_option maxRecDepth 100000
set_option maxHeartbeats 8000000
theorem cut_exact (neg : Bool) (n d : Nat) (h : n % 2 ^ d = 0) (hd : d ≤ n.log2 + 2) : Toward.even.cut neg n d = n / 2 ^ d := by
  unfold Toward.cut
  simp only [Nat.min_eq_left hd, Nat.one_shiftLeft, h]
  have h0 : 0 < 2 ^ d := Nat.two_pow_pos d
  have e1 : decide (2 ^ d < 2 * 0) = false := by simp
  have e2 : (2 ^ d == 2 * 0) = false := by simp
  rw [e1, e2]
  simp
theorem log2_mul_pow (m j : Nat) (hm : m ≠ 0) : (m * 2 ^ j).log2 = m.log2 + j := by
  have h0 : 0 < 2 ^ j := Nat.two_pow_pos j
  have hne : m * 2 ^ j ≠ 0 := Nat.mul_ne_zero hm (by omega)
  have a1 := (Nat.log2_lt (k := m.log2 + j + 1) hne).2 (by
    have := Nat.lt_log2_self (n := m)
    rw [show m.log2 + j + 1 = (m.log2 + 1) + j by omega, Nat.pow_add]
    exact Nat.mul_lt_mul_of_pos_right this h0)
  have a2 : ¬ (m * 2 ^ j).log2 < m.log2 + j := fun h => by
    have h1 := (Nat.log2_lt hne).1 h
    have h2 := Nat.log2_self_le hm
    rw [Nat.pow_add] at h1
    have := Nat.mul_le_mul_right (2 ^ j) h2
    omega
  omega
theorem nearest_read (f : Format) (neg : Bool) (m j : Nat) (place : Int) (he : 2 ≤ f.exponentBits) (hm : m ≠ 0) (h1 : m.log2 ≤ f.fractionBits) (h2 : f.leastPlace ≤ place + j)
    (h3 : place + j + m.log2 + 3 ≤ f.leastPlace + f.fractionBits + 2 ^ f.exponentBits) : ∃ (k : Nat) (i : Int), f.read (f.nearest neg (m * 2 ^ j) place) = .number neg k i ∧ f.leastPlace ≤ i ∧ i ≤ place + j ∧ k = m * 2 ^ (place + j - i).toNat := by
  have hne : m * 2 ^ j ≠ 0 := Nat.mul_ne_zero hm (by have := Nat.two_pow_pos j; omega)
  have hl := log2_mul_pow m j hm
  unfold Format.nearest
  rw [if_neg hne, hl]
  simp only []
  generalize hL : max (place + ((m.log2 + j : Nat) : Int) - f.fractionBits) f.leastPlace = last
  have hL1 : f.leastPlace ≤ last := by omega
  have hL2 : last ≤ place + j := by omega
  have hk : Toward.even.cut neg ((m * 2 ^ j) <<< (place - last).toNat) (last - place).toNat = m * 2 ^ (place + j - last).toNat := by
    rw [Nat.shiftLeft_eq]
    by_cases hp : last ≤ place
    · rw [show (last - place).toNat = 0 by omega, cut_exact _ _ _ (by simp [Nat.mod_one]) (by omega), Nat.pow_zero, Nat.div_one, Nat.mul_assoc, ← Nat.pow_add]
      congr 2; omega
    · rw [show (place - last).toNat = 0 by omega, Nat.pow_zero, Nat.mul_one]
      have hd : (last - place).toNat ≤ j := by omega
      have e : m * 2 ^ j = m * 2 ^ (j - (last - place).toNat) * 2 ^ (last - place).toNat := by rw [Nat.mul_assoc, ← Nat.pow_add]; congr 2; omega
      rw [cut_exact _ _ _ (by rw [e]; exact Nat.mul_mod_left _ _) (by rw [hl]; omega)]
      rw [e, Nat.mul_div_cancel _ (Nat.two_pow_pos _)]
      congr 2; omega
  rw [hk]
  generalize hK : m * 2 ^ (place + j - last).toNat = kept
  have hB : f.binade = 2 ^ f.fractionBits := rfl
  have hB0 : 0 < f.binade := Nat.two_pow_pos _
  have hk0 : kept ≠ 0 := by rw [← hK]; exact Nat.mul_ne_zero hm (by have := Nat.two_pow_pos (place + j - last).toNat; omega)
  have hkl : kept.log2 = m.log2 + (place + j - last).toNat := by rw [← hK]; exact log2_mul_pow _ _ hm
  have hk2 : kept < 2 * f.binade := by
    rw [hB, Nat.mul_comm, ← Nat.pow_succ]
    exact (Nat.log2_lt hk0).1 (by rw [hkl]; omega)
  have hrung : (last - f.leastPlace).toNat * f.binade + kept < f.infRung := by
    unfold Format.infRung
    have h2e := Nat.two_pow_pos f.exponentBits
    have hc : (((2 : Nat) ^ f.exponentBits : Nat) : Int) = 2 ^ f.exponentBits := by simp
    have : (last - f.leastPlace).toNat + 2 ≤ 2 ^ f.exponentBits - 1 := by
      by_cases hq : last = f.leastPlace
      · have : 2 ^ 2 ≤ 2 ^ f.exponentBits := Nat.pow_le_pow_right (by omega) he
        omega
      · omega
    have := Nat.mul_le_mul_right f.binade this
    rw [Nat.add_mul] at this
    omega
  rw [Nat.min_eq_left (by omega)]
  have hw : ∀ r, r < f.signWeight → f.word neg r % f.signWeight = r ∧ (f.word neg r / f.signWeight % 2 == 1) = neg := by
    intro r hr
    unfold Format.word
    cases neg with
    | false => exact ⟨Nat.mod_eq_of_lt hr, by rw [if_neg (by simp), Nat.div_eq_of_lt hr]; rfl⟩
    | true =>
      rw [if_pos rfl, Nat.add_mod_left, Nat.mod_eq_of_lt hr, Nat.add_div_left _ (by omega), Nat.div_eq_of_lt hr]
      exact ⟨rfl, rfl⟩
  have hsw : f.infRung < f.signWeight := f.infRung_lt
  obtain ⟨w1, w2⟩ := hw _ (show (last - f.leastPlace).toNat * f.binade + kept < f.signWeight by omega)
  unfold Format.read
  simp only [w1, w2]
  by_cases hq : last = f.leastPlace
  · have e0 : (last - f.leastPlace).toNat = 0 := by omega
    rw [e0, Nat.zero_mul, Nat.zero_add]
    by_cases hb : kept < f.binade
    · rw [if_pos hb]
      exact ⟨kept, f.leastPlace, rfl, Int.le_refl _, h2, by rw [← hK, hq]⟩
    · rw [if_neg hb, if_pos (by rw [e0, Nat.zero_mul, Nat.zero_add] at hrung; exact hrung)]
      have d1 : kept / f.binade = 1 := Nat.div_eq_of_lt_le (by omega) (by omega)
      have d2 : kept % f.binade = kept - f.binade := by rw [Nat.mod_eq_sub_mod (by omega), Nat.mod_eq_of_lt (by omega)]
      refine ⟨f.binade + kept % f.binade, f.leastPlace + (kept / f.binade - 1 : Nat), rfl, by omega, by rw [d1]; simpa using h2, ?_⟩
      rw [d1, d2, show f.binade + (kept - f.binade) = kept by omega, ← hK, hq]
      simp
  · have hlast : last = place + ((m.log2 + j : Nat) : Int) - f.fractionBits := by omega
    have hbk : f.binade ≤ kept := by
      rw [hB]
      have := Nat.log2_self_le hk0
      rwa [hkl, show m.log2 + (place + j - last).toNat = f.fractionBits by omega] at this
    have hpos : 1 ≤ (last - f.leastPlace).toNat := by omega
    have hmul := Nat.mul_le_mul_right f.binade hpos
    rw [if_neg (by omega), if_pos hrung]
    have d1 : ((last - f.leastPlace).toNat * f.binade + kept) / f.binade = (last - f.leastPlace).toNat + 1 := by
      rw [Nat.mul_comm, Nat.mul_add_div hB0, Nat.div_eq_of_lt_le (m := kept) (k := 1) (by omega) (by omega)]
    have d2 : ((last - f.leastPlace).toNat * f.binade + kept) % f.binade = kept - f.binade := by
      rw [Nat.mul_comm, Nat.mul_add_mod, Nat.mod_eq_sub_mod (by omega), Nat.mod_eq_of_lt (by omega)]
    refine ⟨_, _, rfl, by omega, ?_, ?_⟩
    · rw [d1]; omega
    · rw [d1, d2, show f.binade + (kept - f.binade) = kept by omega, ← hK]
      congr 2; omega
/-! ### Numbers, scaled -/
theorem signed_add (s : Bool) (m a b : Nat) : signed s m (a + b) = signed s m a * 2 ^ b := by
  unfold signed
  have e : ((m <<< (a + b) : Nat) : Int) = ((m <<< a : Nat) : Int) * 2 ^ b := by
    rw [Nat.shiftLeft_eq, Nat.shiftLeft_eq, Nat.pow_add, ← Nat.mul_assoc, Int.natCast_mul, Int.natCast_pow]; rfl
  cases s
  · simp only [Bool.false_eq_true, if_false]; exact e
  · simp only [if_true]; rw [e, Int.neg_mul]
def dv (f : Format) : Datum → Int
  | .number s m i => signed s m (i - f.leastPlace).toNat
  | _ => 0
def isN : Datum → Bool
  | .number .. => true
  | _ => false
theorem isN_ex {d : Datum} (h : isN d = true) : ∃ s m i, d = .number s m i := by
  cases d with
  | number s m i => exact ⟨s, m, i, rfl⟩
  | _ => cases h
theorem read_in (f : Format) (x : Nat) {s : Bool} {m : Nat} {i : Int} (h : f.read x = .number s m i) : m < 2 * f.binade ∧ f.leastPlace ≤ i ∧ i + 3 ≤ f.leastPlace + 2 ^ f.exponentBits ∨ m < f.binade ∧ i = f.leastPlace := by
  unfold Format.read at h
  simp only [] at h
  have hB0 : 0 < f.binade := Nat.two_pow_pos _
  split at h
  · rename_i h1
    cases h
    exact .inr ⟨h1, rfl⟩
  · rename_i h1
    split at h
    · rename_i h2
      cases h
      left
      have hm := Nat.mod_lt (x % f.signWeight) hB0
      have hd : x % f.signWeight / f.binade < 2 ^ f.exponentBits - 1 := by
        rw [Nat.div_lt_iff_lt_mul hB0]; exact h2
      have hc : (((2 : Nat) ^ f.exponentBits : Nat) : Int) = 2 ^ f.exponentBits := by simp
      have hd1 : 1 ≤ x % f.signWeight / f.binade := (Nat.one_le_div_iff hB0).2 (by omega)
      refine ⟨by omega, by omega, by omega⟩
    · split at h <;> cases h
theorem read_log (f : Format) (x : Nat) {s : Bool} {m : Nat} {i : Int} (he : 2 ≤ f.exponentBits) (h : f.read x = .number s m i) : f.leastPlace ≤ i ∧ m < 2 * f.binade ∧ (m ≠ 0 → m.log2 ≤ f.fractionBits ∧ i + m.log2 + 3 ≤ f.leastPlace + f.fractionBits + 2 ^ f.exponentBits) := by
  have hB : f.binade = 2 ^ f.fractionBits := rfl
  have key : m < 2 * f.binade → m ≠ 0 → m.log2 ≤ f.fractionBits := fun h1 h2 => by
    have : m.log2 < f.fractionBits + 1 := (Nat.log2_lt h2).2 (by rw [Nat.pow_succ, Nat.mul_comm, ← hB]; exact h1)
    omega
  have hp : 2 ^ 2 ≤ 2 ^ f.exponentBits := Nat.pow_le_pow_right (by omega) he
  have hc : (((2 : Nat) ^ f.exponentBits : Nat) : Int) = 2 ^ f.exponentBits := by simp
  rcases read_in f x h with ⟨h1, h2, h3⟩ | ⟨h1, h2⟩
  · refine ⟨h2, h1, fun h0 => ?_⟩
    have := key h1 h0
    omega
  · refine ⟨by omega, by omega, fun h0 => ?_⟩
    have := key (by omega) h0
    omega
theorem compare_mul (a b c : Int) (h : 0 < c) : compare (a * c) (b * c) = compare a b := by
  simp only [compare, compareOfLessAndEq]
  by_cases h1 : a < b
  · rw [if_pos h1, if_pos (Int.mul_lt_mul_of_pos_right h1 h)]
  · rw [if_neg h1, if_neg (fun hh => h1 (Int.lt_of_mul_lt_mul_right hh (by omega)))]
    by_cases h2 : a = b
    · rw [if_pos h2, if_pos (by rw [h2])]
    · rw [if_neg h2, if_neg (fun hh => h2 (Int.eq_of_mul_eq_mul_right (by omega) hh))]
theorem order_num (f : Format) {x y : Nat} {s t : Bool} {m n : Nat} {i j : Int} (hx : f.read x = .number s m i) (hy : f.read y = .number t n j) (he : 2 ≤ f.exponentBits) :
    f.order x y = some (compare (dv f (f.read x)) (dv f (f.read y))) := by
  have h1 := (read_log f x he hx).1
  have h2 := (read_log f y he hy).1
  unfold Format.order
  rw [hx, hy]
  simp only [Datum.order, dv]
  rw [show (i - f.leastPlace).toNat = (i - min i j).toNat + (min i j - f.leastPlace).toNat by omega, show (j - f.leastPlace).toNat = (j - min i j).toNat + (min i j - f.leastPlace).toNat by omega, signed_add, signed_add, compare_mul _ _ _ (Int.pow_pos (by omega))]
/-! ### Numbers made whole -/
theorem cut_zero (neg : Bool) (n d : Nat) : Toward.zero.cut neg n d = n / 2 ^ d := by
  unfold Toward.cut
  simp only [Nat.one_shiftLeft, Bool.toNat_false, Nat.add_zero]
  by_cases hd : d ≤ n.log2 + 2
  · rw [Nat.min_eq_left hd]
  · rw [Nat.min_eq_right (by omega)]
    have h1 : n < 2 ^ (n.log2 + 2) := Nat.lt_of_lt_of_le (Nat.lt_log2_self) (Nat.pow_le_pow_right (by omega) (by omega))
    have h2 : n < 2 ^ d := Nat.lt_of_lt_of_le h1 (Nat.pow_le_pow_right (by omega) (by omega))
    rw [Nat.div_eq_of_lt h1, Nat.div_eq_of_lt h2]
def scF (f : Format) : Nat := (-f.leastPlace).toNat
def sg (s : Bool) (n : Nat) : Int := if s then -(n : Int) else n
theorem signed_sg (s : Bool) (m a : Nat) : signed s m a = sg s (m * 2 ^ a) := by
  unfold signed sg
  rw [Nat.shiftLeft_eq]
theorem sg_tdiv (s : Bool) (a b : Nat) : (sg s a).tdiv (b : Int) = sg s (a / b) := by
  unfold sg
  cases s
  · simp only [Bool.false_eq_true, if_false]; rw [Int.tdiv_eq_ediv_of_nonneg (by omega)]; rfl
  · simp only [if_true]; rw [Int.neg_tdiv, Int.tdiv_eq_ediv_of_nonneg (by omega)]; rfl
def tru (f : Format) (m : Nat) (i : Int) : Nat := m * 2 ^ i.toNat / 2 ^ (-i).toNat
theorem toInt_num (f : Format) (s : Bool) (m : Nat) (i : Int) : (Datum.number s m i).toInt .zero = some (sg s (tru f m i)) := by
  unfold Datum.toInt Datum.integral
  simp only [cut_zero, signed_sg, Nat.shiftLeft_eq, Nat.pow_zero, Nat.mul_one, tru]
theorem tru_dv (f : Format) {s : Bool} {m : Nat} {i : Int} (h0 : f.leastPlace ≤ 0) (hi : f.leastPlace ≤ i) : sg s (tru f m i) = (dv f (.number s m i)).tdiv ((2 ^ scF f : Nat) : Int) := by
  show sg s (tru f m i) = (signed s m (i - f.leastPlace).toNat).tdiv ((2 ^ scF f : Nat) : Int)
  rw [signed_sg, sg_tdiv]
  congr 1
  unfold tru scF
  by_cases hp : 0 ≤ i
  · rw [show (-i).toNat = 0 by omega, Nat.pow_zero, Nat.div_one, show (i - f.leastPlace).toNat = i.toNat + (-f.leastPlace).toNat by omega, Nat.pow_add, ← Nat.mul_assoc, Nat.mul_div_cancel _ (Nat.two_pow_pos _)]
  · rw [show i.toNat = 0 by omega, Nat.pow_zero, Nat.mul_one, show (-f.leastPlace).toNat = (-i).toNat + (i - f.leastPlace).toNat by omega, Nat.pow_add, Nat.mul_div_mul_right _ _ (Nat.two_pow_pos _)]
end Go.Eng.Ar

namespace Go.Eng.Ar
open Go Go.Eng Ieee
set_option linter.all false
set_option maxRecDepth 100000
set_option maxHeartbeats 8000000
theorem fmt_exp (k : FloatKind) : 2 ≤ k.format.exponentBits := by cases k <;> decide
theorem fmt_lp (k : FloatKind) : k.format.leastPlace ≤ 0 := by cases k <;> decide
def fN (k : FloatKind) (x : Nat) : Bool := isN (k.format.read x)
def fV (k : FloatKind) (x : Nat) : Int := dv k.format (k.format.read x)
def fS (k : FloatKind) : Int := ((2 ^ scF k.format : Nat) : Int)
def fT (k : FloatKind) (x : Nat) : Int := (fV k x).tdiv (fS k)
theorem fS_pos (k : FloatKind) : 0 < fS k := by
  have := Nat.two_pow_pos (scF k.format)
  unfold fS; omega
theorem fN_ex {k : FloatKind} {x : Nat} (h : fN k x = true) : ∃ s m i, k.format.read x = .number s m i := isN_ex h
theorem order_eq {k : FloatKind} {x y : Nat} (hx : fN k x = true) (hy : fN k y = true) : k.format.order x y = some (compare (fV k x) (fV k y)) := by
  obtain ⟨s, m, i, e1⟩ := fN_ex hx
  obtain ⟨t, n, j, e2⟩ := fN_ex hy
  exact order_num k.format e1 e2 (fmt_exp k)
theorem cmp_lt {k : FloatKind} {x y : Nat} (hx : fN k x = true) (hy : fN k y = true) : (k.format.order x y == some .lt) = decide (fV k x < fV k y) := by
  rw [order_eq hx hy]
  simp only [compare, compareOfLessAndEq]
  by_cases h : fV k x < fV k y
  · simp [h]
  · rw [if_neg h]; split <;> simp [h]
theorem cmp_eq {k : FloatKind} {x y : Nat} (hx : fN k x = true) (hy : fN k y = true) : (k.format.order x y == some .eq) = decide (fV k x = fV k y) := by
  rw [order_eq hx hy]
  simp only [compare, compareOfLessAndEq]
  by_cases h : fV k x < fV k y
  · rw [if_pos h]; simp; omega
  · rw [if_neg h]; split <;> rename_i h2 <;> simp [h2]
theorem cmp_gt {k : FloatKind} {x y : Nat} (hx : fN k x = true) (hy : fN k y = true) : (k.format.order x y == some .gt) = decide (fV k y < fV k x) := by
  rw [order_eq hx hy]
  simp only [compare, compareOfLessAndEq]
  by_cases h : fV k x < fV k y
  · rw [if_pos h]; simp; omega
  · rw [if_neg h]; split <;> rename_i h2 <;> simp <;> omega
theorem sub_num {k : FloatKind} {x : Nat} (h : fN k x = true) : k.format.sub x x = some 0 := by
  obtain ⟨s, m, i, e⟩ := fN_ex h
  unfold Format.sub
  rw [e]
  simp only [Datum.opposite, Datum.sum, Option.map_some]
  have e0 : signed s m (i - min i i).toNat + signed (!s) m (i - min i i).toNat = 0 := by
    unfold signed
    cases s <;> simp <;> omega
  rw [e0]
  cases s <;> simp [Format.write, Format.nearest, Format.word]
theorem f2i_fT {k : FloatKind} {x : Nat} (h : fN k x = true) (h1 : -9223372036854775808 ≤ fT k x) (h2 : fT k x ≤ 9223372036854775807) : floatToIntVal k x .i64 = some (fT k x) := by
  obtain ⟨s, m, i, e⟩ := fN_ex h
  have hi := (read_log k.format x (fmt_exp k) e).1
  have ht : fT k x = sg s (tru k.format m i) := by
    unfold fT fV fS
    rw [e]
    exact (tru_dv k.format (fmt_lp k) hi).symm
  unfold floatToIntVal
  show (match (k.format.read x).toInt .zero with | some n => if IntKind.i64.min ≤ n ∧ n ≤ IntKind.i64.max then some n else none | none => none) = _
  rw [e, toInt_num k.format]
  simp only []
  rw [← ht, if_pos ⟨h1, h2⟩]
end Go.Eng.Ar

namespace Go.Eng.Ar
open Go.Eng Go.Proofs
set_option linter.all false
set_option maxRecDepth 100000
set_option maxHeartbeats 8000000
abbrev smZ (n : Int) : Prop := -1000000000 ≤ n ∧ n ≤ 1000000000
theorem foi64 {n : Int} (h : smZ n) : fN .f64 (floatOfInt .f64 n) = true ∧ fV .f64 (floatOfInt .f64 n) = n * fS .f64 := by
  obtain ⟨h1, h2⟩ := h
  by_cases h0 : n = 0
  · subst h0; decide +kernel
  · have hm : n.natAbs ≠ 0 := by omega
    have hl : n.natAbs.log2 ≤ 29 := by
      have : n.natAbs.log2 < 30 := (Nat.log2_lt hm).2 (by omega)
      omega
    have l32 : FloatKind.f64.format.leastPlace = -1074 := by decide
    have b32 : FloatKind.f64.format.fractionBits = 52 := by decide
    have e32 : FloatKind.f64.format.exponentBits = 11 := by decide
    obtain ⟨q, l, g1, g2, g3, g4⟩ := nearest_read FloatKind.f64.format (decide (n < 0)) n.natAbs 0 0 (fmt_exp .f64) hm (by rw [b32]; omega) (by rw [l32]; omega) (by rw [l32, b32, e32]; omega)
    rw [Nat.pow_zero, Nat.mul_one] at g1
    have hw : floatOfInt .f64 n = FloatKind.f64.format.nearest (decide (n < 0)) n.natAbs 0 := rfl
    rw [hw]
    unfold fN fV
    rw [g1]
    refine ⟨rfl, ?_⟩
    show Ieee.signed _ q (l - FloatKind.f64.format.leastPlace).toNat = _
    rw [l32] at g2 ⊢
    rw [signed_sg, g4, Nat.mul_assoc, ← Nat.pow_add]
    have e : ((0 : Int) + (0 : Nat) - l).toNat + (l - -1074).toNat = 1074 := by omega
    rw [e]
    have hs : fS .f64 = ((2 ^ 1074 : Nat) : Int) := by decide +kernel
    rw [hs]
    generalize (2 : Nat) ^ 1074 = C
    unfold sg
    by_cases hn : n < 0
    · rw [if_pos (by simp; exact hn), Int.natCast_mul, show ((n.natAbs : Nat) : Int) = -n by omega, Int.neg_mul, Int.neg_neg]
    · rw [if_neg (by simp; omega), Int.natCast_mul, show ((n.natAbs : Nat) : Int) = n by omega]
theorem fT64 {n : Int} (h : smZ n) : fT .f64 (floatOfInt .f64 n) = n := by
  unfold fT
  rw [(foi64 h).2]
  exact Int.mul_tdiv_cancel _ (by have := fS_pos .f64; omega)
theorem f2i64 {n : Int} (h : smZ n) : floatToIntVal .f64 (floatOfInt .f64 n) .i64 = some n := by
  have := f2i_fT (foi64 h).1 (by rw [fT64 h]; omega) (by rw [fT64 h]; omega)
  rw [fT64 h] at this; exact this
theorem zz64 : (FloatKind.f64.format.order 0 0 != some .eq) = false := by decide
theorem bne_of {α : Type} [BEq α] {a b : α} (h : (a == b) = true) : (a != b) = false := by simp [bne, h]
theorem c64 : fN .f64 14069741636278059008 = true ∧ fN .f64 4846369599423283200 = true ∧ fV .f64 14069741636278059008 = -(10000000000000000 * fS .f64) ∧ fV .f64 4846369599423283200 = 10000000000000000 * fS .f64 := by decide +kernel
theorem c12 : fN .f64 4786511204640096256 = true ∧ fN .f64 14009883241494872064 = true ∧ fV .f64 4786511204640096256 = 1000000000000 * fS .f64 ∧ fV .f64 14009883241494872064 = -(1000000000000 * fS .f64) := by decide +kernel
def whZ (x : Nat) : Prop := ∃ n : Int, smZ n ∧ x = floatOfInt .f64 n
@[reducible] def sWhole : Spec := { pats := [.dat F64], res := [{ t := .bool }], pre := fun x => whZ x.1, f := fun _ => (true, ()) }
theorem h99 : Ok 99 sWhole := by
  refine mk (ctr := []) trivial (nt := 24) Tryz.func99 rfl rfl rfl rfl (by kernel_rfl) (by kernel_rfl) (fun _ => []) ?_
  rintro ⟨(x : Nat), ⟨⟩⟩ ⟨n, hn, rfl⟩
  obtain ⟨hN, hV⟩ := foi64 hn
  have hT := f2i64 hn
  have hS := fS_pos .f64
  obtain ⟨x, hx⟩ : ∃ x, floatOfInt .f64 n = x := ⟨_, rfl⟩
  rw [hx] at hN hV hT
  have o1 := bne_of (show (FloatKind.f64.format.order x x == some .eq) = true by rw [cmp_eq hN hN]; simp)
  have s1 := sub_num hN
  have g1 := cmp_gt hN c64.1
  have g1e := cmp_eq hN c64.1
  have g2 := cmp_lt hN c64.2.1
  have g2e := cmp_eq hN c64.2.1
  have g3 : (FloatKind.f64.format.order x x == some .eq) = true := by rw [cmp_eq hN hN]; simp
  have hb : -1000000000 * fS .f64 ≤ n * fS .f64 ∧ n * fS .f64 ≤ 1000000000 * fS .f64 := ⟨Int.mul_le_mul_of_nonneg_right hn.1 (by omega), Int.mul_le_mul_of_nonneg_right hn.2 (by omega)⟩
  rw [c64.2.2.1, hV] at g1 g1e
  rw [c64.2.2.2, hV] at g2 g2e
  have w1 : (decide (-(10000000000000000 * fS .f64) < n * fS .f64) || decide (n * fS .f64 = -(10000000000000000 * fS .f64))) = true := by
    rw [decide_eq_true (by omega)]; rfl
  have w2 : (decide (n * fS .f64 < 10000000000000000 * fS .f64) || decide (n * fS .f64 = 10000000000000000 * fS .f64)) = true := by
    rw [decide_eq_true (by omega)]; rfl
  rw [← g1, ← g1e] at w1
  rw [← g2, ← g2e] at w2
  have z := zz64
  rw [hx]
  clear g1 g1e g2 g2e hb
  repeat' (intro hzz; (try (rename Two => hq; cases hq)); (try dsimp only at hzz); (try simp only [resTy, argTy, eqD, inR, big, wantOf, zB] at hzz); (try simp only [resTy, argTy, eqD, inR, big, wantOf, zB, o1, s1, w1, w2, hT, hx, g3, z, Option.getD_some, Option.isSome_some] at hzz); (try (revert hzz; intro _)))
  all_goals try (rename Unit => hq; clear hq)
  all_goals try ((with_reducible refine Held.mk ?_); (with_reducible (first | refine Frz.mk ?_ | refine And.intro (Frz.mk ?_) ?_ | refine And.intro ?_ (Frz.mk ?_))); repeat' first | exact True.intro | (change _ = _; with_reducible rfl) | refine And.intro ?_ ?_ | (with_reducible refine Frz.mk ?_))
  all_goals try (refine Held.mk ?_; (try dsimp only at *); (try simp only [resTy, argTy, eqD, inR, big, wantOf, zB] at *); (try simp only [resTy, argTy, eqD, inR, big, wantOf, zB, o1, s1, w1, w2, hT, hx, g3, z, Option.getD_some, Option.isSome_some] at *))
  all_goals (rename_i h; cases h)
def whC (z : CD) : Prop := whZ z.1 ∧ whZ z.2
theorem whC_of {a b : Int} (ha : smZ a) (hb : smZ b) : whC (cpxI a b) := ⟨⟨a, ha, rfl⟩, b, hb, rfl⟩
def fTp (z : CD) : Int × Int := (fT .f64 z.1, fT .f64 z.2)
theorem fTp_of {a b : Int} (ha : smZ a) (hb : smZ b) : fTp (cpxI a b) = (a, b) := by
  show (fT .f64 (floatOfInt .f64 a), fT .f64 (floatOfInt .f64 b)) = _
  rw [fT64 ha, fT64 hb]
@[reducible] def sParts2 : Spec := { pats := [.dat C128], res := [{ t := I64 }, { t := I64 }], pre := fun x => whC x.1, f := fun x => ((fTp x.1).1, (fTp x.1).2, ()) }
theorem h100 : Ok 100 sParts2 := by
  refine mk (ctr := []) trivial (nt := 10) Tryz.func100 rfl rfl rfl rfl (by kernel_rfl) (by kernel_rfl) (fun _ => []) ?_
  rintro ⟨⟨(x : Nat), (y : Nat)⟩, ⟨⟩⟩ ⟨⟨a, ha, (ea : x = _)⟩, b, hb, (eb : y = _)⟩
  have h1 := f2i64 ha
  have h2 := f2i64 hb
  rw [← ea] at h1
  rw [← eb] at h2
  have q1 : (fTp (x, y)).1 = a := by show fT .f64 x = a; rw [ea]; exact fT64 ha
  have q2 : (fTp (x, y)).2 = b := by show fT .f64 y = b; rw [eb]; exact fT64 hb
  repeat' (intro hzz; (try (rename Two => hq; cases hq)); (try dsimp only at hzz); (try simp only [resTy, argTy, eqD, inR, big, wantOf, zB] at hzz); (try simp only [resTy, argTy, eqD, inR, big, wantOf, zB, h1, h2, Option.getD_some, Option.isSome_some, q1, q2] at hzz); (try (revert hzz; intro _)))
  all_goals try (rename Unit => hq; clear hq)
  all_goals try ((with_reducible refine Held.mk ?_); (with_reducible (first | refine Frz.mk ?_ | refine And.intro (Frz.mk ?_) ?_ | refine And.intro ?_ (Frz.mk ?_))); repeat' first | exact True.intro | (change _ = _; with_reducible rfl) | refine And.intro ?_ ?_ | (with_reducible refine Frz.mk ?_))
  all_goals try (refine Held.mk ?_; (try dsimp only at *); (try simp only [resTy, argTy, eqD, inR, big, wantOf, zB] at *); (try simp only [resTy, argTy, eqD, inR, big, wantOf, zB, h1, h2, Option.getD_some, Option.isSome_some, q1, q2] at *))
@[reducible] def sParts3 : Spec := { sParts2 with res := [{ t := I64 }, { t := I64 }, { t := .bool }], f := fun x => ((fTp x.1).1, (fTp x.1).2, true, ()) }
theorem h35 : Ok 35 sParts3 := by
  refine mk (ctr := [(99, sWhole), (100, sParts2)]) ⟨h99, h100, trivial⟩ (nt := 44) Tryz.func35 rfl rfl rfl rfl (by kernel_rfl) (by kernel_rfl) (fun _ => []) ?_
  rintro ⟨⟨(x : Nat), (y : Nat)⟩, ⟨⟩⟩ hw
  have hw1 : whZ x := hw.1
  have hw2 : whZ y := hw.2
  obtain ⟨⟨a, ha, (ea : x = _)⟩, b, hb, (eb : y = _)⟩ := (hw : whZ x ∧ whZ y)
  have hS := fS_pos .f64
  have key : ∀ (x : Nat) (n : Int), smZ n → x = floatOfInt .f64 n → (FloatKind.f64.format.order x 4786511204640096256 == some .gt) = false ∧ (FloatKind.f64.format.order x 14009883241494872064 == some .lt) = false := fun x n hn e => by
    obtain ⟨hN, hV⟩ := foi64 hn
    have hb : -1000000000 * fS .f64 ≤ n * fS .f64 ∧ n * fS .f64 ≤ 1000000000 * fS .f64 := ⟨Int.mul_le_mul_of_nonneg_right hn.1 (by omega), Int.mul_le_mul_of_nonneg_right hn.2 (by omega)⟩
    rw [e]
    rw [cmp_gt hN c12.1, cmp_lt hN c12.2.1, c12.2.2.1, c12.2.2.2, hV]
    exact ⟨decide_eq_false (by omega), decide_eq_false (by omega)⟩
  obtain ⟨k1, k2⟩ := key x a ha ea
  obtain ⟨k3, k4⟩ := key y b hb eb
  clear key
  repeat' (intro hzz; (try (rename Two => hq; cases hq)); (try dsimp only at hzz); (try simp only [resTy, argTy, eqD, inR, big, wantOf, zB] at hzz); (try simp only [resTy, argTy, eqD, inR, big, wantOf, zB, k1, k2, k3, k4] at hzz); (try (revert hzz; intro _)))
  all_goals try (rename Unit => hq; clear hq)
  all_goals try ((with_reducible refine Held.mk ?_); (with_reducible (first | refine Frz.mk ?_ | refine And.intro (Frz.mk ?_) ?_ | refine And.intro ?_ (Frz.mk ?_))); repeat' first | exact True.intro | (change _ = _; with_reducible rfl) | refine And.intro ?_ ?_ | (with_reducible refine Frz.mk ?_))
  all_goals try (refine Held.mk ?_; (try dsimp only at *); (try simp only [resTy, argTy, eqD, inR, big, wantOf, zB] at *); (try simp only [resTy, argTy, eqD, inR, big, wantOf, zB, k1, k2, k3, k4] at *))
  all_goals first | exact hw1 | exact hw2 | exact ⟨hw1, hw2⟩ | (rename_i h; cases h)
end Go.Eng.Ar

namespace Go.Eng.Ar
open Go.Eng Go.Proofs
set_option linter.all false
set_option maxRecDepth 100000
set_option maxHeartbeats 8000000
theorem sp_of {s : SpkD} (h : inSp s) : spErr s = 0 := by
  unfold spErr
  rw [if_pos (plErr_of h.1)]
  unfold gnErr
  exact if_pos ⟨h.2.1, h.2.2⟩
theorem chkGo_of {xs : List SpkD} : ∀ (k i : Nat), (∀ j, i ≤ j → j < i + k → inSp (spkN xs j)) → chkGo xs k i = (0, 0)
  | 0, _, _ => rfl
  | k + 1, i, h => by
    simp only [chkGo]
    rw [if_pos (sp_of (h i (Nat.le_refl _) (by omega)))]
    exact chkGo_of k (i + 1) fun j h1 h2 => h j (by omega) (by omega)
theorem chk_of {r v : Int} {xs : List SpkD} (h : goodArr r v xs) : (chkA r v xs).2 = 0 := by
  have h1 : soErr r v = 0 := by unfold soErr; exact if_pos h.snd
  have h2 : hdErr r v xs.length = 0 := by
    unfold hdErr
    have := h.pos
    rw [if_pos h1, if_neg (by omega), if_pos h.le]
  unfold chkA
  rw [if_pos h2, chkGo_of xs.length 0 fun j _ hj => h.sp j (by omega)]
theorem seat_ok {xs : List SpkD} {p : PlaceD} (hp : inP p) (h : ∀ i, i < xs.length → 100 ≤ sqP (spkN xs i).1 p) (hs : ∀ i, i < xs.length → inP (spkN xs i).1) : seatE xs p = 0 := by
  unfold seatE
  rw [if_pos (plErr_of hp), if_neg]
  intro hn
  obtain ⟨s, h1, h2⟩ := List.any_eq_true.1 hn
  obtain ⟨i, hi, e⟩ := List.getElem_of_mem h1
  have e2 : spkN xs i = s := by simp [spkN, List.getD, List.getElem?_eq_getElem hi, e]
  have h3 := h i hi
  rw [e2] at h3
  have h4 := hs i hi
  rw [e2] at h4
  have h5 : nearB s.1 p = true := h2
  rw [sqW_near h4 hp] at h5
  have := of_decide_eq_true h5
  omega
theorem good_ok {r v : Int} {xs : List SpkD} {p : PlaceD} (h1 : goodArr r v xs) (hp : inP p) (h : ∀ i, i < xs.length → 100 ≤ sqP (spkN xs i).1 p) : pGood r v xs p :=
  (if_pos (chk_of h1)).trans (seat_ok hp h fun i hi => (h1.sp i hi).1)
end Go.Eng.Ar

namespace Go.Eng.Ar
open Go.Eng Go.Proofs
set_option linter.all false
set_option maxRecDepth 100000
set_option maxHeartbeats 8000000
@[reducible] def sModA : Spec := { pats := [.dat I64, .dat I64], res := [{ t := I64 }], pre := fun x => (0 : Int) < x.2.1 ∧ x.2.1 ≤ (1000000000000000000 : Int), f := fun x => (x.1 % x.2.1, ()) }
theorem h62a : Ok 62 sModA := by
  refine mk (ctr := []) trivial (nt := 14) Tryz.func62 rfl rfl rfl rfl (by kernel_rfl) (by kernel_rfl) (fun _ => []) ?_
  rintro ⟨(n : Int), (b : Int), _⟩ ⟨(h3 : 0 < b), (h4 : b ≤ 1000000000000000000)⟩
  have d1 := Int.emod_nonneg n (show b ≠ 0 by omega)
  have d2 := Int.emod_lt_of_pos n h3
  have d3 : n.tmod b = n % b ∨ (n.tmod b = n % b - b ∧ n.tmod b < 0) := by
    rw [Int.tmod_eq_emod]
    split
    · left; omega
    · rename_i h
      right
      have e : (b.natAbs : Int) = b := by omega
      rw [e]
      omega
  have d4 : n.tmod b = n % b → 0 ≤ n.tmod b := fun h => by omega
  repeat' (intro hzz; (try (rename Two => hq; cases hq)); (try dsimp only at hzz); (try simp only [resTy, argTy, eqD, inR, big, wantOf, zB] at hzz); (try simp only [resTy, argTy, eqD, inR, big, wantOf, zB, pMod] at hzz); (try (revert hzz; intro _)))
  all_goals try (rename Unit => hq; clear hq)
  all_goals try ((with_reducible refine Held.mk ?_); (with_reducible (first | refine Frz.mk ?_ | refine And.intro (Frz.mk ?_) ?_ | refine And.intro ?_ (Frz.mk ?_))); repeat' first | exact True.intro | (change _ = _; with_reducible rfl) | refine And.intro ?_ ?_ | (with_reducible refine Frz.mk ?_))
  all_goals try (refine Held.mk ?_; (try dsimp only at *); (try simp only [resTy, argTy, eqD, inR, big, wantOf, zB] at *); (try simp only [resTy, argTy, eqD, inR, big, wantOf, zB, pMod] at *))
  all_goals omega
def zeroG (s : SpkD) : SpkD := (s.1, 0, s.2.2.1, ())
theorem map_get {f : Nat → SpkD → SpkD} {xs : List SpkD} {i : Nat} (hi : i < xs.length) : spkN (mapTo f xs xs.length) i = f i (spkN xs i) := by
  have e := mapTo_get (f := f) (xs := xs) (k := xs.length) hi
  rw [if_pos hi] at e
  exact e
theorem map_good {r v : Int} {f : Nat → SpkD → SpkD} {xs : List SpkD} {p : PlaceD} (h : pGood r v xs p) (hf : ∀ i, i < xs.length → (f i (spkN xs i)).1 = (spkN xs i).1 ∧ inSp (f i (spkN xs i))) : pGood r v (mapTo f xs xs.length) p := by
  obtain ⟨g1, g2, g3, g4⟩ := good_of h
  refine good_ok ⟨g1.snd, by rw [mapTo_len]; exact g1.pos, by rw [mapTo_len]; exact g1.le, fun i hi => ?_⟩ g2 fun i hi => ?_
  · rw [mapTo_len] at hi
    rw [map_get hi]; exact (hf i hi).2
  · rw [mapTo_len] at hi
    rw [map_get hi, (hf i hi).1]; exact g3 i hi
theorem zeroG_in {s : SpkD} (h : inSp s) : inSp (zeroG s) := ⟨h.1, ⟨Int.le_refl _, (show (0 : Int) ≤ 1000 by decide)⟩, h.2.2⟩
def oneB (k : Int) (i : Nat) (s : SpkD) : SpkD := if (i : Int) = k then s else zeroG s
theorem mute_z {k : Int} {i : Nat} {s : SpkD} : mute k i s = if (i : Int) = k then zeroG s else s := rfl
theorem shr_0 (m : Int) : shr m 0 = (0, 0) := by
  unfold shr
  split
  · rfl
  · split
    · rfl
    · split
      · rfl
      · rfl
theorem giv_0 {r v : Int} {p : PlaceD} {s : SpkD} : giv (rayOf r v p (zeroG s)) = (0, 0) := by
  show shr _ (0 * _) = _
  rw [Int.zero_mul, shr_0]
theorem rv_z {r v : Int} {p : PlaceD} {s : SpkD} (j : Nat) : rv (rayOf r v p (zeroG s)) j = (0, 0) := by
  show shr _ (0 * _) = _
  rw [Int.zero_mul, shr_0]
theorem mn_0 {f : Nat → Int} (h : ∀ j, f j = 0) : ∀ k, mnG f k = 0 ∧ mxG f k = 0
  | 0 => ⟨h 0, h 0⟩
  | k + 1 => by
    have ih := mn_0 h k
    refine ⟨?_, ?_⟩
    · show minI (mnG f k) (f (k + 1)) = 0
      rw [ih.1, h, minI_self]
    · show maxI (mxG f k) (f (k + 1)) = 0
      rw [ih.2, h, maxI_self]
theorem mnS_z {f : Nat → Int} (h : ∀ j, f j = 0) (k : Nat) : mnS f k = 0 ∧ mxS f k = 0 := by
  match k with
  | 0 => exact ⟨mnS_0 f, mxS_0 f⟩
  | k + 1 => rw [mnS_g, mxS_g]; exact mn_0 h k
theorem ray_sum {F : RayD → Int} {r v k : Int} {xs : List SpkD} {p : PlaceD} (hF : ∀ s, F (rayOf r v p (zeroG s)) = 0) :
    sm (fun i => F (rayN (raysA r v xs p) i)) xs.length = sm (fun i => F (rayN (raysA r v (mapTo (mute k) xs xs.length) p) i)) xs.length + sm (fun i => F (rayN (raysA r v (mapTo (oneB k) xs xs.length) p) i)) xs.length := by
  have add : ∀ (f g : Nat → Int) (n : Nat), sm (fun i => f i + g i) n = sm f n + sm g n := fun f g n => by
    induction n with
    | zero => rfl
    | succ n ih => simp only [sm, ih]; omega
  rw [← add]
  refine sm_congr _ fun i hi => ?_
  rw [raysA_get hi, raysA_get (by rw [mapTo_len]; exact hi), raysA_get (by rw [mapTo_len]; exact hi), map_get hi, map_get hi]
  show F (rayOf r v p (spkN xs i)) = F (rayOf r v p (mute k i (spkN xs i))) + F (rayOf r v p (oneB k i (spkN xs i)))
  rw [mute_z]
  unfold oneB
  by_cases e : (i : Int) = k
  · rw [if_pos e, if_pos e, hF]; omega
  · rw [if_neg e, if_neg e, hF]; omega
end Go.Eng.Ar

namespace Go.Eng.Ar
open Go.Eng Go.Proofs
set_option linter.all false
set_option maxRecDepth 100000
set_option maxHeartbeats 8000000
theorem e_all {r v k : Int} {xs : List SpkD} {p : PlaceD} : endT (raysA r v xs p) = ((e0 (raysA r v (mapTo (mute k) xs xs.length) p) xs.length + e0 (raysA r v (mapTo (oneB k) xs xs.length) p) xs.length, e1 (raysA r v (mapTo (mute k) xs xs.length) p) xs.length + e1 (raysA r v (mapTo (oneB k) xs xs.length) p) xs.length, ()), (e2 (raysA r v (mapTo (mute k) xs xs.length) p) xs.length + e2 (raysA r v (mapTo (oneB k) xs xs.length) p) xs.length, e3 (raysA r v (mapTo (mute k) xs xs.length) p) xs.length + e3 (raysA r v (mapTo (oneB k) xs xs.length) p) xs.length, ()), ()) := by
  have z : ∀ s : SpkD, ∀ j, rvR (rayOf r v p (zeroG s)) j = 0 := fun s j => congrArg Prod.fst (rv_z j)
  have z2 : ∀ s : SpkD, ∀ j, rvI (rayOf r v p (zeroG s)) j = 0 := fun s j => congrArg Prod.snd (rv_z j)
  unfold endT
  rw [raysA_len]
  have a0 : e0 (raysA r v xs p) xs.length = _ := ray_sum (F := fun x => (endR x).1.1) (k := k) fun s => (mnS_z (z s) _).1
  have a1 : e1 (raysA r v xs p) xs.length = _ := ray_sum (F := fun x => (endR x).1.2.1) (k := k) fun s => (mnS_z (z s) _).2
  have a2 : e2 (raysA r v xs p) xs.length = _ := ray_sum (F := fun x => (endR x).2.1.1) (k := k) fun s => (mnS_z (z2 s) _).1
  have a3 : e3 (raysA r v xs p) xs.length = _ := ray_sum (F := fun x => (endR x).2.1.2.1) (k := k) fun s => (mnS_z (z2 s) _).2
  rw [a0, a1, a2, a3]; rfl
theorem n_all {r v k : Int} {xs : List SpkD} {p : PlaceD} : n0 (raysA r v xs p) xs.length = n0 (raysA r v (mapTo (mute k) xs xs.length) p) xs.length + n0 (raysA r v (mapTo (oneB k) xs xs.length) p) xs.length ∧ n1 (raysA r v xs p) xs.length = n1 (raysA r v (mapTo (mute k) xs xs.length) p) xs.length + n1 (raysA r v (mapTo (oneB k) xs xs.length) p) xs.length := by
  have z : ∀ s : SpkD, gL (rayOf r v p (zeroG s)) = 0 := fun s => Int.zero_mul _
  have z2 : ∀ s : SpkD, gU (rayOf r v p (zeroG s)) = 0 := fun s => Int.zero_mul _
  exact ⟨ray_sum (F := fun x => gL x * gL x) (k := k) fun s => by rw [z]; rfl, ray_sum (F := fun x => gU x * gU x) (k := k) fun s => by rw [z2]; rfl⟩
theorem p_all {r v k : Int} {xs : List SpkD} {p : PlaceD} : reT (raysA r v xs p) xs.length = reT (raysA r v (mapTo (mute k) xs xs.length) p) xs.length + reT (raysA r v (mapTo (oneB k) xs xs.length) p) xs.length ∧ imT (raysA r v xs p) xs.length = imT (raysA r v (mapTo (mute k) xs xs.length) p) xs.length + imT (raysA r v (mapTo (oneB k) xs xs.length) p) xs.length :=
  ⟨ray_sum (F := fun x => (giv x).1) (k := k) fun s => by rw [giv_0], ray_sum (F := fun x => (giv x).2) (k := k) fun s => by rw [giv_0]⟩
theorem same_self (z : CD) : fSame z z = true := by simp [fSame]
theorem mute_good {r v k : Int} {xs : List SpkD} {p : PlaceD} (h : pGood r v xs p) : pGood r v (mapTo (mute k) xs xs.length) p := map_good h fun i hi => by
  have g := (good_of h).1.sp i hi
  rw [mute_z]; split
  · exact ⟨rfl, zeroG_in g⟩
  · exact ⟨rfl, g⟩
theorem one_good {r v k : Int} {xs : List SpkD} {p : PlaceD} (h : pGood r v xs p) : pGood r v (mapTo (oneB k) xs xs.length) p := map_good h fun i hi => by
  have g := (good_of h).1.sp i hi
  unfold oneB; split
  · exact ⟨rfl, g⟩
  · exact ⟨rfl, zeroG_in g⟩
theorem op_good {r v : Int} {xs : List SpkD} {p : PlaceD} (h : pGood r v xs p) : openR r v xs p = (raysA r v xs p, 0, ()) := if_pos h
structure SumF (r v : Int) (xs W O : List SpkD) (p : PlaceD) : Type where
  p1 : Int
  p2 : Int
  p3 : Int
  p4 : Int
  A : Int × Int × Int × Int
  B : Int × Int × Int × Int
  x0 : Int
  x1 : Int
  y0 : Int
  y1 : Int
  bp1 : smZ p1
  bp2 : smZ p2
  bp3 : smZ p3
  bp4 : smZ p4
  bA : (smZ A.1 ∧ smZ A.2.1) ∧ smZ A.2.2.1 ∧ smZ A.2.2.2
  bB : (smZ B.1 ∧ smZ B.2.1) ∧ smZ B.2.2.1 ∧ smZ B.2.2.2
  bx0 : 0 ≤ x0 ∧ x0 ≤ 80000000000000000
  bx1 : 0 ≤ x1 ∧ x1 ≤ 80000000000000000
  by0 : 0 ≤ y0 ∧ y0 ≤ 80000000000000000
  by1 : 0 ≤ y1 ∧ y1 ≤ 80000000000000000
  e1 : prC (openR r v xs p) = cpxI (p1 + p3) (p2 + p4)
  eW : prC (openR r v W p) = cpxI p1 p2
  eO : prC (openR r v O p) = cpxI p3 p4
  c1 : endC (openR r v xs p) = ((A.1 + B.1, A.2.1 + B.2.1, ()), (A.2.2.1 + B.2.2.1, A.2.2.2 + B.2.2.2, ()), ())
  cW : endC (openR r v W p) = ((A.1, A.2.1, ()), (A.2.2.1, A.2.2.2, ()), ())
  cO : endC (openR r v O p) = ((B.1, B.2.1, ()), (B.2.2.1, B.2.2.2, ()), ())
  n1 : enrC (openR r v xs p) = (x0 + y0, x1 + y1, ())
  nW : enrC (openR r v W p) = (x0, x1, ())
  nO : enrC (openR r v O p) = (y0, y1, ())
theorem smZ_of {a : Int} (h : -800000000 ≤ a ∧ a ≤ 800000000) : smZ a := ⟨by omega, by omega⟩
theorem bd4 {a b c d : Int} (h : (-800000000 ≤ a ∧ a ≤ b ∧ b ≤ 800000000) ∧ (-800000000 ≤ c ∧ c ≤ d ∧ d ≤ 800000000)) : (smZ a ∧ smZ b) ∧ smZ c ∧ smZ d := ⟨⟨⟨by omega, by omega⟩, ⟨by omega, by omega⟩⟩, ⟨by omega, by omega⟩, ⟨by omega, by omega⟩⟩
theorem sum_facts {r v k : Int} {xs : List SpkD} {p : PlaceD} (hc : pGood r v xs p) : Nonempty (SumF r v xs (mapTo (mute k) xs xs.length) (mapTo (oneB k) xs xs.length) p) := by
  have gW : pGood r v (mapTo (mute k) xs xs.length) p := mute_good hc
  have gO : pGood r v (mapTo (oneB k) xs xs.length) p := one_good hc
  have hl8 := (good_of hc).1.le
  have hWl : (mapTo (mute k) xs xs.length).length = xs.length := mapTo_len
  have hOl : (mapTo (oneB k) xs xs.length).length = xs.length := mapTo_len
  have y1 := (raysA_good gW).2
  have y2 := (raysA_good gO).2
  rw [hWl] at y1
  rw [hOl] at y2
  have z1 := reT_bd (L := raysA r v (mapTo (mute k) xs xs.length) p) (k := xs.length) y1 hl8
  have z2 := reT_bd (L := raysA r v (mapTo (oneB k) xs xs.length) p) (k := xs.length) y2 hl8
  have z3 := en_bd (L := raysA r v (mapTo (mute k) xs xs.length) p) (k := xs.length) y1 hl8
  have z4 := en_bd (L := raysA r v (mapTo (oneB k) xs xs.length) p) (k := xs.length) y2 hl8
  have z5 := ng_bd (L := raysA r v (mapTo (mute k) xs xs.length) p) (k := xs.length) y1 hl8
  have z6 := ng_bd (L := raysA r v (mapTo (oneB k) xs xs.length) p) (k := xs.length) y2 hl8
  refine ⟨⟨reT (raysA r v (mapTo (mute k) xs xs.length) p) xs.length, imT (raysA r v (mapTo (mute k) xs xs.length) p) xs.length, reT (raysA r v (mapTo (oneB k) xs xs.length) p) xs.length, imT (raysA r v (mapTo (oneB k) xs xs.length) p) xs.length,
    (e0 (raysA r v (mapTo (mute k) xs xs.length) p) xs.length, e1 (raysA r v (mapTo (mute k) xs xs.length) p) xs.length, e2 (raysA r v (mapTo (mute k) xs xs.length) p) xs.length, e3 (raysA r v (mapTo (mute k) xs xs.length) p) xs.length),
    (e0 (raysA r v (mapTo (oneB k) xs xs.length) p) xs.length, e1 (raysA r v (mapTo (oneB k) xs xs.length) p) xs.length, e2 (raysA r v (mapTo (oneB k) xs xs.length) p) xs.length, e3 (raysA r v (mapTo (oneB k) xs xs.length) p) xs.length),
    n0 (raysA r v (mapTo (mute k) xs xs.length) p) xs.length, n1 (raysA r v (mapTo (mute k) xs xs.length) p) xs.length, n0 (raysA r v (mapTo (oneB k) xs xs.length) p) xs.length, n1 (raysA r v (mapTo (oneB k) xs xs.length) p) xs.length,
    smZ_of z1.1, smZ_of z1.2, smZ_of z2.1, smZ_of z2.2, bd4 z3, bd4 z4,
    z5.1, z5.2, z6.1, z6.2, ?_, ?_, ?_, ?_, ?_, ?_, ?_, ?_, ?_⟩⟩
  · rw [op_good hc]; unfold prC; rw [if_pos rfl, raysA_len, (p_all (k := k)).1, (p_all (k := k)).2]
  · rw [op_good gW]; unfold prC; rw [if_pos rfl, raysA_len, hWl]
  · rw [op_good gO]; unfold prC; rw [if_pos rfl, raysA_len, hOl]
  · rw [op_good hc]; exact (if_pos rfl).trans (e_all (k := k))
  · rw [op_good gW]; refine (if_pos rfl).trans ?_; unfold endT; rw [raysA_len, hWl]
  · rw [op_good gO]; refine (if_pos rfl).trans ?_; unfold endT; rw [raysA_len, hOl]
  · rw [op_good hc]; refine (if_pos rfl).trans ?_; rw [raysA_len, (n_all (k := k)).1, (n_all (k := k)).2]
  · rw [op_good gW]; refine (if_pos rfl).trans ?_; rw [raysA_len, hWl]
  · rw [op_good gO]; refine (if_pos rfl).trans ?_; rw [raysA_len, hOl]
def suAnn (xs : List SpkD) (s : Int) : LoopAnn := { σ := Nat, pat := fun j => [sI 13 j, .row 17 53 SpkT (mapTo (oneB (s % xs.length)) xs j)], inv := fun j => j ≤ xs.length, meas := fun j => xs.length - j }
abbrev cSu : List (Nat × Spec) := [(14, sAwake), (26, sCopy), (27, sMuted), (34, sPress), (35, sParts3), (46, sSame), (47, sEndsAt), (49, sNum), (57, sEnergy), (62, sModA)]
theorem cSu_ok : All cSu := ⟨h14, h26, h27, h34, h35, h46, h47, h49, h57, h62a, trivial⟩
@[reducible] def sSums : Spec := { pats := [.dat ArrT, .dat PlaceT, .dat I64, .gw 3 .err, .gw 4 .err, .gw 2 PowT, .gw 1 I64], res := [{ t := .bool }], pre := fun x => x.2.2.2.2.2.1 = powD, f := fun _ => (true, ()) }
theorem oneB_set {k : Int} {xs : List SpkD} {j : Nat} (hj : j < xs.length) (he : ¬ (j : Int) = k) : (mapTo (oneB k) xs j).set j (((mapTo (oneB k) xs j).getD j spkZ).1, 0, ((mapTo (oneB k) xs j).getD j spkZ).2.2) = mapTo (oneB k) xs (j + 1) := by
  rw [mapTo_get hj, if_neg (Nat.lt_irrefl _), ← mapTo_set hj]
  unfold oneB
  rw [if_neg he]; rfl
theorem exitJ {n j : Nat} (h : j ≤ n) (hz : (n : Int) ≤ (j : Int)) : j = n := by omega
theorem hLaw11 : Ok 11 sSums := by
  refine mkI (sp := sSums) (c := (cfg xF4 cSu 0).withInl [(26, w26)]) (withInl_ok (fun nt => cfgOk (X := xF4) True.intro (ctr := cSu) cSu_ok) mixed ok26) (nt := 261) Tryz.func11 rfl rfl rfl rfl (by kernel_rfl) (by kernel_rfl) (fun x => [fun _ => suAnn x.1.2.2.1 x.2.2.1]) ?_
  rintro ⟨⟨(r : Int), (v : Int), (xs : List SpkD), ⟨⟩⟩, ⟨(pa : Int), (pb : Int), (pc : Int), ⟨⟩⟩, (s : Int), (b0 : Bool), (b1 : Bool), (pw : PowT.Den), (m : Int), ⟨⟩⟩ (hpw : pw = powD)
  by_cases hl : 0 < xs.length ∧ xs.length ≤ 8
  · obtain ⟨hl1, hl8⟩ := hl
    have hl1' : ¬ (xs.length : Int) = 0 := by omega
    have hl8' : ¬ (8 : Int) < xs.length := by omega
    have hp' : Hid (pLen xs.length) := by show (xs.length : Int) ≤ 4611686018427387904; omega
    have hp2' : Hid (pTen xs.length) := by show xs.length ≤ 1000; omega
    by_cases hc : opErr r v xs (pa, pb, pc, ()) = 0
    · obtain ⟨k, hk⟩ : ∃ k, s % (xs.length : Int) = k := ⟨_, rfl⟩
      have hk1 : 0 ≤ k ∧ k < xs.length := ⟨hk ▸ Int.emod_nonneg s (by omega), hk ▸ Int.emod_lt_of_pos s (by omega)⟩
      have hm : mutR r v xs k = ((r, v, mapTo (mute k) xs xs.length, ()), 0, ()) := by
        have : mutErr r v xs k = 0 := by
          have h1 : (chkA r v xs).2 = 0 := by
            unfold opErr at hc
            split at hc
            · assumption
            · rename_i h1; exact absurd hc h1
          exact (if_pos h1).trans (if_pos (by omega))
        unfold mutR; rw [this]; rfl
      have gW : pGood r v (mapTo (mute k) xs xs.length) (pa, pb, pc, ()) := mute_good hc
      have gO : pGood r v (mapTo (oneB k) xs xs.length) (pa, pb, pc, ()) := one_good hc
      have hWl : (mapTo (mute k) xs xs.length).length = xs.length := mapTo_len
      have hOl : (mapTo (oneB k) xs xs.length).length = xs.length := mapTo_len
      obtain ⟨F⟩ := sum_facts (k := k) hc
      obtain ⟨p1, p2, p3, p4, A, B, x0, x1, y0, y1, bp1, bp2, bp3, bp4, bA, bB, bx0, bx1, by0, by1, e1, eW, eO, c1, cW, cO, n1, nW, nO⟩ := F
      have f1 := fTp_of bp1 bp2
      have f2 := fTp_of bp3 bp4
      have w1 : Hid (whC (cpxI p1 p2)) := whC_of bp1 bp2
      have w2 : Hid (whC (cpxI p3 p4)) := whC_of bp3 bp4
      have oW : opErr r v (mapTo (mute k) xs xs.length) (pa, pb, pc, ()) = 0 := gW
      have oO : opErr r v (mapTo (oneB k) xs xs.length) (pa, pb, pc, ()) = 0 := gO
      clear gW gO
      have hWp : Hid (pLen (mapTo (mute k) xs xs.length).length) := by rw [hWl]; exact hp'
      have hOp : Hid (pLen (mapTo (oneB k) xs xs.length).length) := by rw [hOl]; exact hp'
      have hWp2 : Hid (pTen (mapTo (mute k) xs xs.length).length) := by rw [hWl]; exact hp2'
      have hOp2 : Hid (pTen (mapTo (oneB k) xs xs.length).length) := by rw [hOl]; exact hp2'
      have hMd : Hid ((0 : Int) < xs.length ∧ (xs.length : Int) ≤ 1000000000000000000) := ⟨by omega, by omega⟩
      generalize hW : mapTo (mute k) xs xs.length = W at *
      have st1 : ∀ j : Nat, j < xs.length → ¬ (j : Int) = k → (mapTo (oneB (s % xs.length)) xs j).set j (((mapTo (oneB (s % xs.length)) xs j).getD j spkZ).1, 0, ((mapTo (oneB (s % xs.length)) xs j).getD j spkZ).2.2) = mapTo (oneB (s % xs.length)) xs (j + 1) := fun j h1 h2 => by rw [hk]; exact oneB_set h1 h2
      have st2 : ∀ j : Nat, (j : Int) = k → mapTo (oneB (s % xs.length)) xs (j + 1) = mapTo (oneB (s % xs.length)) xs j := fun j h2 => by rw [hk]; exact mapTo_noset (if_pos h2)
      repeat' (intro hzz; (try (rename Two => hq; cases hq)); (try dsimp only at hzz); (try simp only [resTy, argTy, eqD, inR, big, wantOf, zB] at hzz); (try simp only [resTy, argTy, eqD, inR, big, wantOf, zB, hl1', hl8', hk, hc, hm, oW, oO, e1, eW, eO, c1, cW, cO, n1, nW, nO, f1, f2, hpw, List.nil_append, List.length_nil, Nat.zero_add, same_self, not_true_eq_false, not_false_eq_true] at hzz); (try (have hej := exitJ (by assumption) hzz; subst hej)); (try (revert hzz; intro _)))
      all_goals try (rename Unit => hq; clear hq)
      all_goals try ((with_reducible refine Held.mk ?_); (with_reducible (first | refine Frz.mk ?_ | refine And.intro (Frz.mk ?_) ?_ | refine And.intro ?_ (Frz.mk ?_))); repeat' first | exact True.intro | (change _ = _; with_reducible rfl) | refine And.intro ?_ ?_ | (with_reducible refine Frz.mk ?_))
      all_goals try (refine Held.mk ?_; (try dsimp only at *); (try simp only [resTy, argTy, eqD, inR, big, wantOf, zB] at *); (try simp only [resTy, argTy, eqD, inR, big, wantOf, zB, hl1', hl8', hk, hc, hm, oW, oO, e1, eW, eO, c1, cW, cO, n1, nW, nO, f1, f2, hpw, List.nil_append, List.length_nil, Nat.zero_add, same_self, not_true_eq_false, not_false_eq_true] at *))
      all_goals try omega
      all_goals try first | exact hp' | exact hMd | exact hp2' | exact hWp | exact hOp | exact hWp2 | exact hOp2 | exact w1 | exact w2 | (show xs.length ≤ 2147483648; omega) | (show 0 + xs.length ≤ 2147483648; omega) | (show (mapTo _ xs xs.length).length ≤ 2147483648; rw [mapTo_len]; omega) | (show 0 + (mapTo _ xs xs.length).length ≤ 2147483648; rw [mapTo_len]; omega) | (show 0 + W.length ≤ 2147483648; rw [hWl]; omega)
      ·
        refine GHeld.mk ?_
        refine Exists.intro (0 : Nat) ?_
        refine And.intro (Leaf.mk ?_) ?_
        · repeat' first | exact True.intro | refine And.intro ?_ ?_
          all_goals try ((change _ = _ <;> try dsimp only) <;> try with_reducible rfl)
          all_goals try omega
          all_goals (first | rfl | exact mapTo_0.symm | exact mapTo_0)
        exact Nat.zero_le _
      · refine ⟨Int.natCast_nonneg _, ?_⟩
        rw [mapTo_len]; assumption
      · rename_i j hj hlt hne
        have hj' : j < xs.length := Int.ofNat_lt.1 hlt
        have e3 := st1 j hj' hne
        refine GHeld.mk ?_
        refine Exists.intro (j + 1) ?_
        refine And.intro (Leaf.mk ?_) ?_
        · repeat' first | exact True.intro | refine And.intro ?_ ?_
          all_goals try ((change _ = _ <;> try dsimp only) <;> try with_reducible rfl)
          all_goals try omega
          all_goals (first | rfl | exact e3 | exact e3.symm)
        exact ⟨(show j + 1 ≤ xs.length by omega), (show xs.length - (j + 1) < xs.length - j by omega)⟩
      · rename_i j hj hlt heq
        have hj' : j < xs.length := Int.ofNat_lt.1 hlt
        have e4 := st2 j heq
        refine GHeld.mk ?_
        refine Exists.intro (j + 1) ?_
        refine And.intro (Leaf.mk ?_) ?_
        · repeat' first | exact True.intro | refine And.intro ?_ ?_
          all_goals try ((change _ = _ <;> try dsimp only) <;> try with_reducible rfl)
          all_goals try omega
          all_goals (first | rfl | exact e4 | exact e4.symm)
        exact ⟨(show j + 1 ≤ xs.length by omega), (show xs.length - (j + 1) < xs.length - j by omega)⟩
      all_goals first | exact mapTo_len.symm | exact mapTo_len | exact fun _ => mapTo_len.symm | exact fun _ => mapTo_len
    · have e1 : prC (openR r v xs (pa, pb, pc, ())) = (0, 0) := by rw [show openR r v xs (pa, pb, pc, ()) = ([], opErr r v xs (pa, pb, pc, ()), ()) from if_neg hc]; exact if_neg hc
      repeat' (intro hzz; (try (rename Two => hq; cases hq)); (try dsimp only at hzz); (try simp only [resTy, argTy, eqD, inR, big, wantOf, zB] at hzz); (try simp only [resTy, argTy, eqD, inR, big, wantOf, zB, hl1', hl8', hc, e1, hpw, List.nil_append, List.length_nil, Nat.zero_add, same_self, not_true_eq_false, not_false_eq_true] at hzz); (try (revert hzz; intro _)))
      all_goals try (rename Unit => hq; clear hq)
      all_goals try ((with_reducible refine Held.mk ?_); (with_reducible (first | refine Frz.mk ?_ | refine And.intro (Frz.mk ?_) ?_ | refine And.intro ?_ (Frz.mk ?_))); repeat' first | exact True.intro | (change _ = _; with_reducible rfl) | refine And.intro ?_ ?_ | (with_reducible refine Frz.mk ?_))
      all_goals try (refine Held.mk ?_; (try dsimp only at *); (try simp only [resTy, argTy, eqD, inR, big, wantOf, zB] at *); (try simp only [resTy, argTy, eqD, inR, big, wantOf, zB, hl1', hl8', hc, e1, hpw, List.nil_append, List.length_nil, Nat.zero_add, same_self, not_true_eq_false, not_false_eq_true] at *))
      all_goals try omega
      all_goals try first | exact hp' | exact hp2' | (show 0 + xs.length ≤ 2147483648; omega) | (show xs.length ≤ 2147483648; omega)
  · by_cases hz : (xs.length : Int) = 0
    · have hX : Hid True := trivial
      repeat' (intro hzz; (try (rename Two => hq; cases hq)); (try dsimp only at hzz); (try simp only [resTy, argTy, eqD, inR, big, wantOf, zB] at hzz); (try simp only [resTy, argTy, eqD, inR, big, wantOf, zB, hz, hpw] at hzz); (try (first | contradiction | (exfalso; omega))); (try (revert hzz; intro _)))
      all_goals try (rename Unit => hq; clear hq)
      all_goals try ((with_reducible refine Held.mk ?_); (with_reducible (first | refine Frz.mk ?_ | refine And.intro (Frz.mk ?_) ?_ | refine And.intro ?_ (Frz.mk ?_))); repeat' first | exact True.intro | (change _ = _; with_reducible rfl) | refine And.intro ?_ ?_ | (with_reducible refine Frz.mk ?_))
      all_goals try (refine Held.mk ?_; (try dsimp only at *); (try simp only [resTy, argTy, eqD, inR, big, wantOf, zB] at *); (try simp only [resTy, argTy, eqD, inR, big, wantOf, zB, hz, hpw] at *))
      all_goals try omega
    · have hz2 : (8 : Int) < xs.length := by omega
      repeat' (intro hzz; (try (rename Two => hq; cases hq)); (try dsimp only at hzz); (try simp only [resTy, argTy, eqD, inR, big, wantOf, zB] at hzz); (try simp only [resTy, argTy, eqD, inR, big, wantOf, zB, hz, hz2, hpw] at hzz); (try (first | contradiction | (exfalso; omega))); (try (revert hzz; intro _)))
      all_goals try (rename Unit => hq; clear hq)
      all_goals try ((with_reducible refine Held.mk ?_); (with_reducible (first | refine Frz.mk ?_ | refine And.intro (Frz.mk ?_) ?_ | refine And.intro ?_ (Frz.mk ?_))); repeat' first | exact True.intro | (change _ = _; with_reducible rfl) | refine And.intro ?_ ?_ | (with_reducible refine Frz.mk ?_))
      all_goals try (refine Held.mk ?_; (try dsimp only at *); (try simp only [resTy, argTy, eqD, inR, big, wantOf, zB] at *); (try simp only [resTy, argTy, eqD, inR, big, wantOf, zB, hz, hz2, hpw] at *))
      all_goals try omega
end Go.Eng.Ar

