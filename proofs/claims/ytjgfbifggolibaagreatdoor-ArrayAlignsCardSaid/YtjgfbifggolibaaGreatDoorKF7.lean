/- Texts A23 F0 F1 F2 A24 W6, as far as they are used. Conditions: each lemma's own. -/
import Derived.Test.YtjgfbifggolibaaGreatDoorKF6
namespace Go.Eng.Ar
open Go.Eng Go.Proofs
set_option linter.all false
set_option maxRecDepth 100000
set_option maxHeartbeats 8000000
noncomputable def w26 : InlF := { nt := 9, np := 1, body := bodyOf Tryz.f26, rs := [.cell 2 41], anns := [] }
theorem ok26 : InlOk Tryz.prog [(26, w26)] := one_ok Tryz.func26 rfl rfl rfl (by kernel_rfl) (by kernel_rfl) rfl (by kernel_rfl)
def arAnn0 (r v : Int) (xs : List SpkD) (p : PlaceD) : LoopAnn := { σ := Nat, pat := fun k => [sI 7 k, sI 6 (lstN r v xs p k)], inv := fun k => k ≤ xs.length, meas := fun k => xs.length - k }
def arAnn1 (r v : Int) (xs : List SpkD) (p : PlaceD) : LoopAnn := { σ := Nat, pat := fun k => [sI 9 k, .row 11 53 SpkT (mapTo (alS (lstN r v xs p xs.length) r v p) xs k)], inv := fun k => k ≤ xs.length ∧ ∀ j, j < k → bigD (alS (lstN r v xs p xs.length) r v p j (spkN xs j)) = false, meas := fun k => xs.length - k }
def alG (r v : Int) (xs : List SpkD) (p : PlaceD) : ArrD × Int × Unit := if List.any (alL r v xs p) bigD = true then ((0, 0, ([] : List SpkD), ()), 8, ()) else ((r, v, alL r v xs p, ()), 0, ())
@[reducible] def sAlignR : Spec := { pats := [.dat ArrT, .dat PlaceT], res := [{ t := ArrT }, { t := I64 }], pre := fun x => pGood x.1.1 x.1.2.1 x.1.2.2.1 x.2.1, f := fun x => alG x.1.1 x.1.2.1 x.1.2.2.1 x.2.1 }
theorem h33 : Ok 33 sAlignR := by
  refine mkI (sp := sAlignR) (c := (cfg {} [(23, sNumsR), (91, sSoundOf)] 0).withInl [(26, w26)]) (withInl_ok (fun nt => cfgOk (X := {}) True.intro (ctr := [(23, sNumsR), (91, sSoundOf)]) ⟨h23, h91, trivial⟩) mixed ok26) (nt := 63) Tryz.func33 rfl rfl rfl rfl (by kernel_rfl) (by kernel_rfl) (fun x => [fun _ => arAnn0 x.1.1 x.1.2.1 x.1.2.2.1 x.2.1, fun _ => arAnn1 x.1.1 x.1.2.1 x.1.2.2.1 x.2.1]) ?_
  rintro ⟨⟨(r : Int), (v : Int), (xs : List SpkD), ⟨⟩⟩, ⟨(pa : Int), (pb : Int), (pc : Int), ⟨⟩⟩, ⟨⟩⟩ (hc : pGood r v xs (pa, pb, pc, ()))
  obtain ⟨g1, g2, g3, g4⟩ := good_of hc
  have hl8 := g1.le
  have hnum : ∀ k, k < xs.length → 0 ≤ numL r v (pa, pb, pc, ()) (spkN xs k) ∧ numL r v (pa, pb, pc, ()) (spkN xs k) ≤ 1000000000 := fun k hk => (g4 k hk).n
  have hlst : ∀ k, k ≤ xs.length → 0 ≤ lstN r v xs (pa, pb, pc, ()) k ∧ lstN r v xs (pa, pb, pc, ()) k ≤ 1000000000 := fun k hk => mxZ_bd (by decide) fun i hi => hnum i (by omega)
  have hmem : ∀ j, j < xs.length → bigD (alS (lstN r v xs (pa, pb, pc, ()) xs.length) r v (pa, pb, pc, ()) j (spkN xs j)) = true → List.any (alL r v xs (pa, pb, pc, ())) bigD = true := fun j hj hb => by
    refine List.any_eq_true.2 ⟨_, ?_, hb⟩
    have e := mapTo_get (f := alS (lstN r v xs (pa, pb, pc, ()) xs.length) r v (pa, pb, pc, ())) (xs := xs) (k := xs.length) hj
    rw [if_pos hj] at e
    rw [← e]
    have hl : j < (alL r v xs (pa, pb, pc, ())).length := by unfold alL; rw [mapTo_len]; exact hj
    show (alL r v xs (pa, pb, pc, ())).getD j spkZ ∈ _
    rw [List.getD_eq_getElem?_getD, List.getElem?_eq_getElem hl]; exact List.getElem_mem hl
  have hno : (∀ j, j < xs.length → bigD (alS (lstN r v xs (pa, pb, pc, ()) xs.length) r v (pa, pb, pc, ()) j (spkN xs j)) = false) → List.any (alL r v xs (pa, pb, pc, ())) bigD = false := fun h => by
    refine List.any_eq_false.2 fun s hs => ?_
    obtain ⟨j, hj, rfl⟩ := tab_mem hs
    show ¬ bigD (if j < xs.length then alS (lstN r v xs (pa, pb, pc, ()) xs.length) r v (pa, pb, pc, ()) j (spkN xs j) else spkN xs j) = true
    rw [if_pos hj, h j hj]; decide
  repeat' (intro hzz; (try (rename Two => hq; cases hq)); (try dsimp only at hzz); (try simp only [resTy, argTy, eqD, inR, big, wantOf, zB] at hzz); (try simp only [resTy, argTy, eqD, inR, big, wantOf, zB, Int.toNat_natCast, List.nil_append] at hzz); (try (revert hzz; intro _)))
  all_goals try (rename Unit => hq; clear hq)
  all_goals try ((with_reducible refine Held.mk ?_); (with_reducible (first | refine Frz.mk ?_ | refine And.intro (Frz.mk ?_) ?_ | refine And.intro ?_ (Frz.mk ?_))); repeat' first | exact True.intro | (change _ = _; with_reducible rfl) | refine And.intro ?_ ?_ | (with_reducible refine Frz.mk ?_))
  all_goals try (refine Held.mk ?_; (try dsimp only at *); (try simp only [resTy, argTy, eqD, inR, big, wantOf, zB] at *); (try simp only [resTy, argTy, eqD, inR, big, wantOf, zB, Int.toNat_natCast, List.nil_append] at *))
  all_goals try omega
  · 
    refine GHeld.mk ?_
    refine Exists.intro (0 : Nat) ?_
    refine And.intro (Leaf.mk ?_) ?_
    · repeat' first | exact True.intro | refine And.intro ?_ ?_
      all_goals try ((change _ = _ <;> try dsimp only) <;> try with_reducible rfl)
      all_goals try omega
      all_goals (rfl)
    exact Nat.zero_le _
  · rename_i k hk hlt
    exact ⟨⟨(g1.sp k (by omega)).1, g2⟩, g1.snd⟩
  · rename_i k hk hlt
    refine GHeld.mk ?_
    refine Exists.intro (k + 1) ?_
    refine And.intro (Leaf.mk ?_) ?_
    · repeat' first | exact True.intro | refine And.intro ?_ ?_
      all_goals try ((change _ = _ <;> try dsimp only) <;> try with_reducible rfl)
      all_goals try omega
      all_goals (rfl)
    exact ⟨(show k + 1 ≤ xs.length by omega), (show xs.length - (k + 1) < xs.length - k by omega)⟩
  · show 0 + xs.length ≤ 2147483648; omega
  · rename_i k hk hlt
    refine GHeld.mk ?_
    refine Exists.intro (0 : Nat) ?_
    refine And.intro (Leaf.mk ?_) ?_
    · repeat' first | exact True.intro | refine And.intro ?_ ?_
      all_goals try ((change _ = _ <;> try dsimp only) <;> try with_reducible rfl)
      all_goals try omega
      all_goals (first | rfl | exact mapTo_0.symm | exact mapTo_0)
    exact ⟨Nat.zero_le _, fun j hj => absurd hj (Nat.not_lt_zero _)⟩
  · rename_i k hk hlt j hj hjl
    exact ⟨⟨(g1.sp j (by omega)).1, g2⟩, g1.snd⟩
  · rename_i k hk hlt j hj hjl
    have q1 := hlst k hk
    have q2 := hnum j (by omega)
    show -9223372036854775808 ≤ lstN r v xs (pa, pb, pc, ()) k - numL r v (pa, pb, pc, ()) (spkN xs j) ∧ lstN r v xs (pa, pb, pc, ()) k - numL r v (pa, pb, pc, ()) (spkN xs j) ≤ 9223372036854775807
    omega
  · rename_i k hk hlt j hj hjl h
    rw [show k = xs.length by omega] at h
    have e : alG r v xs (pa, pb, pc, ()) = ((0, 0, ([] : List SpkD), ()), 8, ()) := if_pos (hmem j (by omega) (decide_eq_true h))
    rw [e]; exact ⟨⟨rfl, rfl, rfl⟩, rfl⟩
  · rename_i k hk hlt j hj hjl h
    rw [mapTo_len]; omega
  · rename_i k hk hlt j hj hjl h
    have ek : k = xs.length := by omega
    subst ek
    have e3 : (mapTo (alS (lstN r v xs (pa, pb, pc, ()) xs.length) r v (pa, pb, pc, ())) xs j).set j (((mapTo (alS (lstN r v xs (pa, pb, pc, ()) xs.length) r v (pa, pb, pc, ())) xs j).getD j spkZ).1, ((mapTo (alS (lstN r v xs (pa, pb, pc, ()) xs.length) r v (pa, pb, pc, ())) xs j).getD j spkZ).2.1, lstN r v xs (pa, pb, pc, ()) xs.length - numL r v (pa, pb, pc, ()) (spkN xs j), ()) = mapTo (alS (lstN r v xs (pa, pb, pc, ()) xs.length) r v (pa, pb, pc, ())) xs (j + 1) := by
      rw [mapTo_get (by omega), if_neg (Nat.lt_irrefl _), ← mapTo_set (by omega)]; rfl
    refine GHeld.mk ?_
    refine Exists.intro (j + 1) ?_
    refine And.intro (Leaf.mk ?_) ?_
    · repeat' first | exact True.intro | refine And.intro ?_ ?_
      all_goals try ((change _ = _ <;> try dsimp only) <;> try with_reducible rfl)
      all_goals try omega
      all_goals (first | rfl | exact e3)
    refine ⟨⟨(show j + 1 ≤ xs.length by omega), fun i hi => ?_⟩, (show xs.length - (j + 1) < xs.length - j by omega)⟩
    by_cases e : i = j
    · subst e; exact decide_eq_false (Int.not_lt.2 h)
    · exact hj.2 i (by omega)
  all_goals try exact mapTo_len.symm
  all_goals try exact mapTo_len
  · rename_i k hk hlt j hj hjl
    have ej : j = xs.length := by omega
    subst ej
    have e : alG r v xs (pa, pb, pc, ()) = ((r, v, alL r v xs (pa, pb, pc, ()), ()), 0, ()) := if_neg (by rw [hno hj.2]; decide)
    rw [e]; exact ⟨⟨rfl, rfl, rfl⟩, rfl⟩
end Go.Eng.Ar

namespace Go.Eng.Ar
open Go Go.Eng Ieee
set_option linter.all false
set_option maxRecDepth 100000
set_option maxHeartbeats 8000000
theorem cut_exact (neg : Bool) (n d : Nat) (h : n % 2 ^ d = 0) (hd : d ≤ n.log2 + 2) : Toward.even.cut neg n d = n / 2 ^ d := by
  unfold Toward.cut
  simp only [Nat.min_eq_left hd, Nat.one_shiftLeft, h]
  have h0 : 0 < 2 ^ d := Nat.two_pow_pos d
  have e1 : decide (2 ^ d < 2 * 0) = false := by simp
  have e2 : (2 ^ d == 2 * 0) = false := by simp
  rw [e1, e2]
  simp
theorem log2_mul_pow (m j : Nat) (hm : m ≠ 0) : (m * 2 ^ j).log2 = m.log2 + j := by
  have h0 : 0 < 2 ^ j := Nat.two_pow_pos j
  have hne : m * 2 ^ j ≠ 0 := Nat.mul_ne_zero hm (by omega)
  have a1 := (Nat.log2_lt (k := m.log2 + j + 1) hne).2 (by
    have := Nat.lt_log2_self (n := m)
    rw [show m.log2 + j + 1 = (m.log2 + 1) + j by omega, Nat.pow_add]
    exact Nat.mul_lt_mul_of_pos_right this h0)
  have a2 : ¬ (m * 2 ^ j).log2 < m.log2 + j := fun h => by
    have h1 := (Nat.log2_lt hne).1 h
    have h2 := Nat.log2_self_le hm
    rw [Nat.pow_add] at h1
    have := Nat.mul_le_mul_right (2 ^ j) h2
    omega
  omega
theorem nearest_read (f : Format) (neg : Bool) (m j : Nat) (place : Int) (he : 2 ≤ f.exponentBits) (hm : m ≠ 0) (h1 : m.log2 ≤ f.fractionBits) (h2 : f.leastPlace ≤ place + j)
    (h3 : place + j + m.log2 + 3 ≤ f.leastPlace + f.fractionBits + 2 ^ f.exponentBits) : ∃ (k : Nat) (i : Int), f.read (f.nearest neg (m * 2 ^ j) place) = .number neg k i ∧ f.leastPlace ≤ i ∧ i ≤ place + j ∧ k = m * 2 ^ (place + j - i).toNat := by
  have hne : m * 2 ^ j ≠ 0 := Nat.mul_ne_zero hm (by have := Nat.two_pow_pos j; omega)
  have hl := log2_mul_pow m j hm
  unfold Format.nearest
  rw [if_neg hne, hl]
  simp only []
  generalize hL : max (place + ((m.log2 + j : Nat) : Int) - f.fractionBits) f.leastPlace = last
  have hL1 : f.leastPlace ≤ last := by omega
  have hL2 : last ≤ place + j := by omega
  have hk : Toward.even.cut neg ((m * 2 ^ j) <<< (place - last).toNat) (last - place).toNat = m * 2 ^ (place + j - last).toNat := by
    rw [Nat.shiftLeft_eq]
    by_cases hp : last ≤ place
    · rw [show (last - place).toNat = 0 by omega, cut_exact _ _ _ (by simp [Nat.mod_one]) (by omega), Nat.pow_zero, Nat.div_one, Nat.mul_assoc, ← Nat.pow_add]
      congr 2; omega
    · rw [show (place - last).toNat = 0 by omega, Nat.pow_zero, Nat.mul_one]
      have hd : (last - place).toNat ≤ j := by omega
      have e : m * 2 ^ j = m * 2 ^ (j - (last - place).toNat) * 2 ^ (last - place).toNat := by rw [Nat.mul_assoc, ← Nat.pow_add]; congr 2; omega
      rw [cut_exact _ _ _ (by rw [e]; exact Nat.mul_mod_left _ _) (by rw [hl]; omega)]
      rw [e, Nat.mul_div_cancel _ (Nat.two_pow_pos _)]
      congr 2; omega
  rw [hk]
  generalize hK : m * 2 ^ (place + j - last).toNat = kept
  have hB : f.binade = 2 ^ f.fractionBits := rfl
  have hB0 : 0 < f.binade := Nat.two_pow_pos _
  have hk0 : kept ≠ 0 := by rw [← hK]; exact Nat.mul_ne_zero hm (by have := Nat.two_pow_pos (place + j - last).toNat; omega)
  have hkl : kept.log2 = m.log2 + (place + j - last).toNat := by rw [← hK]; exact log2_mul_pow _ _ hm
  have hk2 : kept < 2 * f.binade := by
    rw [hB, Nat.mul_comm, ← Nat.pow_succ]
    exact (Nat.log2_lt hk0).1 (by rw [hkl]; omega)
  have hrung : (last - f.leastPlace).toNat * f.binade + kept < f.infRung := by
    unfold Format.infRung
    have h2e := Nat.two_pow_pos f.exponentBits
    have hc : (((2 : Nat) ^ f.exponentBits : Nat) : Int) = 2 ^ f.exponentBits := by simp
    have : (last - f.leastPlace).toNat + 2 ≤ 2 ^ f.exponentBits - 1 := by
      by_cases hq : last = f.leastPlace
      · have : 2 ^ 2 ≤ 2 ^ f.exponentBits := Nat.pow_le_pow_right (by omega) he
        omega
      · omega
    have := Nat.mul_le_mul_right f.binade this
    rw [Nat.add_mul] at this
    omega
  rw [Nat.min_eq_left (by omega)]
  have hw : ∀ r, r < f.signWeight → f.word neg r % f.signWeight = r ∧ (f.word neg r / f.signWeight % 2 == 1) = neg := by
    intro r hr
    unfold Format.word
    cases neg with
    | false => exact ⟨Nat.mod_eq_of_lt hr, by rw [if_neg (by simp), Nat.div_eq_of_lt hr]; rfl⟩
    | true =>
      rw [if_pos rfl, Nat.add_mod_left, Nat.mod_eq_of_lt hr, Nat.add_div_left _ (by omega), Nat.div_eq_of_lt hr]
      exact ⟨rfl, rfl⟩
  have hsw : f.infRung < f.signWeight := f.infRung_lt
  obtain ⟨w1, w2⟩ := hw _ (show (last - f.leastPlace).toNat * f.binade + kept < f.signWeight by omega)
  unfold Format.read
  simp only [w1, w2]
  by_cases hq : last = f.leastPlace
  · have e0 : (last - f.leastPlace).toNat = 0 := by omega
    rw [e0, Nat.zero_mul, Nat.zero_add]
    by_cases hb : kept < f.binade
    · rw [if_pos hb]
      exact ⟨kept, f.leastPlace, rfl, Int.le_refl _, h2, by rw [← hK, hq]⟩
    · rw [if_neg hb, if_pos (by rw [e0, Nat.zero_mul, Nat.zero_add] at hrung; exact hrung)]
      have d1 : kept / f.binade = 1 := Nat.div_eq_of_lt_le (by omega) (by omega)
      have d2 : kept % f.binade = kept - f.binade := by rw [Nat.mod_eq_sub_mod (by omega), Nat.mod_eq_of_lt (by omega)]
      refine ⟨f.binade + kept % f.binade, f.leastPlace + (kept / f.binade - 1 : Nat), rfl, by omega, by rw [d1]; simpa using h2, ?_⟩
      rw [d1, d2, show f.binade + (kept - f.binade) = kept by omega, ← hK, hq]
      simp
  · have hlast : last = place + ((m.log2 + j : Nat) : Int) - f.fractionBits := by omega
    have hbk : f.binade ≤ kept := by
      rw [hB]
      have := Nat.log2_self_le hk0
      rwa [hkl, show m.log2 + (place + j - last).toNat = f.fractionBits by omega] at this
    have hpos : 1 ≤ (last - f.leastPlace).toNat := by omega
    have hmul := Nat.mul_le_mul_right f.binade hpos
    rw [if_neg (by omega), if_pos hrung]
    have d1 : ((last - f.leastPlace).toNat * f.binade + kept) / f.binade = (last - f.leastPlace).toNat + 1 := by
      rw [Nat.mul_comm, Nat.mul_add_div hB0, Nat.div_eq_of_lt_le (m := kept) (k := 1) (by omega) (by omega)]
    have d2 : ((last - f.leastPlace).toNat * f.binade + kept) % f.binade = kept - f.binade := by
      rw [Nat.mul_comm, Nat.mul_add_mod, Nat.mod_eq_sub_mod (by omega), Nat.mod_eq_of_lt (by omega)]
    refine ⟨_, _, rfl, by omega, ?_, ?_⟩
    · rw [d1]; omega
    · rw [d1, d2, show f.binade + (kept - f.binade) = kept by omega, ← hK]
      congr 2; omega
/-! ### Numbers, scaled -/
theorem signed_add (s : Bool) (m a b : Nat) : signed s m (a + b) = signed s m a * 2 ^ b := by
  unfold signed
  have e : ((m <<< (a + b) : Nat) : Int) = ((m <<< a : Nat) : Int) * 2 ^ b := by
    rw [Nat.shiftLeft_eq, Nat.shiftLeft_eq, Nat.pow_add, ← Nat.mul_assoc, Int.natCast_mul, Int.natCast_pow]; rfl
  cases s
  · simp only [Bool.false_eq_true, if_false]; exact e
  · simp only [if_true]; rw [e, Int.neg_mul]
def dv (f : Format) : Datum → Int
  | .number s m i => signed s m (i - f.leastPlace).toNat
  | _ => 0
def isN : Datum → Bool
  | .number .. => true
  | _ => false
theorem isN_ex {d : Datum} (h : isN d = true) : ∃ s m i, d = .number s m i := by
  cases d with
  | number s m i => exact ⟨s, m, i, rfl⟩
  | _ => cases h
theorem read_in (f : Format) (x : Nat) {s : Bool} {m : Nat} {i : Int} (h : f.read x = .number s m i) : m < 2 * f.binade ∧ f.leastPlace ≤ i ∧ i + 3 ≤ f.leastPlace + 2 ^ f.exponentBits ∨ m < f.binade ∧ i = f.leastPlace := by
  unfold Format.read at h
  simp only [] at h
  have hB0 : 0 < f.binade := Nat.two_pow_pos _
  split at h
  · rename_i h1
    cases h
    exact .inr ⟨h1, rfl⟩
  · rename_i h1
    split at h
    · rename_i h2
      cases h
      left
      have hm := Nat.mod_lt (x % f.signWeight) hB0
      have hd : x % f.signWeight / f.binade < 2 ^ f.exponentBits - 1 := by
        rw [Nat.div_lt_iff_lt_mul hB0]; exact h2
      have hc : (((2 : Nat) ^ f.exponentBits : Nat) : Int) = 2 ^ f.exponentBits := by simp
      have hd1 : 1 ≤ x % f.signWeight / f.binade := (Nat.one_le_div_iff hB0).2 (by omega)
      refine ⟨by omega, by omega, by omega⟩
    · split at h <;> cases h
theorem read_log (f : Format) (x : Nat) {s : Bool} {m : Nat} {i : Int} (he : 2 ≤ f.exponentBits) (h : f.read x = .number s m i) : f.leastPlace ≤ i ∧ m < 2 * f.binade ∧ (m ≠ 0 → m.log2 ≤ f.fractionBits ∧ i + m.log2 + 3 ≤ f.leastPlace + f.fractionBits + 2 ^ f.exponentBits) := by
  have hB : f.binade = 2 ^ f.fractionBits := rfl
  have key : m < 2 * f.binade → m ≠ 0 → m.log2 ≤ f.fractionBits := fun h1 h2 => by
    have : m.log2 < f.fractionBits + 1 := (Nat.log2_lt h2).2 (by rw [Nat.pow_succ, Nat.mul_comm, ← hB]; exact h1)
    omega
  have hp : 2 ^ 2 ≤ 2 ^ f.exponentBits := Nat.pow_le_pow_right (by omega) he
  have hc : (((2 : Nat) ^ f.exponentBits : Nat) : Int) = 2 ^ f.exponentBits := by simp
  rcases read_in f x h with ⟨h1, h2, h3⟩ | ⟨h1, h2⟩
  · refine ⟨h2, h1, fun h0 => ?_⟩
    have := key h1 h0
    omega
  · refine ⟨by omega, by omega, fun h0 => ?_⟩
    have := key (by omega) h0
    omega
theorem compare_mul (a b c : Int) (h : 0 < c) : compare (a * c) (b * c) = compare a b := by
  simp only [compare, compareOfLessAndEq]
  by_cases h1 : a < b
  · rw [if_pos h1, if_pos (Int.mul_lt_mul_of_pos_right h1 h)]
  · rw [if_neg h1, if_neg (fun hh => h1 (Int.lt_of_mul_lt_mul_right hh (by omega)))]
    by_cases h2 : a = b
    · rw [if_pos h2, if_pos (by rw [h2])]
    · rw [if_neg h2, if_neg (fun hh => h2 (Int.eq_of_mul_eq_mul_right (by omega) hh))]
theorem order_num (f : Format) {x y : Nat} {s t : Bool} {m n : Nat} {i j : Int} (hx : f.read x = .number s m i) (hy : f.read y = .number t n j) (he : 2 ≤ f.exponentBits) :
    f.order x y = some (compare (dv f (f.read x)) (dv f (f.read y))) := by
  have h1 := (read_log f x he hx).1
  have h2 := (read_log f y he hy).1
  unfold Format.order
  rw [hx, hy]
  simp only [Datum.order, dv]
  rw [show (i - f.leastPlace).toNat = (i - min i j).toNat + (min i j - f.leastPlace).toNat by omega, show (j - f.leastPlace).toNat = (j - min i j).toNat + (min i j - f.leastPlace).toNat by omega, signed_add, signed_add, compare_mul _ _ _ (Int.pow_pos (by omega))]
/-! ### Numbers made whole -/
theorem cut_zero (neg : Bool) (n d : Nat) : Toward.zero.cut neg n d = n / 2 ^ d := by
  unfold Toward.cut
  simp only [Nat.one_shiftLeft, Bool.toNat_false, Nat.add_zero]
  by_cases hd : d ≤ n.log2 + 2
  · rw [Nat.min_eq_left hd]
  · rw [Nat.min_eq_right (by omega)]
    have h1 : n < 2 ^ (n.log2 + 2) := Nat.lt_of_lt_of_le (Nat.lt_log2_self) (Nat.pow_le_pow_right (by omega) (by omega))
    have h2 : n < 2 ^ d := Nat.lt_of_lt_of_le h1 (Nat.pow_le_pow_right (by omega) (by omega))
    rw [Nat.div_eq_of_lt h1, Nat.div_eq_of_lt h2]
def scF (f : Format) : Nat := (-f.leastPlace).toNat
def sg (s : Bool) (n : Nat) : Int := if s then -(n : Int) else n
theorem signed_sg (s : Bool) (m a : Nat) : signed s m a = sg s (m * 2 ^ a) := by
  unfold signed sg
  rw [Nat.shiftLeft_eq]
theorem sg_tdiv (s : Bool) (a b : Nat) : (sg s a).tdiv (b : Int) = sg s (a / b) := by
  unfold sg
  cases s
  · simp only [Bool.false_eq_true, if_false]; rw [Int.tdiv_eq_ediv_of_nonneg (by omega)]; rfl
  · simp only [if_true]; rw [Int.neg_tdiv, Int.tdiv_eq_ediv_of_nonneg (by omega)]; rfl
def tru (f : Format) (m : Nat) (i : Int) : Nat := m * 2 ^ i.toNat / 2 ^ (-i).toNat
theorem toInt_num (f : Format) (s : Bool) (m : Nat) (i : Int) : (Datum.number s m i).toInt .zero = some (sg s (tru f m i)) := by
  unfold Datum.toInt Datum.integral
  simp only [cut_zero, signed_sg, Nat.shiftLeft_eq, Nat.pow_zero, Nat.mul_one, tru]
theorem tru_dv (f : Format) {s : Bool} {m : Nat} {i : Int} (h0 : f.leastPlace ≤ 0) (hi : f.leastPlace ≤ i) : sg s (tru f m i) = (dv f (.number s m i)).tdiv ((2 ^ scF f : Nat) : Int) := by
  show sg s (tru f m i) = (signed s m (i - f.leastPlace).toNat).tdiv ((2 ^ scF f : Nat) : Int)
  rw [signed_sg, sg_tdiv]
  congr 1
  unfold tru scF
  by_cases hp : 0 ≤ i
  · rw [show (-i).toNat = 0 by omega, Nat.pow_zero, Nat.div_one, show (i - f.leastPlace).toNat = i.toNat + (-f.leastPlace).toNat by omega, Nat.pow_add, ← Nat.mul_assoc, Nat.mul_div_cancel _ (Nat.two_pow_pos _)]
  · rw [show i.toNat = 0 by omega, Nat.pow_zero, Nat.mul_one, show (-f.leastPlace).toNat = (-i).toNat + (i - f.leastPlace).toNat by omega, Nat.pow_add, Nat.mul_div_mul_right _ _ (Nat.two_pow_pos _)]
end Go.Eng.Ar

namespace Go.Eng.Ar
open Go Go.Eng Ieee
set_option linter.all false
set_option maxRecDepth 100000
set_option maxHeartbeats 8000000
theorem fmt_exp (k : FloatKind) : 2 ≤ k.format.exponentBits := by cases k <;> decide
theorem fmt_lp (k : FloatKind) : k.format.leastPlace ≤ 0 := by cases k <;> decide
def fN (k : FloatKind) (x : Nat) : Bool := isN (k.format.read x)
def fV (k : FloatKind) (x : Nat) : Int := dv k.format (k.format.read x)
def fS (k : FloatKind) : Int := ((2 ^ scF k.format : Nat) : Int)
def fT (k : FloatKind) (x : Nat) : Int := (fV k x).tdiv (fS k)
theorem fS_pos (k : FloatKind) : 0 < fS k := by
  have := Nat.two_pow_pos (scF k.format)
  unfold fS; omega
theorem fN_ex {k : FloatKind} {x : Nat} (h : fN k x = true) : ∃ s m i, k.format.read x = .number s m i := isN_ex h
theorem order_eq {k : FloatKind} {x y : Nat} (hx : fN k x = true) (hy : fN k y = true) : k.format.order x y = some (compare (fV k x) (fV k y)) := by
  obtain ⟨s, m, i, e1⟩ := fN_ex hx
  obtain ⟨t, n, j, e2⟩ := fN_ex hy
  exact order_num k.format e1 e2 (fmt_exp k)
theorem cmp_lt {k : FloatKind} {x y : Nat} (hx : fN k x = true) (hy : fN k y = true) : (k.format.order x y == some .lt) = decide (fV k x < fV k y) := by
  rw [order_eq hx hy]
  simp only [compare, compareOfLessAndEq]
  by_cases h : fV k x < fV k y
  · simp [h]
  · rw [if_neg h]; split <;> simp [h]
theorem cmp_eq {k : FloatKind} {x y : Nat} (hx : fN k x = true) (hy : fN k y = true) : (k.format.order x y == some .eq) = decide (fV k x = fV k y) := by
  rw [order_eq hx hy]
  simp only [compare, compareOfLessAndEq]
  by_cases h : fV k x < fV k y
  · rw [if_pos h]; simp; omega
  · rw [if_neg h]; split <;> rename_i h2 <;> simp [h2]
theorem cmp_gt {k : FloatKind} {x y : Nat} (hx : fN k x = true) (hy : fN k y = true) : (k.format.order x y == some .gt) = decide (fV k y < fV k x) := by
  rw [order_eq hx hy]
  simp only [compare, compareOfLessAndEq]
  by_cases h : fV k x < fV k y
  · rw [if_pos h]; simp; omega
  · rw [if_neg h]; split <;> rename_i h2 <;> simp <;> omega
theorem sub_num {k : FloatKind} {x : Nat} (h : fN k x = true) : k.format.sub x x = some 0 := by
  obtain ⟨s, m, i, e⟩ := fN_ex h
  unfold Format.sub
  rw [e]
  simp only [Datum.opposite, Datum.sum, Option.map_some]
  have e0 : signed s m (i - min i i).toNat + signed (!s) m (i - min i i).toNat = 0 := by
    unfold signed
    cases s <;> simp <;> omega
  rw [e0]
  cases s <;> simp [Format.write, Format.nearest, Format.word]
theorem f2i_fT {k : FloatKind} {x : Nat} (h : fN k x = true) (h1 : -9223372036854775808 ≤ fT k x) (h2 : fT k x ≤ 9223372036854775807) : floatToIntVal k x .i64 = some (fT k x) := by
  obtain ⟨s, m, i, e⟩ := fN_ex h
  have hi := (read_log k.format x (fmt_exp k) e).1
  have ht : fT k x = sg s (tru k.format m i) := by
    unfold fT fV fS
    rw [e]
    exact (tru_dv k.format (fmt_lp k) hi).symm
  unfold floatToIntVal
  show (match (k.format.read x).toInt .zero with | some n => if IntKind.i64.min ≤ n ∧ n ≤ IntKind.i64.max then some n else none | none => none) = _
  rw [e, toInt_num k.format]
  simp only []
  rw [← ht, if_pos ⟨h1, h2⟩]
end Go.Eng.Ar

namespace Go.Eng.Ar
open Go.Eng Go.Proofs
set_option linter.all false
set_option maxRecDepth 100000
set_option maxHeartbeats 8000000
abbrev smZ (n : Int) : Prop := -1000000000 ≤ n ∧ n ≤ 1000000000
theorem foi64 {n : Int} (h : smZ n) : fN .f64 (floatOfInt .f64 n) = true ∧ fV .f64 (floatOfInt .f64 n) = n * fS .f64 := by
  obtain ⟨h1, h2⟩ := h
  by_cases h0 : n = 0
  · subst h0; decide +kernel
  · have hm : n.natAbs ≠ 0 := by omega
    have hl : n.natAbs.log2 ≤ 29 := by
      have : n.natAbs.log2 < 30 := (Nat.log2_lt hm).2 (by omega)
      omega
    have l32 : FloatKind.f64.format.leastPlace = -1074 := by decide
    have b32 : FloatKind.f64.format.fractionBits = 52 := by decide
    have e32 : FloatKind.f64.format.exponentBits = 11 := by decide
    obtain ⟨q, l, g1, g2, g3, g4⟩ := nearest_read FloatKind.f64.format (decide (n < 0)) n.natAbs 0 0 (fmt_exp .f64) hm (by rw [b32]; omega) (by rw [l32]; omega) (by rw [l32, b32, e32]; omega)
    rw [Nat.pow_zero, Nat.mul_one] at g1
    have hw : floatOfInt .f64 n = FloatKind.f64.format.nearest (decide (n < 0)) n.natAbs 0 := rfl
    rw [hw]
    unfold fN fV
    rw [g1]
    refine ⟨rfl, ?_⟩
    show Ieee.signed _ q (l - FloatKind.f64.format.leastPlace).toNat = _
    rw [l32] at g2 ⊢
    rw [signed_sg, g4, Nat.mul_assoc, ← Nat.pow_add]
    have e : ((0 : Int) + (0 : Nat) - l).toNat + (l - -1074).toNat = 1074 := by omega
    rw [e]
    have hs : fS .f64 = ((2 ^ 1074 : Nat) : Int) := by decide +kernel
    rw [hs]
    generalize (2 : Nat) ^ 1074 = C
    unfold sg
    by_cases hn : n < 0
    · rw [if_pos (by simp; exact hn), Int.natCast_mul, show ((n.natAbs : Nat) : Int) = -n by omega, Int.neg_mul, Int.neg_neg]
    · rw [if_neg (by simp; omega), Int.natCast_mul, show ((n.natAbs : Nat) : Int) = n by omega]
theorem fT64 {n : Int} (h : smZ n) : fT .f64 (floatOfInt .f64 n) = n := by
  unfold fT
  rw [(foi64 h).2]
  exact Int.mul_tdiv_cancel _ (by have := fS_pos .f64; omega)
theorem f2i64 {n : Int} (h : smZ n) : floatToIntVal .f64 (floatOfInt .f64 n) .i64 = some n := by
  have := f2i_fT (foi64 h).1 (by rw [fT64 h]; omega) (by rw [fT64 h]; omega)
  rw [fT64 h] at this; exact this
theorem zz64 : (FloatKind.f64.format.order 0 0 != some .eq) = false := by decide
theorem bne_of {α : Type} [BEq α] {a b : α} (h : (a == b) = true) : (a != b) = false := by simp [bne, h]
theorem c64 : fN .f64 14069741636278059008 = true ∧ fN .f64 4846369599423283200 = true ∧ fV .f64 14069741636278059008 = -(10000000000000000 * fS .f64) ∧ fV .f64 4846369599423283200 = 10000000000000000 * fS .f64 := by decide +kernel
theorem c12 : fN .f64 4786511204640096256 = true ∧ fN .f64 14009883241494872064 = true ∧ fV .f64 4786511204640096256 = 1000000000000 * fS .f64 ∧ fV .f64 14009883241494872064 = -(1000000000000 * fS .f64) := by decide +kernel
def whZ (x : Nat) : Prop := ∃ n : Int, smZ n ∧ x = floatOfInt .f64 n
@[reducible] def sWhole : Spec := { pats := [.dat F64], res := [{ t := .bool }], pre := fun x => whZ x.1, f := fun _ => (true, ()) }
theorem h99 : Ok 99 sWhole := by
  refine mk (ctr := []) trivial (nt := 24) Tryz.func99 rfl rfl rfl rfl (by kernel_rfl) (by kernel_rfl) (fun _ => []) ?_
  rintro ⟨(x : Nat), ⟨⟩⟩ ⟨n, hn, rfl⟩
  obtain ⟨hN, hV⟩ := foi64 hn
  have hT := f2i64 hn
  have hS := fS_pos .f64
  obtain ⟨x, hx⟩ : ∃ x, floatOfInt .f64 n = x := ⟨_, rfl⟩
  rw [hx] at hN hV hT
  have o1 := bne_of (show (FloatKind.f64.format.order x x == some .eq) = true by rw [cmp_eq hN hN]; simp)
  have s1 := sub_num hN
  have g1 := cmp_gt hN c64.1
  have g1e := cmp_eq hN c64.1
  have g2 := cmp_lt hN c64.2.1
  have g2e := cmp_eq hN c64.2.1
  have g3 : (FloatKind.f64.format.order x x == some .eq) = true := by rw [cmp_eq hN hN]; simp
  have hb : -1000000000 * fS .f64 ≤ n * fS .f64 ∧ n * fS .f64 ≤ 1000000000 * fS .f64 := ⟨Int.mul_le_mul_of_nonneg_right hn.1 (by omega), Int.mul_le_mul_of_nonneg_right hn.2 (by omega)⟩
  rw [c64.2.2.1, hV] at g1 g1e
  rw [c64.2.2.2, hV] at g2 g2e
  have w1 : (decide (-(10000000000000000 * fS .f64) < n * fS .f64) || decide (n * fS .f64 = -(10000000000000000 * fS .f64))) = true := by
    rw [decide_eq_true (by omega)]; rfl
  have w2 : (decide (n * fS .f64 < 10000000000000000 * fS .f64) || decide (n * fS .f64 = 10000000000000000 * fS .f64)) = true := by
    rw [decide_eq_true (by omega)]; rfl
  rw [← g1, ← g1e] at w1
  rw [← g2, ← g2e] at w2
  have z := zz64
  rw [hx]
  clear g1 g1e g2 g2e hb
  repeat' (intro hzz; (try (rename Two => hq; cases hq)); (try dsimp only at hzz); (try simp only [resTy, argTy, eqD, inR, big, wantOf, zB] at hzz); (try simp only [resTy, argTy, eqD, inR, big, wantOf, zB, o1, s1, w1, w2, hT, hx, g3, z, Option.getD_some, Option.isSome_some] at hzz); (try (revert hzz; intro _)))
  all_goals try (rename Unit => hq; clear hq)
  all_goals try ((with_reducible refine Held.mk ?_); (with_reducible (first | refine Frz.mk ?_ | refine And.intro (Frz.mk ?_) ?_ | refine And.intro ?_ (Frz.mk ?_))); repeat' first | exact True.intro | (change _ = _; with_reducible rfl) | refine And.intro ?_ ?_ | (with_reducible refine Frz.mk ?_))
  all_goals try (refine Held.mk ?_; (try dsimp only at *); (try simp only [resTy, argTy, eqD, inR, big, wantOf, zB] at *); (try simp only [resTy, argTy, eqD, inR, big, wantOf, zB, o1, s1, w1, w2, hT, hx, g3, z, Option.getD_some, Option.isSome_some] at *))
  all_goals (rename_i h; cases h)
def whC (z : CD) : Prop := whZ z.1 ∧ whZ z.2
theorem whC_of {a b : Int} (ha : smZ a) (hb : smZ b) : whC (cpxI a b) := ⟨⟨a, ha, rfl⟩, b, hb, rfl⟩
def fTp (z : CD) : Int × Int := (fT .f64 z.1, fT .f64 z.2)
theorem fTp_of {a b : Int} (ha : smZ a) (hb : smZ b) : fTp (cpxI a b) = (a, b) := by
  show (fT .f64 (floatOfInt .f64 a), fT .f64 (floatOfInt .f64 b)) = _
  rw [fT64 ha, fT64 hb]
@[reducible] def sParts2 : Spec := { pats := [.dat C128], res := [{ t := I64 }, { t := I64 }], pre := fun x => whC x.1, f := fun x => ((fTp x.1).1, (fTp x.1).2, ()) }
theorem h100 : Ok 100 sParts2 := by
  refine mk (ctr := []) trivial (nt := 10) Tryz.func100 rfl rfl rfl rfl (by kernel_rfl) (by kernel_rfl) (fun _ => []) ?_
  rintro ⟨⟨(x : Nat), (y : Nat)⟩, ⟨⟩⟩ ⟨⟨a, ha, (ea : x = _)⟩, b, hb, (eb : y = _)⟩
  have h1 := f2i64 ha
  have h2 := f2i64 hb
  rw [← ea] at h1
  rw [← eb] at h2
  have q1 : (fTp (x, y)).1 = a := by show fT .f64 x = a; rw [ea]; exact fT64 ha
  have q2 : (fTp (x, y)).2 = b := by show fT .f64 y = b; rw [eb]; exact fT64 hb
  repeat' (intro hzz; (try (rename Two => hq; cases hq)); (try dsimp only at hzz); (try simp only [resTy, argTy, eqD, inR, big, wantOf, zB] at hzz); (try simp only [resTy, argTy, eqD, inR, big, wantOf, zB, h1, h2, Option.getD_some, Option.isSome_some, q1, q2] at hzz); (try (revert hzz; intro _)))
  all_goals try (rename Unit => hq; clear hq)
  all_goals try ((with_reducible refine Held.mk ?_); (with_reducible (first | refine Frz.mk ?_ | refine And.intro (Frz.mk ?_) ?_ | refine And.intro ?_ (Frz.mk ?_))); repeat' first | exact True.intro | (change _ = _; with_reducible rfl) | refine And.intro ?_ ?_ | (with_reducible refine Frz.mk ?_))
  all_goals try (refine Held.mk ?_; (try dsimp only at *); (try simp only [resTy, argTy, eqD, inR, big, wantOf, zB] at *); (try simp only [resTy, argTy, eqD, inR, big, wantOf, zB, h1, h2, Option.getD_some, Option.isSome_some, q1, q2] at *))
@[reducible] def sParts3 : Spec := { sParts2 with res := [{ t := I64 }, { t := I64 }, { t := .bool }], f := fun x => ((fTp x.1).1, (fTp x.1).2, true, ()) }
theorem h35 : Ok 35 sParts3 := by
  refine mk (ctr := [(99, sWhole), (100, sParts2)]) ⟨h99, h100, trivial⟩ (nt := 44) Tryz.func35 rfl rfl rfl rfl (by kernel_rfl) (by kernel_rfl) (fun _ => []) ?_
  rintro ⟨⟨(x : Nat), (y : Nat)⟩, ⟨⟩⟩ hw
  have hw1 : whZ x := hw.1
  have hw2 : whZ y := hw.2
  obtain ⟨⟨a, ha, (ea : x = _)⟩, b, hb, (eb : y = _)⟩ := (hw : whZ x ∧ whZ y)
  have hS := fS_pos .f64
  have key : ∀ (x : Nat) (n : Int), smZ n → x = floatOfInt .f64 n → (FloatKind.f64.format.order x 4786511204640096256 == some .gt) = false ∧ (FloatKind.f64.format.order x 14009883241494872064 == some .lt) = false := fun x n hn e => by
    obtain ⟨hN, hV⟩ := foi64 hn
    have hb : -1000000000 * fS .f64 ≤ n * fS .f64 ∧ n * fS .f64 ≤ 1000000000 * fS .f64 := ⟨Int.mul_le_mul_of_nonneg_right hn.1 (by omega), Int.mul_le_mul_of_nonneg_right hn.2 (by omega)⟩
    rw [e]
    rw [cmp_gt hN c12.1, cmp_lt hN c12.2.1, c12.2.2.1, c12.2.2.2, hV]
    exact ⟨decide_eq_false (by omega), decide_eq_false (by omega)⟩
  obtain ⟨k1, k2⟩ := key x a ha ea
  obtain ⟨k3, k4⟩ := key y b hb eb
  clear key
  repeat' (intro hzz; (try (rename Two => hq; cases hq)); (try dsimp only at hzz); (try simp only [resTy, argTy, eqD, inR, big, wantOf, zB] at hzz); (try simp only [resTy, argTy, eqD, inR, big, wantOf, zB, k1, k2, k3, k4] at hzz); (try (revert hzz; intro _)))
  all_goals try (rename Unit => hq; clear hq)
  all_goals try ((with_reducible refine Held.mk ?_); (with_reducible (first | refine Frz.mk ?_ | refine And.intro (Frz.mk ?_) ?_ | refine And.intro ?_ (Frz.mk ?_))); repeat' first | exact True.intro | (change _ = _; with_reducible rfl) | refine And.intro ?_ ?_ | (with_reducible refine Frz.mk ?_))
  all_goals try (refine Held.mk ?_; (try dsimp only at *); (try simp only [resTy, argTy, eqD, inR, big, wantOf, zB] at *); (try simp only [resTy, argTy, eqD, inR, big, wantOf, zB, k1, k2, k3, k4] at *))
  all_goals first | exact hw1 | exact hw2 | exact ⟨hw1, hw2⟩ | (rename_i h; cases h)
end Go.Eng.Ar

namespace Go.Eng.Ar
open Go.Eng Go.Proofs
set_option linter.all false
set_option maxRecDepth 100000
set_option maxHeartbeats 8000000
theorem sp_of {s : SpkD} (h : inSp s) : spErr s = 0 := by
  unfold spErr
  rw [if_pos (plErr_of h.1)]
  unfold gnErr
  exact if_pos ⟨h.2.1, h.2.2⟩
theorem chkGo_of {xs : List SpkD} : ∀ (k i : Nat), (∀ j, i ≤ j → j < i + k → inSp (spkN xs j)) → chkGo xs k i = (0, 0)
  | 0, _, _ => rfl
  | k + 1, i, h => by
    simp only [chkGo]
    rw [if_pos (sp_of (h i (Nat.le_refl _) (by omega)))]
    exact chkGo_of k (i + 1) fun j h1 h2 => h j (by omega) (by omega)
theorem chk_of {r v : Int} {xs : List SpkD} (h : goodArr r v xs) : (chkA r v xs).2 = 0 := by
  have h1 : soErr r v = 0 := by unfold soErr; exact if_pos h.snd
  have h2 : hdErr r v xs.length = 0 := by
    unfold hdErr
    have := h.pos
    rw [if_pos h1, if_neg (by omega), if_pos h.le]
  unfold chkA
  rw [if_pos h2, chkGo_of xs.length 0 fun j _ hj => h.sp j (by omega)]
theorem seat_ok {xs : List SpkD} {p : PlaceD} (hp : inP p) (h : ∀ i, i < xs.length → 100 ≤ sqP (spkN xs i).1 p) (hs : ∀ i, i < xs.length → inP (spkN xs i).1) : seatE xs p = 0 := by
  unfold seatE
  rw [if_pos (plErr_of hp), if_neg]
  intro hn
  obtain ⟨s, h1, h2⟩ := List.any_eq_true.1 hn
  obtain ⟨i, hi, e⟩ := List.getElem_of_mem h1
  have e2 : spkN xs i = s := by simp [spkN, List.getD, List.getElem?_eq_getElem hi, e]
  have h3 := h i hi
  rw [e2] at h3
  have h4 := hs i hi
  rw [e2] at h4
  have h5 : nearB s.1 p = true := h2
  rw [sqW_near h4 hp] at h5
  have := of_decide_eq_true h5
  omega
theorem good_ok {r v : Int} {xs : List SpkD} {p : PlaceD} (h1 : goodArr r v xs) (hp : inP p) (h : ∀ i, i < xs.length → 100 ≤ sqP (spkN xs i).1 p) : pGood r v xs p :=
  (if_pos (chk_of h1)).trans (seat_ok hp h fun i hi => (h1.sp i hi).1)
theorem al_len {r v : Int} {xs : List SpkD} {p : PlaceD} : (alL r v xs p).length = xs.length := mapTo_len
theorem al_get {r v : Int} {xs : List SpkD} {p : PlaceD} {i : Nat} (hi : i < xs.length) : spkN (alL r v xs p) i = ((spkN xs i).1, (spkN xs i).2.1, lstN r v xs p xs.length - numL r v p (spkN xs i), ()) := by
  have e := mapTo_get (f := alS (lstN r v xs p xs.length) r v p) (xs := xs) (k := xs.length) hi
  rw [if_pos hi] at e
  exact e
theorem mxZ_congr {f g : Nat → Int} : ∀ {n : Nat}, (∀ i, i < n → f i = g i) → mxZ f n = mxZ g n
  | 0, _ => rfl
  | n + 1, h => by simp only [mxZ]; rw [mxZ_congr fun i hi => h i (by omega), h n (by omega)]
theorem al_num {r v : Int} {xs : List SpkD} {p : PlaceD} {i : Nat} (hi : i < xs.length) : numL r v p (spkN (alL r v xs p) i) = numL r v p (spkN xs i) := by
  rw [al_get hi]; rfl
theorem al_lst {r v : Int} {xs : List SpkD} {p : PlaceD} {k : Nat} (hk : k ≤ xs.length) : lstN r v (alL r v xs p) p k = lstN r v xs p k := mxZ_congr fun i hi => al_num (by omega)
theorem al_again {r v : Int} {xs : List SpkD} {p : PlaceD} : alL r v (alL r v xs p) p = alL r v xs p := by
  unfold alL mapTo
  rw [tab_len]
  refine tab_congr _ fun i hi => ?_
  rw [if_pos hi, if_pos hi]
  show alS (lstN r v (alL r v xs p) p xs.length) r v p i (spkN (alL r v xs p) i) = alS (lstN r v xs p xs.length) r v p i (spkN xs i)
  unfold alS
  rw [al_lst (Nat.le_refl _), al_num hi, al_get hi]
theorem al_big {r v : Int} {xs : List SpkD} {p : PlaceD} (h : List.any (alL r v xs p) bigD = false) {i : Nat} (hi : i < xs.length) : lstN r v xs p xs.length - numL r v p (spkN xs i) ≤ 10000 := by
  have hl : i < (alL r v xs p).length := by rw [al_len]; exact hi
  have e : spkN (alL r v xs p) i ∈ alL r v xs p := by
    have : spkN (alL r v xs p) i = (alL r v xs p)[i] := by simp [spkN, List.getD, List.getElem?_eq_getElem hl]
    rw [this]; exact List.getElem_mem hl
  have := List.any_eq_false.1 h _ e
  rw [al_get hi] at this
  unfold bigD at this
  exact Int.not_lt.1 (of_decide_eq_false (by simpa using this))
theorem al_good {r v : Int} {xs : List SpkD} {p : PlaceD} (h : pGood r v xs p) (hb : List.any (alL r v xs p) bigD = false) : pGood r v (alL r v xs p) p := by
  obtain ⟨g1, g2, g3, g4⟩ := good_of h
  refine good_ok ⟨g1.snd, by rw [al_len]; exact g1.pos, by rw [al_len]; exact g1.le, fun i hi => ?_⟩ g2 fun i hi => ?_
  · rw [al_len] at hi
    have h1 := g1.sp i hi
    have h2 := al_big hb hi
    have h3 : numL r v p (spkN xs i) ≤ lstN r v xs p xs.length := mxZ_ge (f := fun i => numL r v p (spkN xs i)) hi
    rw [al_get hi]
    refine ⟨h1.1, h1.2.1, ?_⟩
    show 0 ≤ lstN r v xs p xs.length - numL r v p (spkN xs i) ∧ lstN r v xs p xs.length - numL r v p (spkN xs i) ≤ 10000
    omega
  · rw [al_len] at hi
    rw [al_get hi]; exact g3 i hi
/-! ### Sums of turned numbers -/
theorem shr_sum (m : Int) (f : Nat → Int) (n : Nat) : sm (fun i => (shr m (f i)).1) n = (shr m (sm f n)).1 ∧ sm (fun i => (shr m (f i)).2) n = (shr m (sm f n)).2 := by
  have z : ∀ n, sm (fun _ => (0 : Int)) n = 0 := fun n => by induction n with
    | zero => rfl
    | succ n ih => simp only [sm, ih]; rfl
  have ng : ∀ n, sm (fun i => -f i) n = -sm f n := fun n => by induction n with
    | zero => rfl
    | succ n ih => simp only [sm, ih]; omega
  unfold shr
  by_cases h0 : m % 4 = 0
  · simp only [if_pos h0]; exact ⟨trivial, z n⟩
  · simp only [if_neg h0]
    by_cases h1 : m % 4 = 1
    · simp only [if_pos h1]; exact ⟨z n, ng n⟩
    · simp only [if_neg h1]
      by_cases h2 : m % 4 = 2
      · simp only [if_pos h2]; exact ⟨ng n, z n⟩
      · simp only [if_neg h2]; exact ⟨z n, trivial⟩
theorem shr_abs {m z : Int} (hz : 0 ≤ z) : (shr m z).1.natAbs + (shr m z).2.natAbs = z.natAbs := by
  unfold shr
  split
  · show z.natAbs + (0 : Int).natAbs = _; simp
  · split
    · show (0 : Int).natAbs + (-z).natAbs = _; simp
    · split
      · show (-z).natAbs + (0 : Int).natAbs = _; simp
      · show (0 : Int).natAbs + z.natAbs = _; simp
theorem shr_sq {m z : Int} : ((shr m z).1 = 0 ∨ (shr m z).2 = 0) ∧ (shr m z).1 * (shr m z).1 + (shr m z).2 * (shr m z).2 = z * z := by
  unfold shr
  split
  · exact ⟨.inr rfl, by show z * z + 0 * 0 = _; omega⟩
  · split
    · exact ⟨.inl rfl, by show 0 * 0 + -z * -z = _; rw [Int.neg_mul_neg]; omega⟩
    · split
      · exact ⟨.inr rfl, by show -z * -z + 0 * 0 = _; rw [Int.neg_mul_neg]; omega⟩
      · exact ⟨.inl rfl, by show 0 * 0 + z * z = _; omega⟩
theorem abs_sum {f g z : Nat → Int} : ∀ n : Nat, (∀ i, i < n → 0 ≤ z i ∧ (f i).natAbs + (g i).natAbs ≤ (z i).natAbs) → (sm f n).natAbs + (sm g n).natAbs ≤ (sm z n).natAbs ∧ 0 ≤ sm z n
  | 0, _ => ⟨Nat.le_refl _, Int.le_refl _⟩
  | n + 1, h => by
    have h1 := abs_sum n fun i hi => h i (by omega)
    have h2 := h n (by omega)
    simp only [sm]
    omega
theorem sq_abs {a b c : Int} (h : a.natAbs + b.natAbs ≤ c.natAbs) : a * a + b * b ≤ c * c := by
  have e : ∀ x : Int, x * x = ((x.natAbs * x.natAbs : Nat) : Int) := fun x => by
    rw [Int.natCast_mul]
    rcases Int.natAbs_eq x with q | q
    · conv => lhs; rw [q]
    · conv => lhs; rw [q, Int.neg_mul_neg]
  rw [e a, e b, e c]
  have h1 : (a.natAbs + b.natAbs) * (a.natAbs + b.natAbs) ≤ c.natAbs * c.natAbs := Nat.mul_le_mul h h
  have h2 : (a.natAbs + b.natAbs) * (a.natAbs + b.natAbs) = a.natAbs * a.natAbs + b.natAbs * b.natAbs + 2 * (a.natAbs * b.natAbs) := by
    rw [Nat.add_mul, Nat.mul_add, Nat.mul_add, Nat.mul_comm b.natAbs a.natAbs]; omega
  omega
theorem al_loud {r v : Int} {xs : List SpkD} {p : PlaceD} (h : pGood r v xs p) :
    (reT (raysA r v (alL r v xs p) p) xs.length = 0 ∨ imT (raysA r v (alL r v xs p) p) xs.length = 0) ∧
    reT (raysA r v xs p) xs.length * reT (raysA r v xs p) xs.length + imT (raysA r v xs p) xs.length * imT (raysA r v xs p) xs.length ≤ reT (raysA r v (alL r v xs p) p) xs.length * reT (raysA r v (alL r v xs p) p) xs.length + imT (raysA r v (alL r v xs p) p) xs.length * imT (raysA r v (alL r v xs p) p) xs.length := by
  obtain ⟨g1, g2, g3, g4⟩ := good_of h
  obtain ⟨z, hz⟩ : ∃ z : Nat → Int, z = fun i => (spkN xs i).2.1 * stL (spkN xs i).1 p := ⟨_, rfl⟩
  have hz0 : ∀ i, i < xs.length → 0 ≤ z i := fun i hi => by rw [hz]; exact (mul_le (g4 i hi).g (g4 i hi).s).1
  have hA : ∀ i, i < xs.length → giv (rayN (raysA r v (alL r v xs p) p) i) = shr (lstN r v xs p xs.length) (z i) := fun i hi => by
    rw [raysA_get (by rw [al_len]; exact hi), al_get hi, hz]
    show shr (numL r v p (spkN xs i) + (lstN r v xs p xs.length - numL r v p (spkN xs i))) _ = _
    rw [show numL r v p (spkN xs i) + (lstN r v xs p xs.length - numL r v p (spkN xs i)) = lstN r v xs p xs.length by omega]
    rfl
  have e1 : reT (raysA r v (alL r v xs p) p) xs.length = (shr (lstN r v xs p xs.length) (sm z xs.length)).1 := by
    rw [← (shr_sum _ z xs.length).1]
    exact sm_congr _ fun i hi => by rw [hA i hi]
  have e2 : imT (raysA r v (alL r v xs p) p) xs.length = (shr (lstN r v xs p xs.length) (sm z xs.length)).2 := by
    rw [← (shr_sum _ z xs.length).2]
    exact sm_congr _ fun i hi => by rw [hA i hi]
  have q := @shr_sq (lstN r v xs p xs.length) (sm z xs.length)
  rw [e1, e2, q.2]
  refine ⟨q.1, sq_abs (abs_sum xs.length fun i hi => ⟨hz0 i hi, ?_⟩).1⟩
  rw [raysA_get hi]
  have e3 : giv (rayOf r v p (spkN xs i)) = shr (numL r v p (spkN xs i) + (spkN xs i).2.2.1) (z i) := by rw [hz]; rfl
  rw [e3]
  exact Nat.le_of_eq (shr_abs (hz0 i hi))
end Go.Eng.Ar

namespace Go.Eng.Ar
open Go.Eng Go.Proofs
set_option linter.all false
set_option maxRecDepth 100000
set_option maxHeartbeats 8000000
@[reducible] def sAligns : Spec := { pats := [.dat ArrT, .dat PlaceT, .gw 3 .err, .gw 4 .err, .gw 2 PowT, .gw 1 I64], res := [{ t := .bool }], pre := fun x => x.2.2.2.2.1 = powD, f := fun _ => (true, ()) }
abbrev cAl : List (Nat × Spec) := [(14, sAwake), (24, sFew), (26, sCopy), (29, sWithin), (30, sSameA), (31, sAligned), (32, sErrA), (33, sAlignR), (34, sPress), (35, sParts3)]
theorem cAl_ok : All cAl := ⟨h14, h24, h26, h29, h30, h31, h32, h33, h34, h35, trivial⟩
theorem sq_bd4 {x B : Int} (h1 : -B ≤ x) (h2 : x ≤ B) : 0 ≤ x * x ∧ x * x ≤ B * B := by
  rcases Int.le_total 0 x with h | h
  · exact sq_le2 h h2
  · have := sq_le2 (x := -x) (B := B) (by omega) (by omega)
    rw [Int.neg_mul_neg] at this; exact this
theorem hLaw5 : Ok 5 sAligns := by
  refine mk (ctr := [(14, sAwake), (24, sFew), (26, sCopy), (29, sWithin), (30, sSameA), (31, sAligned), (32, sErrA), (33, sAlignR), (34, sPress), (35, sParts3)]) cAl_ok (nt := 153) Tryz.func5 rfl rfl rfl rfl (by kernel_rfl) (by kernel_rfl) (fun _ => []) ?_
  rintro ⟨⟨(r : Int), (v : Int), (xs : List SpkD), ⟨⟩⟩, ⟨(pa : Int), (pb : Int), (pc : Int), ⟨⟩⟩, (b0 : Bool), (b1 : Bool), (pw : PowT.Den), (m : Int), ⟨⟩⟩ (hpw : pw = powD)
  by_cases hl : xs.length ≤ 10
  · have hl' : xs.length < 11 := Nat.lt_succ_of_le hl
    have hp : pLen xs.length := by show (xs.length : Int) ≤ 4611686018427387904; omega
    have hp2 : pTen xs.length := by show xs.length ≤ 1000; omega
    have hp' : Hid (pLen xs.length) := hp
    have hp2' : Hid (pTen xs.length) := hp2
    clear hp hp2
    have hn0 : Hid (pLen ([] : List SpkD).length ∧ pLen ([] : List SpkD).length) := ⟨(show ((0 : Nat) : Int) ≤ 4611686018427387904 by decide), (show ((0 : Nat) : Int) ≤ 4611686018427387904 by decide)⟩
    by_cases hc : opErr r v xs (pa, pb, pc, ()) = 0
    · have hg : Hid (pGood r v xs (pa, pb, pc, ())) := hc
      by_cases hb : List.any (alL r v xs (pa, pb, pc, ())) bigD = true
      · have e1 : alR r v xs (pa, pb, pc, ()) = ((0, 0, [], ()), 8, ()) := (if_pos hc).trans (if_pos hb)
        have e2 : alG r v xs (pa, pb, pc, ()) = ((0, 0, [], ()), 8, ()) := if_pos hb
        repeat' (intro hzz; (try (rename Two => hq; cases hq)); (try dsimp only at hzz); (try simp only [resTy, argTy, eqD, inR, big, wantOf, zB] at hzz); (try simp only [resTy, argTy, eqD, inR, big, wantOf, zB, hl, hc, e1, e2, hpw, not_true_eq_false, not_false_eq_true] at hzz); (try (first | contradiction | (exfalso; omega))); (try (revert hzz; intro _)))
        all_goals try (rename Unit => hq; clear hq)
        all_goals try ((with_reducible refine Held.mk ?_); (with_reducible (first | refine Frz.mk ?_ | refine And.intro (Frz.mk ?_) ?_ | refine And.intro ?_ (Frz.mk ?_))); repeat' first | exact True.intro | (change _ = _; with_reducible rfl) | refine And.intro ?_ ?_ | (with_reducible refine Frz.mk ?_))
        all_goals try (refine Held.mk ?_; (try dsimp only at *); (try simp only [resTy, argTy, eqD, inR, big, wantOf, zB] at *); (try simp only [resTy, argTy, eqD, inR, big, wantOf, zB, hl, hc, e1, e2, hpw, not_true_eq_false, not_false_eq_true] at *))
        all_goals try omega
        all_goals first | exact hp' | exact hp2' | exact hg | exact hn0 | exact sameA_self _ _ _ | (rename_i h; exact absurd ((sameA_self _ _ _).symm.trans h) (by decide)) | trace_state
      · have hb' : List.any (alL r v xs (pa, pb, pc, ())) bigD = false := by simpa using hb
        have e1 : alR r v xs (pa, pb, pc, ()) = ((r, v, alL r v xs (pa, pb, pc, ()), ()), 0, ()) := (if_pos hc).trans (if_neg hb)
        have e2 : alG r v xs (pa, pb, pc, ()) = ((r, v, alL r v xs (pa, pb, pc, ()), ()), 0, ()) := if_neg hb
        have hc2 : opErr r v (alL r v xs (pa, pb, pc, ())) (pa, pb, pc, ()) = 0 := al_good hc hb'
        have e3 : alR r v (alL r v xs (pa, pb, pc, ())) (pa, pb, pc, ()) = ((r, v, alL r v xs (pa, pb, pc, ()), ()), 0, ()) := by
          unfold alR; rw [if_pos hc2, al_again, if_neg hb]
        have e4 : prC (openR r v xs (pa, pb, pc, ())) = cpxI (reT (raysA r v xs (pa, pb, pc, ())) xs.length) (imT (raysA r v xs (pa, pb, pc, ())) xs.length) := by
          rw [show openR r v xs (pa, pb, pc, ()) = (raysA r v xs (pa, pb, pc, ()), 0, ()) from if_pos hc]; unfold prC; rw [if_pos rfl, raysA_len]
        have e5 : prC (openR r v (alL r v xs (pa, pb, pc, ())) (pa, pb, pc, ())) = cpxI (reT (raysA r v (alL r v xs (pa, pb, pc, ())) (pa, pb, pc, ())) xs.length) (imT (raysA r v (alL r v xs (pa, pb, pc, ())) (pa, pb, pc, ())) xs.length) := by
          rw [show openR r v (alL r v xs (pa, pb, pc, ())) (pa, pb, pc, ()) = (raysA r v (alL r v xs (pa, pb, pc, ())) (pa, pb, pc, ()), 0, ()) from if_pos hc2]; unfold prC; rw [if_pos rfl, raysA_len, al_len]
        have y1 := (raysA_good hc).2
        have y2 := (raysA_good hc2).2
        have hl8 := (raysA_good hc).1
        rw [al_len] at y2
        have z1 := reT_bd (L := raysA r v xs (pa, pb, pc, ())) (k := xs.length) y1 hl8
        have z2 := reT_bd (L := raysA r v (alL r v xs (pa, pb, pc, ())) (pa, pb, pc, ())) (k := xs.length) y2 hl8
        have q := al_loud hc
        have hBl : (alL r v xs (pa, pb, pc, ())).length = xs.length := al_len
        clear y1 y2
        generalize reT (raysA r v xs (pa, pb, pc, ())) xs.length = re at *
        generalize imT (raysA r v xs (pa, pb, pc, ())) xs.length = im at *
        generalize reT (raysA r v (alL r v xs (pa, pb, pc, ())) (pa, pb, pc, ())) xs.length = x at *
        generalize imT (raysA r v (alL r v xs (pa, pb, pc, ())) (pa, pb, pc, ())) xs.length = y at *
        have k1 : smZ re := ⟨by omega, by omega⟩
        have k2 : smZ im := ⟨by omega, by omega⟩
        have k3 : smZ x := ⟨by omega, by omega⟩
        have k4 : smZ y := ⟨by omega, by omega⟩
        have f1 := fTp_of k1 k2
        have f2 := fTp_of k3 k4
        have w1 : Hid (whC (cpxI re im)) := whC_of k1 k2
        have w2 : Hid (whC (cpxI x y)) := whC_of k3 k4
        have hs1 := sq_bd4 (x := re) (B := 1000000000) k1.1 k1.2
        have hs2 := sq_bd4 (x := im) (B := 1000000000) k2.1 k2.2
        have hs3 := sq_bd4 (x := x) (B := 1000000000) k3.1 k3.2
        have hs4 := sq_bd4 (x := y) (B := 1000000000) k4.1 k4.2
        generalize hB : alL r v xs (pa, pb, pc, ()) = B at *
        have hn1 : Hid (pTen B.length) := by rw [hBl]; exact hp2'
        have hn2 : Hid (pLen B.length) := by rw [hBl]; exact hp'
        repeat' (intro hzz; (try (rename Two => hq; cases hq)); (try dsimp only at hzz); (try simp only [resTy, argTy, eqD, inR, big, wantOf, zB] at hzz); (try simp only [resTy, argTy, eqD, inR, big, wantOf, zB, hl, hc, e1, e2, e3, e4, e5, f1, f2, hc2, hpw, fWithin, not_true_eq_false, not_false_eq_true] at hzz); (try (first | contradiction | (exfalso; omega))); (try (revert hzz; intro _)))
        all_goals try (rename Unit => hq; clear hq)
        all_goals try ((with_reducible refine Held.mk ?_); (with_reducible (first | refine Frz.mk ?_ | refine And.intro (Frz.mk ?_) ?_ | refine And.intro ?_ (Frz.mk ?_))); repeat' first | exact True.intro | (change _ = _; with_reducible rfl) | refine And.intro ?_ ?_ | (with_reducible refine Frz.mk ?_))
        all_goals try (refine Held.mk ?_; (try dsimp only at *); (try simp only [resTy, argTy, eqD, inR, big, wantOf, zB] at *); (try simp only [resTy, argTy, eqD, inR, big, wantOf, zB, hl, hc, e1, e2, e3, e4, e5, f1, f2, hc2, hpw, fWithin, not_true_eq_false, not_false_eq_true] at *))
        all_goals try omega
        all_goals first | with_reducible (exact hp') | exact hp2' | exact hg | exact hn0 | exact hn1 | exact hn2 | exact ⟨hn2, hn2⟩ | exact w1 | exact w2 | exact hp' | exact sameA_self _ _ _ | (rename_i h; exact absurd ((sameA_self _ _ _).symm.trans h) (by decide)) | trace_state
    · have e : alR r v xs (pa, pb, pc, ()) = ((0, 0, [], ()), opErr r v xs (pa, pb, pc, ()), ()) := if_neg hc
      repeat' (intro hzz; (try (rename Two => hq; cases hq)); (try dsimp only at hzz); (try simp only [resTy, argTy, eqD, inR, big, wantOf, zB] at hzz); (try simp only [resTy, argTy, eqD, inR, big, wantOf, zB, hl, hc, e, hpw, not_true_eq_false, not_false_eq_true] at hzz); (try (first | contradiction | (exfalso; omega))); (try (revert hzz; intro _)))
      all_goals try (rename Unit => hq; clear hq)
      all_goals try ((with_reducible refine Held.mk ?_); (with_reducible (first | refine Frz.mk ?_ | refine And.intro (Frz.mk ?_) ?_ | refine And.intro ?_ (Frz.mk ?_))); repeat' first | exact True.intro | (change _ = _; with_reducible rfl) | refine And.intro ?_ ?_ | (with_reducible refine Frz.mk ?_))
      all_goals try (refine Held.mk ?_; (try dsimp only at *); (try simp only [resTy, argTy, eqD, inR, big, wantOf, zB] at *); (try simp only [resTy, argTy, eqD, inR, big, wantOf, zB, hl, hc, e, hpw, not_true_eq_false, not_false_eq_true] at *))
      all_goals try omega
      all_goals first | exact hp' | exact hp2' | exact hn0 | exact sameA_self _ _ _ | (rename_i h; exact absurd ((sameA_self _ _ _).symm.trans h) (by decide)) | trace_state
  · have hX : Hid True := trivial
    repeat' (intro hzz; (try (rename Two => hq; cases hq)); (try dsimp only at hzz); (try simp only [resTy, argTy, eqD, inR, big, wantOf, zB] at hzz); (try simp only [resTy, argTy, eqD, inR, big, wantOf, zB, hl, hpw] at hzz); (try (first | contradiction | (exfalso; omega))); (try (revert hzz; intro _)))
    all_goals try (rename Unit => hq; clear hq)
    all_goals try ((with_reducible refine Held.mk ?_); (with_reducible (first | refine Frz.mk ?_ | refine And.intro (Frz.mk ?_) ?_ | refine And.intro ?_ (Frz.mk ?_))); repeat' first | exact True.intro | (change _ = _; with_reducible rfl) | refine And.intro ?_ ?_ | (with_reducible refine Frz.mk ?_))
    all_goals try (refine Held.mk ?_; (try dsimp only at *); (try simp only [resTy, argTy, eqD, inR, big, wantOf, zB] at *); (try simp only [resTy, argTy, eqD, inR, big, wantOf, zB, hl, hpw] at *))
    all_goals try omega
    all_goals trace_state
end Go.Eng.Ar

