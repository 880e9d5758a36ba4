/- Contract of Echoes. Conditions: none. -/
import Derived.Test.YtacgcendcdiodaaDoorL13
namespace Go.Eng.Lp
open Go.Eng Go.Proofs
set_option linter.all false
set_option maxRecDepth 100000
set_option maxHeartbeats 8000000

/-- What a right loop is. -/
structure GoodLoop (taps : List Int) (gain : Int) : Prop where
  pos : 0 < taps.length
  le : taps.length ≤ 32
  zero : taps.getD 0 0 = 0
  val : ∀ k, k < taps.length → -16384 ≤ taps.getD k 0 ∧ taps.getD k 0 ≤ 16384
  gain0 : 0 ≤ gain
  gain1 : gain ≤ 10000

theorem loop_of {taps : List Int} {gain : Int} (h : fCheckLoop taps gain = 0) : GoodLoop taps gain := by
  unfold fCheckLoop at h
  split at h
  · omega
  · split at h
    · omega
    · split at h
      · omega
      · split at h
        · omega
        · rename_i h1 h2 h3 h4
          have h5 : ¬ (taps.any big102 = true) := fun hc => h4 (.inl hc)
          have h6 : 0 ≤ gain ∧ gain ≤ 10000 := by
            by_cases hc : 0 ≤ gain ∧ gain ≤ 10000
            · exact hc
            · exact absurd (.inr hc) h4
          refine ⟨by omega, by omega, by simpa using h3, fun k hk => ?_, h6.1, h6.2⟩
          have hm : taps.getD k 0 ∈ taps := by simp [List.getD, List.getElem?_eq_getElem hk]
          have : big102 (taps.getD k 0) = false := by
            cases hb : big102 (taps.getD k 0) with
            | false => rfl
            | true => exact absurd (List.any_eq_true.2 ⟨_, hm, hb⟩) h5
          simpa [big102, fWithin] using this

def echoF (T out : List Int) (n j : Nat) : Int := if 0 < j then T.getD j 0 * out.getD ((n : Int) - (j : Int)).toNat 0 else 0
def clampE (v : Int) : Int := if (if v < 1000000000 then v else 1000000000) > -1000000000 then (if v < 1000000000 then v else 1000000000) else -1000000000
def echoV (T : List Int) (g h : Int) (n : Nat) (out : List Int) : Int := if n = 0 then h else clampE ((sm (echoF T out n) (min (n + 1) T.length) * g + 8192000) / 16384000)
def echoL (T : List Int) (g h : Int) : Nat → List Int
  | 0 => []
  | n + 1 => echoL T g h n ++ [echoV T g h n (echoL T g h n)]

theorem clampE_le (v : Int) : -1000000000 ≤ clampE v ∧ clampE v ≤ 1000000000 := by
  simp only [clampE]; split <;> split <;> omega

theorem echoL_len (T : List Int) (g h : Int) : ∀ n, (echoL T g h n).length = n
  | 0 => rfl
  | n + 1 => by simp [echoL, echoL_len T g h n]

theorem echoL_val {T : List Int} {g h : Int} (hh : -32767 ≤ h ∧ h ≤ 32767) : ∀ n, ∀ i, -1000000000 ≤ (echoL T g h n).getD i 0 ∧ (echoL T g h n).getD i 0 ≤ 1000000000
  | 0, i => by simp [echoL]
  | n + 1, i => by
    simp only [echoL, List.getD_eq_getElem?_getD]
    by_cases hi : i < n
    · rw [List.getElem?_append_left (by rw [echoL_len]; exact hi)]
      have := echoL_val (T := T) (g := g) hh n i
      rwa [List.getD_eq_getElem?_getD] at this
    · rw [List.getElem?_append_right (by rw [echoL_len]; omega), echoL_len]
      by_cases h0 : i = n
      · subst h0
        have := clampE_le ((sm (echoF T (echoL T g h i) i) (min (i + 1) T.length) * g + 8192000) / 16384000)
        simp only [Nat.sub_self, List.getElem?_cons_zero, Option.getD_some, echoV]
        split <;> omega
      · rw [List.getElem?_eq_none (by simp; omega)]
        simp

theorem echoF_le {T : List Int} {g h : Int} (hT : GoodLoop T g) (hh : -32767 ≤ h ∧ h ≤ 32767) (n j m : Nat) (hj : j < T.length) : -16384000000000 ≤ echoF T (echoL T g h m) n j ∧ echoF T (echoL T g h m) n j ≤ 16384000000000 := by
  simp only [echoF]
  split
  · have h1 := hT.val j hj
    have h2 := echoL_val (T := T) (g := g) hh m ((n : Int) - (j : Int)).toNat
    have := mul_bd h1.1 h1.2 h2.1 h2.2
    omega
  · omega

theorem echoS_le {T : List Int} {g h : Int} (hT : GoodLoop T g) (hh : -32767 ≤ h ∧ h ≤ 32767) (n m j : Nat) (hj : j ≤ T.length) : -524288000000000 ≤ sm (echoF T (echoL T g h m) n) j ∧ sm (echoF T (echoL T g h m) n) j ≤ 524288000000000 := by
  have := sm_le (f := echoF T (echoL T g h m) n) (B := 16384000000000) j (fun i hi => echoF_le hT hh n i m (by omega))
  have := hT.le
  omega

def echoErr (T : List Int) (g h c : Int) : Int := if fCheckLoop T g = 0 then (if (-32767 ≤ h ∧ h ≤ 32767) ∧ (0 ≤ c ∧ c ≤ 200) then 0 else 2) else fCheckLoop T g
def fEchoes (T : List Int) (g h c : Int) : List Int × Int := if echoErr T g h c = 0 then (echoL T g h c.toNat, 0) else ([], echoErr T g h c)
@[reducible] def sEchoes : Spec := { pats := [.dat LoopT, .dat I64, .dat I64], res := [{ t := .sl I64 }, { t := I64 }], pre := fun x => True, f := fun x => ((fEchoes x.1.1 x.1.2.1 x.2.1 x.2.2.1).1, (fEchoes x.1.1 x.1.2.1 x.2.1 x.2.2.1).2, ()) }

def ecOuter (T : List Int) (g h c : Int) : LoopAnn := { σ := Nat, pat := fun n => sI 30 n :: sOwn 9 60009 3 (echoL T g h n), inv := fun n => n ≤ c.toNat, meas := fun n => c.toNat - n }
def ecInner (T : List Int) (g h c : Int) (st : St) : LoopAnn := withI 10 st fun n =>
  { σ := Nat, pat := fun j => [sI 49 j, sI 11 (sm (echoF T (echoL T g h n.toNat) n.toNat) j)], inv := fun j => j ≤ min (n.toNat + 1) T.length, meas := fun j => min (n.toNat + 1) T.length - j }

theorem ite_min (a b : Int) : (if b < a then b else a) = min a b := by omega
theorem ite_max (a b : Int) : (if a < b then b else a) = max a b := by omega
theorem errB {e : Int} (h : firstI [e, bif false then 0 else 2] = 0) : False := by
  simp only [firstI, cond_false] at h
  split at h <;> omega

theorem errA {T : List Int} {g h c : Int} (hh : -32767 ≤ h ∧ h ≤ 32767) (h0 : firstI [fCheckLoop T g, bif fWithin c 0 200 then 0 else 2] = 0) : GoodLoop T g ∧ (-32767 ≤ h ∧ h ≤ 32767) ∧ 0 ≤ c ∧ c ≤ 200 ∧ echoErr T g h c = 0 := by
  simp only [firstI] at h0
  split at h0
  · rename_i h1
    cases hb : fWithin c 0 200 with
    | true =>
      have hc : 0 ≤ c ∧ c ≤ 200 := by simpa [fWithin] using hb
      exact ⟨loop_of h1, hh, hc.1, hc.2, by simp only [echoErr]; rw [if_pos h1, if_pos ⟨hh, hc⟩]⟩
    | false => rw [hb] at h0; simp at h0
  · rename_i h1; exact absurd h0 h1

theorem errEqA {T : List Int} {g h c : Int} (hh : -32767 ≤ h ∧ h ≤ 32767) : firstI [fCheckLoop T g, bif fWithin c 0 200 then 0 else 2] = echoErr T g h c := by
  by_cases h1 : fCheckLoop T g = 0 <;> by_cases hc : 0 ≤ c ∧ c ≤ 200 <;> simp [firstI, echoErr, h1, hh, hc, fWithin]

theorem errEqB {T : List Int} {g h c : Int} (hh : ¬ (-32767 ≤ h ∧ h ≤ 32767)) : firstI [fCheckLoop T g, 2] = echoErr T g h c := by
  by_cases h1 : fCheckLoop T g = 0
  · simp only [firstI, echoErr]
    rw [if_pos h1, if_pos h1, if_neg (show ¬ ((-32767 ≤ h ∧ h ≤ 32767) ∧ 0 ≤ c ∧ c ≤ 200) from fun hx => hh hx.1), if_neg (by decide)]
  · simp only [firstI, echoErr]
    rw [if_neg h1, if_neg h1]

theorem echoT {T : List Int} {g h : Int} (hT : GoodLoop T g) (hh : -32767 ≤ h ∧ h ≤ 32767) (n m j : Nat) (hj : j < T.length) (h0 : 0 < j) (hn : j ≤ n) :
    (List.take (min ((n : Int) + 1) (T.length : Int)).toNat T).getD j (Ty.dflt I64) * (echoL T g h m).getD ((n : Int) - (j : Int)).toNat (Ty.dflt I64) = echoF T (echoL T g h m) n j := by
  have e : (List.take (min ((n : Int) + 1) (T.length : Int)).toNat T).getD j (Ty.dflt I64) = T.getD j 0 := take_getD 0 (by omega)
  rw [e]
  simp only [echoF]
  rw [if_pos h0]
  rfl

theorem echoG_le {T : List Int} {g h : Int} (hT : GoodLoop T g) (hh : -32767 ≤ h ∧ h ≤ 32767) (n j : Nat) (hj : j ≤ T.length) :
    -5242880000000000000 ≤ sm (echoF T (echoL T g h n) n) j * g ∧ sm (echoF T (echoL T g h n) n) j * g ≤ 5242880000000000000 := by
  have h1 := echoS_le hT hh n n j hj
  have h2 := hT.gain0
  have h3 := hT.gain1
  have := mul_bd h1.1 h1.2 (show -10000 ≤ g by omega) h3
  omega

theorem err_split {T : List Int} {g h c : Int} (h0 : echoErr T g h c = 0) : GoodLoop T g ∧ (-32767 ≤ h ∧ h ≤ 32767) ∧ 0 ≤ c ∧ c ≤ 200 := by
  unfold echoErr at h0
  split at h0
  · rename_i hc
    split at h0
    · rename_i hd; exact ⟨loop_of hc, hd.1, hd.2⟩
    · omega
  · rename_i hc; exact absurd h0 hc

/-- Echoes -/
theorem h33 : Ok 14 sEchoes := by
  refine mk (ctr := [(27, sCheckLoop), (29, sSmall), (22, sWithin), (28, sUnless), (26, sFirst), (33, sFloor)]) ⟨h57, h83, h89, h82, h81, h91, trivial⟩ (nt := 81) Tryd.func14 rfl rfl rfl rfl (by kernel_rfl) (by kernel_rfl) (fun x => [fun _ => ecOuter x.1.1 x.1.2.1 x.2.1 x.2.2.1, ecInner x.1.1 x.1.2.1 x.2.1 x.2.2.1]) ?_
  rintro ⟨⟨(T : List Int), (g : Int), _⟩, (h : Int), (c : Int), _⟩ _
  repeat' (intro hzz; (try (rename Two => hq; cases hq)); (try dsimp only at hzz); (try simp only [resTy, argTy, eqD, inR, big, wantOf, Bool.not_true, Bool.not_false, Bool.true_eq, decide_eq_true_eq, decide_eq_false_iff_not, Bool.not_eq_true', Bool.not_eq_false', Bool.and_eq_true, Prod.mk.injEq, and_true, true_and, Int.not_lt, Int.not_le, gt_iff_lt, ge_iff_le] at hzz); (try simp only [resTy, argTy, eqD, inR, big, wantOf, Bool.not_true, Bool.not_false, Bool.true_eq, decide_eq_true_eq, decide_eq_false_iff_not, Bool.not_eq_true', Bool.not_eq_false', Bool.and_eq_true, Prod.mk.injEq, and_true, true_and, Int.not_lt, Int.not_le, gt_iff_lt, ge_iff_le, getD_i, pLen, pSmall, pFloor, echoL_len, List.length_take, List.length_cons, List.length_nil, Int.toNat_natCast, cond_true, cond_false, ite_min] at hzz); (try (revert hzz; intro _)))
  all_goals try (rename Unit => hq; clear hq)
  all_goals try ((with_reducible refine Held.mk ?_); (with_reducible (first | refine Frz.mk ?_ | refine And.intro (Frz.mk ?_) ?_ | refine And.intro ?_ (Frz.mk ?_))); repeat' first | exact True.intro | (change _ = _; with_reducible rfl) | refine And.intro ?_ ?_ | (with_reducible refine Frz.mk ?_))
  all_goals try (refine Held.mk ?_; (try dsimp only at *); (try simp only [resTy, argTy, eqD, inR, big, wantOf, Bool.not_true, Bool.not_false, Bool.true_eq, decide_eq_true_eq, decide_eq_false_iff_not, Bool.not_eq_true', Bool.not_eq_false', Bool.and_eq_true, Prod.mk.injEq, and_true, true_and, Int.not_lt, Int.not_le, gt_iff_lt, ge_iff_le] at *); (try simp only [resTy, argTy, eqD, inR, big, wantOf, Bool.not_true, Bool.not_false, Bool.true_eq, decide_eq_true_eq, decide_eq_false_iff_not, Bool.not_eq_true', Bool.not_eq_false', Bool.and_eq_true, Prod.mk.injEq, and_true, true_and, Int.not_lt, Int.not_le, gt_iff_lt, ge_iff_le, getD_i, pLen, pSmall, pFloor, echoL_len, List.length_take, List.length_cons, List.length_nil, Int.toNat_natCast, cond_true, cond_false, ite_min] at *))
  all_goals try omega
  all_goals try (rename firstI _ = 0 => he; first | (exact (errB he).elim) | (have hE := errA ‹_› he; clear he))
  all_goals try omega
  · rename_i hh hn
    rw [errEqA hh] at hn ⊢
    simp only [fEchoes]; rw [if_neg hn]; exact ⟨rfl, rfl⟩
  ·
    refine GHeld.mk ?_
    refine Exists.intro (0 : Nat) ?_
    refine And.intro (Leaf.mk ?_) ?_
    · repeat' first | exact True.intro | refine And.intro ?_ ?_
      all_goals try ((change _ = _ <;> try dsimp only) <;> try with_reducible rfl)
      all_goals try omega
      all_goals (rfl)
    exact Nat.zero_le _
  · rename_i hh k h1 h2 h3
    obtain rfl : k = 0 := by omega
    refine GHeld.mk ?_
    refine Exists.intro (1 : Nat) ?_
    refine And.intro (Leaf.mk ?_) ?_
    · repeat' first | exact True.intro | refine And.intro ?_ ?_
      all_goals try ((change _ = _ <;> try dsimp only) <;> try with_reducible rfl)
      all_goals try omega
      all_goals (rfl)
    refine ⟨by change 1 ≤ c.toNat; omega, ?_⟩
    change c.toNat - 1 < c.toNat - 0
    omega
  ·
    refine GHeld.mk ?_
    refine Exists.intro (0 : Nat) ?_
    refine And.intro (Leaf.mk ?_) ?_
    · repeat' first | exact True.intro | refine And.intro ?_ ?_
      all_goals try ((change _ = _ <;> try dsimp only) <;> try with_reducible rfl)
      all_goals try omega
      all_goals (rfl)
    exact Nat.zero_le _
  · rename_i hh k h1 h2 h3 j h4 h5 h6
    have e := echoT hE.1 hE.2.1 k k j (by omega) (by omega) (by omega)
    dsimp only [Ty.dflt] at e ⊢
    rw [e]
    have := echoF_le hE.1 hE.2.1 k j k (by omega)
    omega
  · rename_i hh k h1 h2 h3 j h4 h5 h6
    have e := echoT hE.1 hE.2.1 k k j (by omega) (by omega) (by omega)
    dsimp only [Ty.dflt] at e ⊢
    rw [e]
    have := echoF_le hE.1 hE.2.1 k j k (by omega)
    have := echoS_le hE.1 hE.2.1 k k j (by omega)
    omega
  · rename_i hh k h1 h2 h3 j h4 h5 h6
    have e := echoT hE.1 hE.2.1 k k j (by omega) (by omega) (by omega)
    rw [← ite_min] at e
    have e' := congrArg (fun z => sm (echoF T (echoL T g h k) k) j + z) e
    refine GHeld.mk ?_
    refine Exists.intro (j + 1) ?_
    refine And.intro (Leaf.mk ?_) ?_
    · repeat' first | exact True.intro | refine And.intro ?_ ?_
      all_goals try ((change _ = _ <;> try dsimp only) <;> try with_reducible rfl)
      all_goals try omega
      all_goals (exact e')
    refine ⟨by change j + 1 ≤ min (k + 1) T.length; omega, ?_⟩
    change min (k + 1) T.length - (j + 1) < min (k + 1) T.length - j
    omega
  · rename_i hh k h1 h2 h3 j h4 h5 h6
    obtain rfl : j = 0 := by omega
    refine GHeld.mk ?_
    refine Exists.intro (1 : Nat) ?_
    refine And.intro (Leaf.mk ?_) ?_
    · repeat' first | exact True.intro | refine And.intro ?_ ?_
      all_goals try ((change _ = _ <;> try dsimp only) <;> try with_reducible rfl)
      all_goals try omega
      all_goals (simp [sm, echoF])
    refine ⟨by change 1 ≤ min (k + 1) T.length; omega, ?_⟩
    change min (k + 1) T.length - 1 < min (k + 1) T.length - 0
    omega
  all_goals try (rename_i hh k h1 h2 h3 j h4 h5; have hb := echoG_le hE.1 hE.2.1 k j (by omega); omega)
  · rename_i hh k h1 h2 h3 j h4 h5
    have hj : j = min (k + 1) T.length := by omega
    subst hj
    have e : echoL T g h k ++ [clampE ((sm (echoF T (echoL T g h k) k) (min (k + 1) T.length) * g + 8192000) / 16384000)] = echoL T g h (k + 1) := by
      simp only [echoL, echoV]; rw [if_neg (by omega)]
    refine GHeld.mk ?_
    refine Exists.intro (k + 1) ?_
    refine And.intro (Leaf.mk ?_) ?_
    · repeat' first | exact True.intro | refine And.intro ?_ ?_
      all_goals try ((change _ = _ <;> try dsimp only) <;> try with_reducible rfl)
      all_goals try omega
      all_goals (first | exact e | exact congrArg List.length e)
    refine ⟨by change k + 1 ≤ c.toNat; omega, ?_⟩
    change c.toNat - (k + 1) < c.toNat - k
    omega
  · rename_i hh k h1 h2
    have hk : k = c.toNat := by omega
    subst hk
    simp only [fEchoes]; rw [if_pos hE.2.2.2.2]; exact ⟨rfl, rfl⟩
  · rename_i hh hn
    rw [errEqB hh] at hn ⊢
    simp only [fEchoes]; rw [if_neg hn]; exact ⟨rfl, rfl⟩

end Go.Eng.Lp
