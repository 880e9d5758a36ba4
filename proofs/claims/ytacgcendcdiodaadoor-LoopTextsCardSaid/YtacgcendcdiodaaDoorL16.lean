/- Contracts of circle.value, circle.arc, ValueAt and ArcBall. Conditions: the first two: right loops and arcs. -/
import Derived.Test.YtacgcendcdiodaaDoorL14
import Derived.Test.YtacgcendcdiodaaDoorL15
namespace Go.Eng.Lp
open Go.Eng Go.Proofs
set_option linter.all false
set_option maxRecDepth 100000
set_option maxHeartbeats 8000000

def vX (T : List Int) (m : Int) (k : Nat) : Int := T.getD k 0 * (unitI (-m * k)).1
def vY (T : List Int) (m : Int) (k : Nat) : Int := T.getD k 0 * (unitI (-m * k)).2.1
def vR (T : List Int) (m : Int) (k : Nat) : Int := ((T.getD k 0).natAbs : Int) * (unitI (-m * k)).2.2.1

theorem vX_le {T : List Int} {g : Int} (h : GoodLoop T g) (m : Int) {k : Nat} (hk : k < T.length) : -17179869184 ≤ vX T m k ∧ vX T m k ≤ 17179869184 := by
  have h1 := h.val k hk
  have h2 := unitI_le (-m * k)
  have := mul_bd h1.1 h1.2 h2.1 h2.2.1
  simp only [vX]; omega
theorem vY_le {T : List Int} {g : Int} (h : GoodLoop T g) (m : Int) {k : Nat} (hk : k < T.length) : -17179869184 ≤ vY T m k ∧ vY T m k ≤ 17179869184 := by
  have h1 := h.val k hk
  have h2 := unitI_le (-m * k)
  have := mul_bd h1.1 h1.2 h2.2.2.1 h2.2.2.2.1
  simp only [vY]; omega
theorem vR_le {T : List Int} {g : Int} (h : GoodLoop T g) (m : Int) {k : Nat} (hk : k < T.length) : 0 ≤ vR T m k ∧ vR T m k ≤ 32768 := by
  have h1 := h.val k hk
  have h2 := unitI_le (-m * k)
  have h3 := mul_bd (x := ((T.getD k 0).natAbs : Int)) (X := 16384) (by omega) (by omega) (show -2 ≤ (unitI (-m * k)).2.2.1 by omega) h2.2.2.2.2.2
  have h4 : 0 ≤ ((T.getD k 0).natAbs : Int) * (unitI (-m * k)).2.2.1 := Int.mul_nonneg (by omega) h2.2.2.2.2.1
  simp only [vR]; omega

theorem sm_nn {f : Nat → Int} : ∀ k : Nat, (∀ i, i < k → 0 ≤ f i) → 0 ≤ sm f k
  | 0, _ => by simp [sm]
  | k + 1, h => by
    have := sm_nn k (fun i hi => h i (by omega))
    have := h k (by omega)
    simp only [sm]; omega

theorem sX_le {T : List Int} {g : Int} (h : GoodLoop T g) (m : Int) {k : Nat} (hk : k ≤ T.length) : -549755813888 ≤ sm (vX T m) k ∧ sm (vX T m) k ≤ 549755813888 := by
  have := sm_le (f := vX T m) (B := 17179869184) k (fun i hi => vX_le h m (show i < T.length by omega))
  have := h.le; omega
theorem sY_le {T : List Int} {g : Int} (h : GoodLoop T g) (m : Int) {k : Nat} (hk : k ≤ T.length) : -549755813888 ≤ sm (vY T m) k ∧ sm (vY T m) k ≤ 549755813888 := by
  have := sm_le (f := vY T m) (B := 17179869184) k (fun i hi => vY_le h m (show i < T.length by omega))
  have := h.le; omega
theorem sR_le {T : List Int} {g : Int} (h : GoodLoop T g) (m : Int) {k : Nat} (hk : k ≤ T.length) : 0 ≤ sm (vR T m) k ∧ sm (vR T m) k ≤ 1048576 := by
  have h1 := sm_le (f := vR T m) (B := 32768) k (fun i hi => by have := vR_le h m (show i < T.length by omega); omega)
  have h2 := sm_nn (f := vR T m) k (fun i hi => (vR_le h m (show i < T.length by omega)).1)
  have := h.le; omega

theorem mulg {x g B : Int} (h1 : -B ≤ x) (h2 : x ≤ B) (hg0 : 0 ≤ g) (hg1 : g ≤ 10000) : -(B * 10000) ≤ x * g ∧ x * g ≤ B * 10000 := mul_bd h1 h2 (by omega) hg1

def valueI (T : List Int) (g m : Int) : III :=
  (fRound (sm (vX T m) T.length * g) 16384000, fRound (sm (vY T m) T.length * g) 16384000,
    fCeil (sm (vR T m) T.length * g) 16384000 + (if (sm (vX T m) T.length * g).tmod 16384000 ≠ 0 ∨ (sm (vY T m) T.length * g).tmod 16384000 ≠ 0 then 1 else 0), ())

def vaAnn (T : List Int) (m : Int) : LoopAnn := { σ := Nat, pat := fun k => [sI 17 k, cI 7 0 (sm (vX T m) k), cI 7 1 (sm (vY T m) k), cI 7 2 (sm (vR T m) k)], inv := fun k => k ≤ T.length, meas := fun k => T.length - k }

@[reducible] def sValue : Spec := { pats := [.ob 0, .dat LoopT, .dat I64], res := [{ t := Ball }], pre := fun x => GoodLoop x.1.1 x.1.2.1 ∧ -1000000 ≤ x.2.1 ∧ x.2.1 ≤ 1000000, f := fun x => (valueI x.1.1 x.1.2.1 x.2.1, ()) }

/-- circle.value -/
theorem h84 : Ok 30 sValue := by
  refine mk (ctr := [(45, sUnit), (46, sSize), (47, sRound), (48, sCeil)]) ⟨h118, h90, h78, h119, trivial⟩ (nt := 88) Tryd.func30 rfl rfl rfl rfl (by kernel_rfl) (by kernel_rfl) (fun x => [fun _ => vaAnn x.1.1 x.2.1]) ?_
  rintro ⟨⟨(T : List Int), (g : Int), _⟩, (m : Int), _⟩ ⟨(hT : GoodLoop T g), (hm0 : -1000000 ≤ m), (hm1 : m ≤ 1000000)⟩
  have hl := hT.le
  have hx := fun k (hk : k ≤ T.length) => sX_le hT m hk
  have hy := fun k (hk : k ≤ T.length) => sY_le hT m hk
  have hr := fun k (hk : k ≤ T.length) => sR_le hT m hk
  repeat' (intro hzz; (try (rename Two => hq; cases hq)); (try dsimp only at hzz); (try simp only [resTy, argTy, eqD, inR, big, wantOf, Bool.not_true, Bool.not_false, Bool.true_eq, decide_eq_true_eq, decide_eq_false_iff_not, Bool.not_eq_true', Bool.not_eq_false', Bool.and_eq_true, Prod.mk.injEq, and_true, true_and, Int.not_lt, Int.not_le, gt_iff_lt, ge_iff_le] at hzz); (try simp only [resTy, argTy, eqD, inR, big, wantOf, Bool.not_true, Bool.not_false, Bool.true_eq, decide_eq_true_eq, decide_eq_false_iff_not, Bool.not_eq_true', Bool.not_eq_false', Bool.and_eq_true, Prod.mk.injEq, and_true, true_and, Int.not_lt, Int.not_le, gt_iff_lt, ge_iff_le, getD_i, pSize, pRound, pFloor, fSize] at hzz); (try (revert hzz; intro _)))
  all_goals try (rename Unit => hq; clear hq)
  all_goals try ((with_reducible refine Held.mk ?_); (with_reducible (first | refine Frz.mk ?_ | refine And.intro (Frz.mk ?_) ?_ | refine And.intro ?_ (Frz.mk ?_))); repeat' first | exact True.intro | (change _ = _; with_reducible rfl) | refine And.intro ?_ ?_ | (with_reducible refine Frz.mk ?_))
  all_goals try (refine Held.mk ?_; (try dsimp only at *); (try simp only [resTy, argTy, eqD, inR, big, wantOf, Bool.not_true, Bool.not_false, Bool.true_eq, decide_eq_true_eq, decide_eq_false_iff_not, Bool.not_eq_true', Bool.not_eq_false', Bool.and_eq_true, Prod.mk.injEq, and_true, true_and, Int.not_lt, Int.not_le, gt_iff_lt, ge_iff_le] at *); (try simp only [resTy, argTy, eqD, inR, big, wantOf, Bool.not_true, Bool.not_false, Bool.true_eq, decide_eq_true_eq, decide_eq_false_iff_not, Bool.not_eq_true', Bool.not_eq_false', Bool.and_eq_true, Prod.mk.injEq, and_true, true_and, Int.not_lt, Int.not_le, gt_iff_lt, ge_iff_le, getD_i, pSize, pRound, pFloor, fSize] at *))
  all_goals try omega
  ·
    refine GHeld.mk ?_
    refine Exists.intro (0 : Nat) ?_
    refine And.intro (Leaf.mk ?_) ?_
    · repeat' first | exact True.intro | refine And.intro ?_ ?_
      all_goals try ((change _ = _ <;> try dsimp only) <;> try with_reducible rfl)
      all_goals try omega
      all_goals (rfl)
    exact Nat.zero_le _
  all_goals try
    (rename_i k h1 h2
     have hk : k < T.length := by omega
     have hv := hT.val k hk
     have a1 := vX_le hT m hk
     have a2 := vY_le hT m hk
     have a3 := vR_le hT m hk
     have b1 := hx k h1
     have b2 := hy k h1
     have b3 := hr k h1
     have c1 := mul_bd (x := -m) (d := (k : Int)) (X := 1000000) (B := 32) (by omega) (by omega) (by omega) (by omega)
     simp only [vX, vY, vR] at a1 a2 a3
     omega)
  · rename_i k h1 h2
    have hk : k < T.length := by omega
    refine GHeld.mk ?_
    refine Exists.intro (k + 1) ?_
    refine And.intro (Leaf.mk ?_) ?_
    · repeat' first | exact True.intro | refine And.intro ?_ ?_
      all_goals try ((change _ = _ <;> try dsimp only) <;> try with_reducible rfl)
      all_goals try omega
      all_goals (rfl)
    refine ⟨hk, ?_⟩
    change T.length - (k + 1) < T.length - k
    omega
  all_goals have c1 := mulg (hx T.length (Nat.le_refl _)).1 (hx T.length (Nat.le_refl _)).2 hT.gain0 hT.gain1
  all_goals have c2 := mulg (hy T.length (Nat.le_refl _)).1 (hy T.length (Nat.le_refl _)).2 hT.gain0 hT.gain1
  all_goals have c3 := mulg (x := sm (vR T m) T.length) (g := g) (B := 1048576) (by have := hr T.length (Nat.le_refl _); omega) (hr T.length (Nat.le_refl _)).2 hT.gain0 hT.gain1
  all_goals try
    (rename_i k h1 h2
     obtain rfl : k = T.length := by omega
     omega)
  · rename_i k h1 h2 h3 h4
    obtain rfl : k = T.length := by omega
    simp only [fCeil]; omega
  · rename_i k h1 h2 h3 h4
    obtain rfl : k = T.length := by omega
    simp only [valueI]
    rw [if_pos (.inr h4)]
    exact ⟨trivial, trivial, rfl⟩
  · rename_i k h1 h2 h3 h4
    obtain rfl : k = T.length := by omega
    simp only [valueI]
    rw [if_neg (by rintro (h | h) <;> contradiction), Int.add_zero]
    exact ⟨trivial, trivial, rfl⟩
  · rename_i k h1 h2 h3
    obtain rfl : k = T.length := by omega
    simp only [fCeil]; omega
  · rename_i k h1 h2 h3
    obtain rfl : k = T.length := by omega
    simp only [valueI]
    rw [if_pos (.inl h3)]
    exact ⟨trivial, trivial, rfl⟩

def sSlope (T : List Int) (k : Nat) : Int := sm (fun i => (i : Int) * ((T.getD i 0).natAbs : Int)) k

theorem slope_le {T : List Int} {g : Int} (h : GoodLoop T g) {k : Nat} (hk : k ≤ T.length) : 0 ≤ sSlope T k ∧ sSlope T k ≤ 16252928 := by
  have hl := h.le
  have hf : ∀ i, i < T.length → 0 ≤ (i : Int) * ((T.getD i 0).natAbs : Int) ∧ (i : Int) * ((T.getD i 0).natAbs : Int) ≤ 507904 := by
    intro i hi
    have hv := h.val i hi
    have h1 := mul_bd (x := (i : Int)) (d := ((T.getD i 0).natAbs : Int)) (X := 31) (B := 16384) (by omega) (by omega) (by omega) (by omega)
    have h2 : 0 ≤ (i : Int) * ((T.getD i 0).natAbs : Int) := Int.mul_nonneg (by omega) (by omega)
    omega
  have h1 := sm_le (f := fun i => (i : Int) * ((T.getD i 0).natAbs : Int)) (B := 507904) k (fun i hi => by have := hf i (by omega); omega)
  have h2 := sm_nn (f := fun i => (i : Int) * ((T.getD i 0).natAbs : Int)) k (fun i hi => (hf i (by omega)).1)
  simp only [sSlope]; omega

def arcI (T : List Int) (g a b : Int) : III :=
  ((valueI T g ((a + b) / 2)).1, (valueI T g ((a + b) / 2)).2.1, (valueI T g ((a + b) / 2)).2.2.1 + fCeil (sSlope T T.length * g * 6284 * (b - (a + b) / 2)) 64000000, ())

def arAnn (T : List Int) : LoopAnn := { σ := Nat, pat := fun k => [sI 21 k, sI 8 (sSlope T k)], inv := fun k => k ≤ T.length, meas := fun k => T.length - k }

@[reducible] def sArc : Spec := { pats := [.ob 0, .dat LoopT, .dat ArcT], res := [{ t := Ball }], pre := fun x => GoodLoop x.1.1 x.1.2.1 ∧ fArcErr x.2.1.1 x.2.1.2.1 = 0, f := fun x => (arcI x.1.1 x.1.2.1 x.2.1.1 x.2.1.2.1, ()) }

theorem arc_of {a b : Int} (h : fArcErr a b = 0) : 0 ≤ a ∧ a ≤ b ∧ b ≤ 2048 := by
  unfold fArcErr at h
  split at h
  · split at h
    · omega
    · omega
  · omega

theorem valueR_le {T : List Int} {g : Int} (h : GoodLoop T g) (m : Int) : 0 ≤ (valueI T g m).2.2.1 ∧ (valueI T g m).2.2.1 ≤ 1000 := by
  have h1 := sR_le h m (Nat.le_refl T.length)
  have h2 := mulg (x := sm (vR T m) T.length) (g := g) (B := 1048576) (by omega) h1.2 h.gain0 h.gain1
  have h3 : 0 ≤ sm (vR T m) T.length * g := Int.mul_nonneg h1.1 h.gain0
  simp only [valueI, fCeil]
  split <;> omega

theorem slopes_le {T : List Int} {g a b : Int} (h : GoodLoop T g) (ha : 0 ≤ a ∧ a ≤ b ∧ b ≤ 2048) :
    (0 ≤ sSlope T T.length * g ∧ sSlope T T.length * g ≤ 162529280000) ∧ (0 ≤ sSlope T T.length * g * 6284 ∧ sSlope T T.length * g * 6284 ≤ 1021333995520000) ∧
    (0 ≤ sSlope T T.length * g * 6284 * (b - (a + b) / 2) ∧ sSlope T T.length * g * 6284 * (b - (a + b) / 2) ≤ 1045846011412480000) := by
  have h1 := slope_le h (Nat.le_refl T.length)
  have h2 := mulg (x := sSlope T T.length) (g := g) (B := 16252928) (by omega) h1.2 h.gain0 h.gain1
  have h3 : 0 ≤ sSlope T T.length * g := Int.mul_nonneg h1.1 h.gain0
  have h4 : 0 ≤ sSlope T T.length * g * 6284 ∧ sSlope T T.length * g * 6284 ≤ 1021333995520000 := by omega
  have h5 := mul_bd (x := sSlope T T.length * g * 6284) (d := b - (a + b) / 2) (X := 1021333995520000) (B := 1024) (by omega) h4.2 (by omega) (by omega)
  have h6 : 0 ≤ sSlope T T.length * g * 6284 * (b - (a + b) / 2) := Int.mul_nonneg h4.1 (by omega)
  omega

/-- circle.arc -/
theorem h86 : Ok 32 sArc := by
  refine mk (ctr := [(30, sValue), (46, sSize), (48, sCeil)]) ⟨h84, h90, h119, trivial⟩ (nt := 53) Tryd.func32 rfl rfl rfl rfl (by kernel_rfl) (by kernel_rfl) (fun x => [fun _ => arAnn x.1.1]) ?_
  rintro ⟨⟨(T : List Int), (g : Int), _⟩, ⟨(a : Int), (b : Int), _⟩, _⟩ ⟨(hT : GoodLoop T g), (ha : fArcErr a b = 0)⟩
  have hl := hT.le
  have ha := arc_of ha
  repeat' (intro hzz; (try (rename Two => hq; cases hq)); (try dsimp only at hzz); (try simp only [resTy, argTy, eqD, inR, big, wantOf, Bool.not_true, Bool.not_false, Bool.true_eq, decide_eq_true_eq, decide_eq_false_iff_not, Bool.not_eq_true', Bool.not_eq_false', Bool.and_eq_true, Prod.mk.injEq, and_true, true_and, Int.not_lt, Int.not_le, gt_iff_lt, ge_iff_le] at hzz); (try simp only [resTy, argTy, eqD, inR, big, wantOf, Bool.not_true, Bool.not_false, Bool.true_eq, decide_eq_true_eq, decide_eq_false_iff_not, Bool.not_eq_true', Bool.not_eq_false', Bool.and_eq_true, Prod.mk.injEq, and_true, true_and, Int.not_lt, Int.not_le, gt_iff_lt, ge_iff_le, getD_i, pSize, pRound, pFloor, fSize] at hzz); (try (revert hzz; intro _)))
  all_goals try (rename Unit => hq; clear hq)
  all_goals try ((with_reducible refine Held.mk ?_); (with_reducible (first | refine Frz.mk ?_ | refine And.intro (Frz.mk ?_) ?_ | refine And.intro ?_ (Frz.mk ?_))); repeat' first | exact True.intro | (change _ = _; with_reducible rfl) | refine And.intro ?_ ?_ | (with_reducible refine Frz.mk ?_))
  all_goals try (refine Held.mk ?_; (try dsimp only at *); (try simp only [resTy, argTy, eqD, inR, big, wantOf, Bool.not_true, Bool.not_false, Bool.true_eq, decide_eq_true_eq, decide_eq_false_iff_not, Bool.not_eq_true', Bool.not_eq_false', Bool.and_eq_true, Prod.mk.injEq, and_true, true_and, Int.not_lt, Int.not_le, gt_iff_lt, ge_iff_le] at *); (try simp only [resTy, argTy, eqD, inR, big, wantOf, Bool.not_true, Bool.not_false, Bool.true_eq, decide_eq_true_eq, decide_eq_false_iff_not, Bool.not_eq_true', Bool.not_eq_false', Bool.and_eq_true, Prod.mk.injEq, and_true, true_and, Int.not_lt, Int.not_le, gt_iff_lt, ge_iff_le, getD_i, pSize, pRound, pFloor, fSize] at *))
  all_goals try omega
  all_goals have e : (a + b).tdiv 2 = (a + b) / 2 := Int.tdiv_eq_ediv_of_nonneg (by omega)
  · rw [e]; omega
  ·
    refine GHeld.mk ?_
    refine Exists.intro (0 : Nat) ?_
    refine And.intro (Leaf.mk ?_) ?_
    · repeat' first | exact True.intro | refine And.intro ?_ ?_
      all_goals try ((change _ = _ <;> try dsimp only) <;> try with_reducible rfl)
      all_goals try omega
      all_goals (rfl)
    exact Nat.zero_le _
  all_goals try
    (rename_i k h1 h2
     have hk : k < T.length := by omega
     have hv := hT.val k hk
     have a1 := slope_le hT h1
     have c1 := mul_bd (x := (k : Int)) (d := ((T.getD k 0).natAbs : Int)) (X := 32) (B := 16384) (by omega) (by omega) (by omega) (by omega)
     omega)
  · rename_i k h1 h2
    have hk : k < T.length := by omega
    refine GHeld.mk ?_
    refine Exists.intro (k + 1) ?_
    refine And.intro (Leaf.mk ?_) ?_
    · repeat' first | exact True.intro | refine And.intro ?_ ?_
      all_goals try ((change _ = _ <;> try dsimp only) <;> try with_reducible rfl)
      all_goals try omega
      all_goals (rfl)
    refine ⟨hk, ?_⟩
    change T.length - (k + 1) < T.length - k
    omega
  all_goals rename_i k h1 h2
  all_goals obtain rfl : k = T.length := by omega
  all_goals have b1 := slopes_le hT ha
  all_goals have b2 := valueR_le hT ((a + b) / 2)
  all_goals try rw [e]
  all_goals try omega
  · have h5 : 0 ≤ (a + b) / 2 ∧ (a + b) / 2 ≤ 2048 := by clear e b1 b2; omega
    have h6 : -1000000 ≤ (a + b) / 2 ∧ (a + b) / 2 ≤ 1000000 := by omega
    exact ⟨hT, h6⟩
  · simp only [fCeil]; omega
  · exact ⟨rfl, rfl, rfl⟩

def vaErr (T : List Int) (g m : Int) : Int := if fCheckLoop T g = 0 then (bif decide (-1000000 ≤ m ∧ m ≤ 1000000) then 0 else 2) else fCheckLoop T g
theorem vaErr_ok {T : List Int} {g m : Int} (h : vaErr T g m = 0) : GoodLoop T g ∧ -1000000 ≤ m ∧ m ≤ 1000000 := by
  unfold vaErr at h
  split at h
  · rename_i hc
    by_cases hm : -1000000 ≤ m ∧ m ≤ 1000000
    · exact ⟨loop_of hc, hm⟩
    · simp [hm] at h
  · rename_i hc; exact absurd h hc

def fValueAt (T : List Int) (g m : Int) : III × Int := if vaErr T g m = 0 then (valueI T g m, 0) else ((0, 0, 0, ()), vaErr T g m)
@[reducible] def sValueAt : Spec := { pats := [.dat LoopT, .dat I64], res := [{ t := Ball }, { t := I64 }], pre := fun x => True, f := fun x => ((fValueAt x.1.1 x.1.2.1 x.2.1).1, (fValueAt x.1.1 x.1.2.1 x.2.1).2, ()) }

theorem first2 (e f : Int) : firstI [e, f] = if e = 0 then f else e := by
  simp only [firstI]
  by_cases h : e = 0
  · rw [if_pos h, if_pos h]
    by_cases hf : f = 0
    · rw [if_pos hf, hf]
    · rw [if_neg hf]
  · rw [if_neg h, if_neg h]

theorem pLen2 {n : Nat} (h : n ≤ 4611686018427387904) : pLen n := by simp only [pLen]; omega

/-- ValueAt -/
theorem h22 : Ok 11 sValueAt := by
  refine mk (ctr := [(27, sCheckLoop), (29, sSmall), (28, sUnless), (26, sFirst), (30, sValue)]) ⟨h57, h83, h82, h81, h84, trivial⟩ (nt := 22) Tryd.func11 rfl rfl rfl rfl (by kernel_rfl) (by kernel_rfl) (fun _ => []) ?_
  rintro ⟨⟨(T : List Int), (g : Int), _⟩, (m : Int), _⟩ _
  repeat' (intro hzz; (try (rename Two => hq; cases hq)); (try dsimp only at hzz); (try simp only [resTy, argTy, eqD, inR, big, wantOf, Bool.not_true, Bool.not_false, Bool.true_eq, decide_eq_true_eq, decide_eq_false_iff_not, Bool.not_eq_true', Bool.not_eq_false', Bool.and_eq_true, Prod.mk.injEq, and_true, true_and, Int.not_lt, Int.not_le, gt_iff_lt, ge_iff_le] at hzz); (try simp only [resTy, argTy, eqD, inR, big, wantOf, Bool.not_true, Bool.not_false, Bool.true_eq, decide_eq_true_eq, decide_eq_false_iff_not, Bool.not_eq_true', Bool.not_eq_false', Bool.and_eq_true, Prod.mk.injEq, and_true, true_and, Int.not_lt, Int.not_le, gt_iff_lt, ge_iff_le, pSmall, first2, fWithin] at hzz); (try (revert hzz; intro _)))
  all_goals try (rename Unit => hq; clear hq)
  all_goals try ((with_reducible refine Held.mk ?_); (with_reducible (first | refine Frz.mk ?_ | refine And.intro (Frz.mk ?_) ?_ | refine And.intro ?_ (Frz.mk ?_))); repeat' first | exact True.intro | (change _ = _; with_reducible rfl) | refine And.intro ?_ ?_ | (with_reducible refine Frz.mk ?_))
  all_goals try (refine Held.mk ?_; (try dsimp only at *); (try simp only [resTy, argTy, eqD, inR, big, wantOf, Bool.not_true, Bool.not_false, Bool.true_eq, decide_eq_true_eq, decide_eq_false_iff_not, Bool.not_eq_true', Bool.not_eq_false', Bool.and_eq_true, Prod.mk.injEq, and_true, true_and, Int.not_lt, Int.not_le, gt_iff_lt, ge_iff_le] at *); (try simp only [resTy, argTy, eqD, inR, big, wantOf, Bool.not_true, Bool.not_false, Bool.true_eq, decide_eq_true_eq, decide_eq_false_iff_not, Bool.not_eq_true', Bool.not_eq_false', Bool.and_eq_true, Prod.mk.injEq, and_true, true_and, Int.not_lt, Int.not_le, gt_iff_lt, ge_iff_le, pSmall, first2, fWithin] at *))
  all_goals try omega
  · exact pLen2 (by simp)
  · rename_i h
    replace h : ¬ vaErr T g m = 0 := h
    change (0 = (fValueAt T g m).1.1 ∧ 0 = (fValueAt T g m).1.2.1 ∧ 0 = (fValueAt T g m).1.2.2.1) ∧ vaErr T g m = (fValueAt T g m).2
    simp only [fValueAt]; rw [if_neg h]; exact ⟨⟨rfl, rfl, rfl⟩, rfl⟩
  · rename_i h; exact vaErr_ok h
  · rename_i h
    replace h : vaErr T g m = 0 := h
    simp only [fValueAt]; rw [if_pos h]; exact ⟨⟨rfl, rfl, rfl⟩, rfl⟩

def abErr (T : List Int) (g a b : Int) : Int := if fCheckLoop T g = 0 then fArcErr a b else fCheckLoop T g
def fArcBall (T : List Int) (g a b : Int) : III × Int := if abErr T g a b = 0 then (arcI T g a b, 0) else ((0, 0, 0, ()), abErr T g a b)
@[reducible] def sArcBall : Spec := { pats := [.dat LoopT, .dat ArcT], res := [{ t := Ball }, { t := I64 }], pre := fun x => True, f := fun x => ((fArcBall x.1.1 x.1.2.1 x.2.1.1 x.2.1.2.1).1, (fArcBall x.1.1 x.1.2.1 x.2.1.1 x.2.1.2.1).2, ()) }

/-- ArcBall -/
theorem h24 : Ok 13 sArcBall := by
  refine mk (ctr := [(27, sCheckLoop), (31, sArcErr), (26, sFirst), (32, sArc)]) ⟨h57, h85, h81, h86, trivial⟩ (nt := 21) Tryd.func13 rfl rfl rfl rfl (by kernel_rfl) (by kernel_rfl) (fun _ => []) ?_
  rintro ⟨⟨(T : List Int), (g : Int), _⟩, ⟨(a : Int), (b : Int), _⟩, _⟩ _
  repeat' (intro hzz; (try (rename Two => hq; cases hq)); (try dsimp only at hzz); (try simp only [resTy, argTy, eqD, inR, big, wantOf, Bool.not_true, Bool.not_false, Bool.true_eq, decide_eq_true_eq, decide_eq_false_iff_not, Bool.not_eq_true', Bool.not_eq_false', Bool.and_eq_true, Prod.mk.injEq, and_true, true_and, Int.not_lt, Int.not_le, gt_iff_lt, ge_iff_le] at hzz); (try simp only [resTy, argTy, eqD, inR, big, wantOf, Bool.not_true, Bool.not_false, Bool.true_eq, decide_eq_true_eq, decide_eq_false_iff_not, Bool.not_eq_true', Bool.not_eq_false', Bool.and_eq_true, Prod.mk.injEq, and_true, true_and, Int.not_lt, Int.not_le, gt_iff_lt, ge_iff_le, pSmall, first2, fWithin] at hzz); (try (revert hzz; intro _)))
  all_goals try (rename Unit => hq; clear hq)
  all_goals try ((with_reducible refine Held.mk ?_); (with_reducible (first | refine Frz.mk ?_ | refine And.intro (Frz.mk ?_) ?_ | refine And.intro ?_ (Frz.mk ?_))); repeat' first | exact True.intro | (change _ = _; with_reducible rfl) | refine And.intro ?_ ?_ | (with_reducible refine Frz.mk ?_))
  all_goals try (refine Held.mk ?_; (try dsimp only at *); (try simp only [resTy, argTy, eqD, inR, big, wantOf, Bool.not_true, Bool.not_false, Bool.true_eq, decide_eq_true_eq, decide_eq_false_iff_not, Bool.not_eq_true', Bool.not_eq_false', Bool.and_eq_true, Prod.mk.injEq, and_true, true_and, Int.not_lt, Int.not_le, gt_iff_lt, ge_iff_le] at *); (try simp only [resTy, argTy, eqD, inR, big, wantOf, Bool.not_true, Bool.not_false, Bool.true_eq, decide_eq_true_eq, decide_eq_false_iff_not, Bool.not_eq_true', Bool.not_eq_false', Bool.and_eq_true, Prod.mk.injEq, and_true, true_and, Int.not_lt, Int.not_le, gt_iff_lt, ge_iff_le, pSmall, first2, fWithin] at *))
  all_goals try omega
  · exact pLen2 (by simp)
  · rename_i h
    replace h : ¬ abErr T g a b = 0 := h
    change (0 = (fArcBall T g a b).1.1 ∧ 0 = (fArcBall T g a b).1.2.1 ∧ 0 = (fArcBall T g a b).1.2.2.1) ∧ abErr T g a b = (fArcBall T g a b).2
    simp only [fArcBall]; rw [if_neg h]; exact ⟨⟨rfl, rfl, rfl⟩, rfl⟩
  · rename_i h
    split at h
    · rename_i hc; exact ⟨loop_of hc, h⟩
    · rename_i hc; exact absurd h hc
  · rename_i h
    replace h : abErr T g a b = 0 := h
    simp only [fArcBall]; rw [if_pos h]; exact ⟨⟨rfl, rfl, rfl⟩, rfl⟩

end Go.Eng.Lp
