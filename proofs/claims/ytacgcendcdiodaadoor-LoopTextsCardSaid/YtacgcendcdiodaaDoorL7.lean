/- Contracts of the checks of loops, arcs and lines. Conditions: each contract's own. -/
import Derived.Test.YtacgcendcdiodaaDoorL6
namespace Go.Eng.Lp
open Go.Eng Go.Proofs
set_option linter.all false
set_option maxRecDepth 100000
set_option maxHeartbeats 8000000

theorem findI_any (p : Int → Bool) : ∀ (xs : List Int) (i : Nat), decide (findI p xs i ≥ 0) = xs.any p
  | [], i => by simp [findI]
  | x :: r, i => by
    simp only [findI, List.any_cons]
    by_cases h : p x = true
    · have h2 : (if p x = true then (i : Int) else findI p r (i + 1)) = i := if_pos h
      simp only [h, if_true, Bool.true_or, decide_eq_true_eq]
      omega
    · have h' : p x = false := by simpa using h
      simp only [h', Bool.false_eq_true, if_false, Bool.false_or]
      exact findI_any p r (i + 1)

@[reducible] def sCont102 : Spec := { pats := [.dat (.sl I64), .lit (.func (.func 44) #[] #[])], res := [{ t := .bool }], pre := fun x => pLen (List.length (α := Int) x.1), f := fun x => (List.any (α := Int) x.1 big102, ()) }

/-- slices.ContainsFunc, with CheckLoop's literal -/
theorem h101 : Ok 43 sCont102 := by
  refine mk (ctr := [(62, sIdx102)]) ⟨h121, trivial⟩ (nt := 9) Tryd.func43 rfl rfl rfl rfl (by kernel_rfl) (by kernel_rfl) (fun _ => []) ?_
  rintro ⟨(xs : List Int), _⟩ (hp : pLen xs.length)
  repeat' (intro hzz; (try (rename Two => hq; cases hq)); (try dsimp only at hzz); (try simp only [resTy, argTy, eqD, inR, big, wantOf, Bool.not_true, Bool.not_false, Bool.true_eq, decide_eq_true_eq, decide_eq_false_iff_not, Bool.not_eq_true', Bool.not_eq_false', Bool.and_eq_true, Prod.mk.injEq, and_true, true_and, Int.not_lt, Int.not_le, gt_iff_lt, ge_iff_le] at hzz); (try (revert hzz; intro _)))
  all_goals try (rename Unit => hq; clear hq)
  all_goals try ((with_reducible refine Held.mk ?_); (with_reducible (first | refine Frz.mk ?_ | refine And.intro (Frz.mk ?_) ?_ | refine And.intro ?_ (Frz.mk ?_))); repeat' first | exact True.intro | (change _ = _; with_reducible rfl) | refine And.intro ?_ ?_ | (with_reducible refine Frz.mk ?_))
  all_goals try (refine Held.mk ?_; (try dsimp only at *); (try simp only [resTy, argTy, eqD, inR, big, wantOf, Bool.not_true, Bool.not_false, Bool.true_eq, decide_eq_true_eq, decide_eq_false_iff_not, Bool.not_eq_true', Bool.not_eq_false', Bool.and_eq_true, Prod.mk.injEq, and_true, true_and, Int.not_lt, Int.not_le, gt_iff_lt, ge_iff_le] at *))
  · exact hp
  · exact findI_any _ _ _

abbrev LoopT : Ty := .cons (.sl I64) (.cons I64 .nil)

def fCheckLoop (taps : List Int) (gain : Int) : Int :=
  if taps.length = 0 then 10 else if 32 < taps.length then 8 else if taps.getD 0 0 ≠ 0 then 11 else if taps.any big102 = true ∨ ¬ (0 ≤ gain ∧ gain ≤ 10000) then 2 else 0

@[reducible] def sCheckLoop : Spec := { pats := [.dat LoopT], res := [{ t := I64 }], pre := fun x => True, f := fun x => (fCheckLoop x.1.1 x.1.2.1, ()) }

/-- CheckLoop -/
theorem h57 : Ok 27 sCheckLoop := by
  refine mk (ctr := [(43, sCont102), (22, sWithin)]) ⟨h101, h89, trivial⟩ (nt := 29) Tryd.func27 rfl rfl rfl rfl (by kernel_rfl) (by kernel_rfl) (fun _ => []) ?_
  rintro ⟨⟨(taps : List Int), (gain : Int), _⟩, _⟩ _
  repeat' (intro hzz; (try (rename Two => hq; cases hq)); (try dsimp only at hzz); (try simp only [resTy, argTy, eqD, inR, big, wantOf, Bool.not_true, Bool.not_false, Bool.true_eq, decide_eq_true_eq, decide_eq_false_iff_not, Bool.not_eq_true', Bool.not_eq_false', Bool.and_eq_true, Prod.mk.injEq, and_true, true_and, Int.not_lt, Int.not_le, gt_iff_lt, ge_iff_le] at hzz); (try simp only [resTy, argTy, eqD, inR, big, wantOf, Bool.not_true, Bool.not_false, Bool.true_eq, decide_eq_true_eq, decide_eq_false_iff_not, Bool.not_eq_true', Bool.not_eq_false', Bool.and_eq_true, Prod.mk.injEq, and_true, true_and, Int.not_lt, Int.not_le, gt_iff_lt, ge_iff_le, fCheckLoop] at hzz); (try (revert hzz; intro _)))
  all_goals try (rename Unit => hq; clear hq)
  all_goals try ((with_reducible refine Held.mk ?_); (with_reducible (first | refine Frz.mk ?_ | refine And.intro (Frz.mk ?_) ?_ | refine And.intro ?_ (Frz.mk ?_))); repeat' first | exact True.intro | (change _ = _; with_reducible rfl) | refine And.intro ?_ ?_ | (with_reducible refine Frz.mk ?_))
  all_goals try (refine Held.mk ?_; (try dsimp only at *); (try simp only [resTy, argTy, eqD, inR, big, wantOf, Bool.not_true, Bool.not_false, Bool.true_eq, decide_eq_true_eq, decide_eq_false_iff_not, Bool.not_eq_true', Bool.not_eq_false', Bool.and_eq_true, Prod.mk.injEq, and_true, true_and, Int.not_lt, Int.not_le, gt_iff_lt, ge_iff_le] at *); (try simp only [resTy, argTy, eqD, inR, big, wantOf, Bool.not_true, Bool.not_false, Bool.true_eq, decide_eq_true_eq, decide_eq_false_iff_not, Bool.not_eq_true', Bool.not_eq_false', Bool.and_eq_true, Prod.mk.injEq, and_true, true_and, Int.not_lt, Int.not_le, gt_iff_lt, ge_iff_le, fCheckLoop] at *))
  · rename_i h
    rw [if_pos (by omega)]
  · rename_i h1 h2
    rw [if_neg (by omega), if_pos (by omega)]
  · omega
  · rename_i h1 h2 h3
    rw [if_neg (by omega), if_neg (by omega)]
    have h3 : taps.getD 0 0 ≠ 0 := h3
    rw [if_pos h3]
  · rename_i h1 h2 h3
    have : (taps.length : Int) ≤ 4611686018427387904 := by omega
    exact this
  · rename_i h1 h2 h3 h0 h4
    rw [if_neg (by omega), if_neg (by omega)]
    have h3 : taps.getD 0 0 = 0 := h3
    rw [if_neg (by simpa using h3), if_pos (.inr h4)]
  · rename_i h1 h2 h3 h0 h4
    rw [if_neg (by omega), if_neg (by omega)]
    have h3 : taps.getD 0 0 = 0 := h3
    rw [if_neg (by simpa using h3), if_neg]
    rintro (h | h)
    · rw [h0] at h; cases h
    · exact h h4
  · rename_i h1 h2 h3 h0
    rw [if_neg (by omega), if_neg (by omega)]
    have h3 : taps.getD 0 0 = 0 := h3
    rw [if_neg (by simpa using h3), if_pos (.inl h0)]

def fArcErr (fr to : Int) : Int := if (0 ≤ fr ∧ fr ≤ 2048) ∧ (0 ≤ to ∧ to ≤ 2048) then (if fr ≤ to then 0 else 9) else 2
@[reducible] def sArcErr : Spec := { pats := [.dat ArcT], res := [{ t := I64 }], pre := fun x => True, f := fun x => (fArcErr x.1.1 x.1.2.1, ()) }

/-- arcErr -/
theorem h85 : Ok 31 sArcErr := by
  refine mk (ctr := [(22, sWithin), (28, sUnless), (26, sFirst)]) ⟨h89, h82, h81, trivial⟩ (nt := 20) Tryd.func31 rfl rfl rfl rfl (by kernel_rfl) (by kernel_rfl) (fun _ => []) ?_
  rintro ⟨⟨(fr : Int), (to : Int), _⟩, _⟩ _
  repeat' (intro hzz; (try (rename Two => hq; cases hq)); (try dsimp only at hzz); (try simp only [resTy, argTy, eqD, inR, big, wantOf, Bool.not_true, Bool.not_false, Bool.true_eq, decide_eq_true_eq, decide_eq_false_iff_not, Bool.not_eq_true', Bool.not_eq_false', Bool.and_eq_true, Prod.mk.injEq, and_true, true_and, Int.not_lt, Int.not_le, gt_iff_lt, ge_iff_le] at hzz); (try simp only [resTy, argTy, eqD, inR, big, wantOf, Bool.not_true, Bool.not_false, Bool.true_eq, decide_eq_true_eq, decide_eq_false_iff_not, Bool.not_eq_true', Bool.not_eq_false', Bool.and_eq_true, Prod.mk.injEq, and_true, true_and, Int.not_lt, Int.not_le, gt_iff_lt, ge_iff_le, fArcErr] at hzz); (try (revert hzz; intro _)))
  all_goals try (rename Unit => hq; clear hq)
  all_goals try ((with_reducible refine Held.mk ?_); (with_reducible (first | refine Frz.mk ?_ | refine And.intro (Frz.mk ?_) ?_ | refine And.intro ?_ (Frz.mk ?_))); repeat' first | exact True.intro | (change _ = _; with_reducible rfl) | refine And.intro ?_ ?_ | (with_reducible refine Frz.mk ?_))
  all_goals try (refine Held.mk ?_; (try dsimp only at *); (try simp only [resTy, argTy, eqD, inR, big, wantOf, Bool.not_true, Bool.not_false, Bool.true_eq, decide_eq_true_eq, decide_eq_false_iff_not, Bool.not_eq_true', Bool.not_eq_false', Bool.and_eq_true, Prod.mk.injEq, and_true, true_and, Int.not_lt, Int.not_le, gt_iff_lt, ge_iff_le] at *); (try simp only [resTy, argTy, eqD, inR, big, wantOf, Bool.not_true, Bool.not_false, Bool.true_eq, decide_eq_true_eq, decide_eq_false_iff_not, Bool.not_eq_true', Bool.not_eq_false', Bool.and_eq_true, Prod.mk.injEq, and_true, true_and, Int.not_lt, Int.not_le, gt_iff_lt, ge_iff_le, fArcErr] at *))
  · simp [pLen]
  · rename_i h
    simp only [firstI, fWithin]
    by_cases h1 : fr ≤ to <;> by_cases h2 : (0 ≤ to ∧ to ≤ 2048) <;> simp [h, h1, h2]
  · simp [pLen]
  · rename_i h
    have h2 : ¬ ((0 ≤ fr ∧ fr ≤ 2048) ∧ 0 ≤ to ∧ to ≤ 2048) := fun hc => h hc.1
    rw [if_neg h2]
    rfl

@[reducible] def sOne : Spec := { pats := [], res := [{ t := LoopT }], pre := fun x => True, f := fun x => ((([0, 8192] : List Int), (1000 : Int), ()), ()) }

/-- One -/
theorem h76 : Ok 12 sOne := by
  refine mk (ctr := []) trivial (nt := 3) Tryd.func12 rfl rfl rfl rfl (by kernel_rfl) (by kernel_rfl) (fun _ => []) ?_
  rintro _ _
  repeat' (intro hzz; (try (rename Two => hq; cases hq)); (try dsimp only at hzz); (try simp only [resTy, argTy, eqD, inR, big, wantOf, Bool.not_true, Bool.not_false, Bool.true_eq, decide_eq_true_eq, decide_eq_false_iff_not, Bool.not_eq_true', Bool.not_eq_false', Bool.and_eq_true, Prod.mk.injEq, and_true, true_and, Int.not_lt, Int.not_le, gt_iff_lt, ge_iff_le] at hzz); (try (revert hzz; intro _)))
  all_goals try (rename Unit => hq; clear hq)
  all_goals try ((with_reducible refine Held.mk ?_); (with_reducible (first | refine Frz.mk ?_ | refine And.intro (Frz.mk ?_) ?_ | refine And.intro ?_ (Frz.mk ?_))); repeat' first | exact True.intro | (change _ = _; with_reducible rfl) | refine And.intro ?_ ?_ | (with_reducible refine Frz.mk ?_))
  all_goals try (refine Held.mk ?_; (try dsimp only at *); (try simp only [resTy, argTy, eqD, inR, big, wantOf, Bool.not_true, Bool.not_false, Bool.true_eq, decide_eq_true_eq, decide_eq_false_iff_not, Bool.not_eq_true', Bool.not_eq_false', Bool.and_eq_true, Prod.mk.injEq, and_true, true_and, Int.not_lt, Int.not_le, gt_iff_lt, ge_iff_le] at *))

/-- base.Ints -/
def intsAnn (a b : List Int) : LoopAnn := { σ := Nat × Unit, pat := fun i => [sI 5 i.1], inv := fun i => i.1 ≤ a.length ∧ a.take i.1 = b.take i.1, meas := fun i => a.length - i.1 }
@[reducible] def sInts : Spec := { pats := [.dat (.sl I64), .dat (.sl I64)], res := [{ t := .bool }], pre := fun x => pLen (List.length (α := Int) x.1), f := fun x => (decide ((x.1 : List Int) = x.2.1), ()) }
theorem h37 : Ok 16 sInts := by
  refine mk (ctr := []) trivial (nt := 26) Tryd.func16 rfl rfl rfl rfl (by kernel_rfl) (by kernel_rfl) (fun x => [fun _ => intsAnn x.1 x.2.1]) ?_
  rintro ⟨(a : List Int), (b : List Int), _⟩ (hp : pLen a.length)
  repeat' (intro hzz; (try (rename Two => hq; cases hq)); (try dsimp only at hzz); (try simp only [resTy, argTy, eqD, inR, big, wantOf, Bool.not_true, Bool.not_false, Bool.true_eq, decide_eq_true_eq, decide_eq_false_iff_not, Bool.not_eq_true', Bool.not_eq_false', Bool.and_eq_true, Prod.mk.injEq, and_true, true_and, Int.not_lt, Int.not_le, gt_iff_lt, ge_iff_le] at hzz); (try simp only [resTy, argTy, eqD, inR, big, wantOf, Bool.not_true, Bool.not_false, Bool.true_eq, decide_eq_true_eq, decide_eq_false_iff_not, Bool.not_eq_true', Bool.not_eq_false', Bool.and_eq_true, Prod.mk.injEq, and_true, true_and, Int.not_lt, Int.not_le, gt_iff_lt, ge_iff_le, getD_i] at hzz); (try (revert hzz; intro _)))
  all_goals try (rename Unit => hq; clear hq)
  all_goals try ((with_reducible refine Held.mk ?_); (with_reducible (first | refine Frz.mk ?_ | refine And.intro (Frz.mk ?_) ?_ | refine And.intro ?_ (Frz.mk ?_))); repeat' first | exact True.intro | (change _ = _; with_reducible rfl) | refine And.intro ?_ ?_ | (with_reducible refine Frz.mk ?_))
  all_goals try (refine Held.mk ?_; (try dsimp only at *); (try simp only [resTy, argTy, eqD, inR, big, wantOf, Bool.not_true, Bool.not_false, Bool.true_eq, decide_eq_true_eq, decide_eq_false_iff_not, Bool.not_eq_true', Bool.not_eq_false', Bool.and_eq_true, Prod.mk.injEq, and_true, true_and, Int.not_lt, Int.not_le, gt_iff_lt, ge_iff_le] at *); (try simp only [resTy, argTy, eqD, inR, big, wantOf, Bool.not_true, Bool.not_false, Bool.true_eq, decide_eq_true_eq, decide_eq_false_iff_not, Bool.not_eq_true', Bool.not_eq_false', Bool.and_eq_true, Prod.mk.injEq, and_true, true_and, Int.not_lt, Int.not_le, gt_iff_lt, ge_iff_le, getD_i] at *))
  · rename_i h
    symm
    rw [decide_eq_false_iff_not]
    intro hc
    rw [hc] at h
    exact h rfl
  ·
    refine GHeld.mk ?_
    refine Exists.intro (0, ()) ?_
    refine And.intro (Leaf.mk ?_) ?_
    · repeat' first | exact True.intro | refine And.intro ?_ ?_
      all_goals try ((change _ = _ <;> try dsimp only) <;> try with_reducible rfl)
      all_goals try omega
    exact ⟨Nat.zero_le _, rfl⟩
  · rename_i h0 s hi hg
    exact ⟨Int.natCast_nonneg s.1, hg⟩
  · rename_i h0 s hi hg
    exact ⟨Int.natCast_nonneg s.1, by rw [← h0]; exact hg⟩
  · rename_i h0 s hi hg hg'
    symm
    rw [decide_eq_false_iff_not]
    intro hc
    rw [hc] at hg'
    simp at hg'
  · rename_i h0 s hi hg hg'
    obtain ⟨i, u⟩ := s
    have := hp.out
    dsimp only at *
    have h0 : (0 : Int) ≤ (i : Int) := Int.natCast_nonneg i
    omega
  · rename_i h0 s hi hg hg'
    obtain ⟨i, u⟩ := s
    all_goals try dsimp only at h0 hg hg'
    all_goals try simp only [resTy, argTy, eqD, inR, big, wantOf, Bool.not_true, Bool.not_false, Bool.true_eq, decide_eq_true_eq, decide_eq_false_iff_not, Bool.not_eq_true', Bool.not_eq_false', Bool.and_eq_true, Prod.mk.injEq, and_true, true_and, Int.not_lt, Int.not_le, gt_iff_lt, ge_iff_le] at h0 hg hg'
    all_goals try simp only [resTy, argTy, eqD, inR, big, wantOf, Bool.not_true, Bool.not_false, Bool.true_eq, decide_eq_true_eq, decide_eq_false_iff_not, Bool.not_eq_true', Bool.not_eq_false', Bool.and_eq_true, Prod.mk.injEq, and_true, true_and, Int.not_lt, Int.not_le, gt_iff_lt, ge_iff_le, getD_i] at h0 hg hg'
    have hab : a.length = b.length := by have h : (a.length : Int) = b.length := h0; omega
    have hlt : i < a.length := by simpa using hg
    have he : a.getD i 0 = b.getD i 0 := by simpa using hg'
    refine GHeld.mk ?_
    refine Exists.intro (i + 1, ()) ?_
    refine And.intro (Leaf.mk ?_) ?_
    · repeat' first | exact True.intro | refine And.intro ?_ ?_
      all_goals try ((change _ = _ <;> try dsimp only) <;> try with_reducible rfl)
      all_goals try omega
    refine ⟨⟨hlt, ?_⟩, by simp only [intsAnn]; omega⟩
    have h2 : a.take i = b.take i := hi.2
    dsimp only
    rw [List.take_add_one, List.take_add_one, h2]
    have hla : i < b.length := by omega
    simp only [List.getD, List.getElem?_eq_getElem hlt, List.getElem?_eq_getElem hla, Option.getD_some] at he ⊢
    rw [he]
  · rename_i h0 s hi hg
    obtain ⟨i, u⟩ := s
    have h2 : a.take i = b.take i := hi.2
    have hg : a.length ≤ i := by simpa using hg
    have hab : a.length = b.length := by have h : (a.length : Int) = b.length := h0; omega
    rw [List.take_of_length_le hg, List.take_of_length_le (by omega)] at h2
    exact h2

end Go.Eng.Lp
