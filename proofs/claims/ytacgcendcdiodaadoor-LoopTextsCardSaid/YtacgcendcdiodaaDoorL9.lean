/- Contract of CheckLines. Conditions: none. -/
import Derived.Test.YtacgcendcdiodaaDoorL8
namespace Go.Eng.Lp
open Go.Eng Go.Proofs
set_option linter.all false
set_option maxRecDepth 100000
set_option maxHeartbeats 8000000

def clRow : List Int → Int
  | [] => 0
  | n :: r => if 0 ≤ n ∧ n ≤ 2000 then clRow r else 2
def clRows (N : Nat) : List (List Int) → Int
  | [] => 0
  | r :: t => if r.length = N then (if clRow r = 0 then clRows N t else 2) else 10
def fCheckLines (rows : List (List Int)) : Int := if fCountErr rows.length = 0 then clRows rows.length rows else fCountErr rows.length

theorem clRow_two : ∀ row : List Int, clRow row = 0 ∨ clRow row = 2
  | [] => .inl rfl
  | n :: r => by
    simp only [clRow]
    split
    · exact clRow_two r
    · exact .inr rfl

theorem clRow_step {row : List Int} {k : Nat} (h : k < row.length) : clRow (row.drop k) = if 0 ≤ row.getD k 0 ∧ row.getD k 0 ≤ 2000 then clRow (row.drop (k + 1)) else 2 := by
  rw [drop_get h]; rfl
theorem clRows_step {N : Nat} {rows : List (List Int)} {i : Nat} (h : i < rows.length) :
    clRows N (rows.drop i) = if (rows.getD i []).length = N then (if clRow (rows.getD i []) = 0 then clRows N (rows.drop (i + 1)) else 2) else 10 := by
  rw [drop_getL h]; rfl

theorem count_le {n : Nat} (h : fCountErr n = 0) : n ≤ 4 := by
  simp only [fCountErr] at h
  split at h
  · split at h
    · omega
    · omega
  · omega

def clInner (st : St) : LoopAnn := { σ := Nat × Unit, pat := fun s => [sI 30 s.1], inv := fun s => s.1 ≤ (getL 28 st).length ∧ clRow ((getL 28 st).drop s.1) = clRow (getL 28 st), meas := fun s => (getL 28 st).length - s.1 }
def clOuter (rows : List (List Int)) : LoopAnn := { σ := Nat × Unit, pat := fun s => [sI 18 s.1], inv := fun s => s.1 ≤ rows.length ∧ clRows rows.length (rows.drop s.1) = clRows rows.length rows, meas := fun s => rows.length - s.1 }

@[reducible] def sCheckLines : Spec := { pats := [.dat LinesT], res := [{ t := I64 }], pre := fun x => True, f := fun x => (fCheckLines x.1.1, ()) }

/-- CheckLines -/
theorem h47 : Ok 34 sCheckLines := by
  refine mk (ctr := [(49, sCountErr), (50, sIsSize)]) ⟨h97, h98, trivial⟩ (nt := 39) Tryd.func34 rfl rfl rfl rfl (by kernel_rfl) (by kernel_rfl) (fun x => [fun _ => clOuter x.1.1, clInner]) ?_
  rintro ⟨⟨(rows : List (List Int)), _⟩, _⟩ _
  repeat' (intro hzz; (try (rename Two => hq; cases hq)); (try dsimp only at hzz); (try simp only [resTy, argTy, eqD, inR, big, wantOf, Bool.not_true, Bool.not_false, Bool.true_eq, decide_eq_true_eq, decide_eq_false_iff_not, Bool.not_eq_true', Bool.not_eq_false', Bool.and_eq_true, Prod.mk.injEq, and_true, true_and, Int.not_lt, Int.not_le, gt_iff_lt, ge_iff_le] at hzz); (try simp only [resTy, argTy, eqD, inR, big, wantOf, Bool.not_true, Bool.not_false, Bool.true_eq, decide_eq_true_eq, decide_eq_false_iff_not, Bool.not_eq_true', Bool.not_eq_false', Bool.and_eq_true, Prod.mk.injEq, and_true, true_and, Int.not_lt, Int.not_le, gt_iff_lt, ge_iff_le, getD_l, getD_i] at hzz); (try (revert hzz; intro _)))
  all_goals try (rename Unit => hq; clear hq)
  all_goals try ((with_reducible refine Held.mk ?_); (with_reducible (first | refine Frz.mk ?_ | refine And.intro (Frz.mk ?_) ?_ | refine And.intro ?_ (Frz.mk ?_))); repeat' first | exact True.intro | (change _ = _; with_reducible rfl) | refine And.intro ?_ ?_ | (with_reducible refine Frz.mk ?_))
  all_goals try (refine Held.mk ?_; (try dsimp only at *); (try simp only [resTy, argTy, eqD, inR, big, wantOf, Bool.not_true, Bool.not_false, Bool.true_eq, decide_eq_true_eq, decide_eq_false_iff_not, Bool.not_eq_true', Bool.not_eq_false', Bool.and_eq_true, Prod.mk.injEq, and_true, true_and, Int.not_lt, Int.not_le, gt_iff_lt, ge_iff_le] at *); (try simp only [resTy, argTy, eqD, inR, big, wantOf, Bool.not_true, Bool.not_false, Bool.true_eq, decide_eq_true_eq, decide_eq_false_iff_not, Bool.not_eq_true', Bool.not_eq_false', Bool.and_eq_true, Prod.mk.injEq, and_true, true_and, Int.not_lt, Int.not_le, gt_iff_lt, ge_iff_le, getD_l, getD_i] at *))
  · rename_i h
    simp only [fCheckLines]
    rw [if_neg h]
  ·
    refine GHeld.mk ?_
    refine Exists.intro (0, ()) ?_
    refine And.intro (Leaf.mk ?_) ?_
    · repeat' first | exact True.intro | refine And.intro ?_ ?_
      all_goals try ((change _ = _ <;> try dsimp only) <;> try with_reducible rfl)
      all_goals try omega
    exact ⟨Nat.zero_le _, rfl⟩
  · rename_i hc s hi hg
    exact ⟨Int.natCast_nonneg _, hg⟩
  · rename_i hc s hi hg hl
    obtain ⟨i, u⟩ := s
    dsimp only at hg hl
    have hi' : i < rows.length := by omega
    have hm : i ≤ rows.length ∧ clRows rows.length (rows.drop i) = clRows rows.length rows := hi
    have h := hm.2
    rw [clRows_step hi', if_neg (by omega)] at h
    simp only [fCheckLines]
    rw [if_pos hc]
    exact h
  · rename_i hc s hi hg hl
    refine GHeld.mk ?_
    refine Exists.intro (0, ()) ?_
    refine And.intro (Leaf.mk ?_) ?_
    · repeat' first | exact True.intro | refine And.intro ?_ ?_
      all_goals try ((change _ = _ <;> try dsimp only) <;> try with_reducible rfl)
      all_goals try omega
    exact ⟨Nat.zero_le _, rfl⟩
  · rename_i hc s hi hg hl t ht hk
    obtain ⟨k, v⟩ := t
    dsimp only at *
    omega
  · rename_i hc s hi hg hl t ht hk hb
    obtain ⟨i, u⟩ := s
    obtain ⟨k, v⟩ := t
    dsimp only at *
    have hi' : i < rows.length := by omega
    have hk' : k < (rows.getD i []).length := by omega
    have hm : i ≤ rows.length ∧ clRows rows.length (rows.drop i) = clRows rows.length rows := hi
    have ht' : k ≤ (rows.getD i []).length ∧ clRow ((rows.getD i []).drop k) = clRow (rows.getD i []) := ht
    have h1 := ht'.2
    rw [clRow_step hk', if_neg hb] at h1
    have h := hm.2
    rw [clRows_step hi', if_pos (by omega), if_neg (by omega)] at h
    simp only [fCheckLines]
    rw [if_pos hc]
    exact h
  · rename_i hc s hi hg hl t ht hk hb
    have := count_le hc
    obtain ⟨i, u⟩ := s
    obtain ⟨k, v⟩ := t
    dsimp only at *
    omega
  · rename_i hc s hi hg hl t ht hk hb
    obtain ⟨i, u⟩ := s
    obtain ⟨k, v⟩ := t
    all_goals try dsimp only at hk hb
    all_goals try simp only [resTy, argTy, eqD, inR, big, wantOf, Bool.not_true, Bool.not_false, Bool.true_eq, decide_eq_true_eq, decide_eq_false_iff_not, Bool.not_eq_true', Bool.not_eq_false', Bool.and_eq_true, Prod.mk.injEq, and_true, true_and, Int.not_lt, Int.not_le, gt_iff_lt, ge_iff_le] at hk hb
    all_goals try simp only [resTy, argTy, eqD, inR, big, wantOf, Bool.not_true, Bool.not_false, Bool.true_eq, decide_eq_true_eq, decide_eq_false_iff_not, Bool.not_eq_true', Bool.not_eq_false', Bool.and_eq_true, Prod.mk.injEq, and_true, true_and, Int.not_lt, Int.not_le, gt_iff_lt, ge_iff_le, getD_l, getD_i, fWithin] at hk hb
    have ht' : k ≤ (rows.getD i []).length ∧ clRow ((rows.getD i []).drop k) = clRow (rows.getD i []) := ht
    have hk' : k < (rows.getD i []).length := by omega
    have h1 := ht'.2
    rw [clRow_step hk', if_pos hb] at h1
    refine GHeld.mk ?_
    refine Exists.intro (k + 1, ()) ?_
    refine And.intro (Leaf.mk ?_) ?_
    · repeat' first | exact True.intro | refine And.intro ?_ ?_
      all_goals try ((change _ = _ <;> try dsimp only) <;> try with_reducible rfl)
      all_goals try omega
    refine ⟨⟨hk', h1⟩, ?_⟩
    change (rows.getD i []).length - (k + 1) < (rows.getD i []).length - k
    omega
  · rename_i hc s hi hg hl t ht hk
    have := count_le hc
    obtain ⟨i, u⟩ := s
    obtain ⟨k, v⟩ := t
    dsimp only at *
    omega
  · rename_i hc s hi hg hl t ht hk
    obtain ⟨i, u⟩ := s
    obtain ⟨k, v⟩ := t
    all_goals try dsimp only at hc hg hl hk
    all_goals try simp only [resTy, argTy, eqD, inR, big, wantOf, Bool.not_true, Bool.not_false, Bool.true_eq, decide_eq_true_eq, decide_eq_false_iff_not, Bool.not_eq_true', Bool.not_eq_false', Bool.and_eq_true, Prod.mk.injEq, and_true, true_and, Int.not_lt, Int.not_le, gt_iff_lt, ge_iff_le] at hc hg hl hk
    all_goals try simp only [resTy, argTy, eqD, inR, big, wantOf, Bool.not_true, Bool.not_false, Bool.true_eq, decide_eq_true_eq, decide_eq_false_iff_not, Bool.not_eq_true', Bool.not_eq_false', Bool.and_eq_true, Prod.mk.injEq, and_true, true_and, Int.not_lt, Int.not_le, gt_iff_lt, ge_iff_le, getD_l, getD_i] at hc hg hl hk
    have hi' : i < rows.length := by omega
    have hm : i ≤ rows.length ∧ clRows rows.length (rows.drop i) = clRows rows.length rows := hi
    have ht' : k ≤ (rows.getD i []).length ∧ clRow ((rows.getD i []).drop k) = clRow (rows.getD i []) := ht
    have h1 := ht'.2
    rw [List.drop_eq_nil_of_le (by omega)] at h1
    have h := hm.2
    rw [clRows_step hi', if_pos (by omega), if_pos (show clRow (rows.getD i []) = 0 from h1.symm)] at h
    refine GHeld.mk ?_
    refine Exists.intro (i + 1, ()) ?_
    refine And.intro (Leaf.mk ?_) ?_
    · repeat' first | exact True.intro | refine And.intro ?_ ?_
      all_goals try ((change _ = _ <;> try dsimp only) <;> try with_reducible rfl)
      all_goals try omega
    refine ⟨⟨hi', h⟩, ?_⟩
    change rows.length - (i + 1) < rows.length - i
    omega
  · rename_i hc s hi hg
    obtain ⟨i, u⟩ := s
    have hm : i ≤ rows.length ∧ clRows rows.length (rows.drop i) = clRows rows.length rows := hi
    have h := hm.2
    dsimp only at hg
    rw [List.drop_eq_nil_of_le (by omega)] at h
    simp only [fCheckLines]
    rw [if_pos hc]
    exact h

end Go.Eng.Lp
