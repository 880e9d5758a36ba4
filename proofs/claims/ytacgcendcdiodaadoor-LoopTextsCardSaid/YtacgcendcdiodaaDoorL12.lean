/- Tables and sums; contracts of minors and Minors. Conditions: each contract's own. -/
import Derived.Test.YtacgcendcdiodaaDoorL11
namespace Go.Eng.Lp
open Go.Eng Go.Proofs
set_option linter.all false
set_option maxRecDepth 100000
set_option maxHeartbeats 8000000

/-- The first k values of a function, as a list. -/
def tab {α : Type} (f : Nat → α) : Nat → List α
  | 0 => []
  | k + 1 => tab f k ++ [f k]

/-- The sum of the first k values. -/
def sm (f : Nat → Int) : Nat → Int
  | 0 => 0
  | k + 1 => sm f k + f k

theorem tab_len {α : Type} (f : Nat → α) : ∀ k, (tab f k).length = k
  | 0 => rfl
  | k + 1 => by simp [tab, tab_len f k]

theorem tab_get {α : Type} (f : Nat → α) (d : α) : ∀ k i, i < k → (tab f k).getD i d = f i
  | 0, i, h => by omega
  | k + 1, i, h => by
    simp only [tab, List.getD_eq_getElem?_getD]
    by_cases hi : i < k
    · rw [List.getElem?_append_left (by rw [tab_len]; exact hi)]
      have := tab_get f d k i hi
      rwa [List.getD_eq_getElem?_getD] at this
    · have : i = k := by omega
      subst this
      rw [List.getElem?_append_right (by rw [tab_len]; omega), tab_len]
      simp

theorem tab_congr {α : Type} {f g : Nat → α} : ∀ k, (∀ i, i < k → f i = g i) → tab f k = tab g k
  | 0, _ => rfl
  | k + 1, h => by simp only [tab]; rw [tab_congr k (fun i hi => h i (by omega)), h k (by omega)]

theorem sm_congr {f g : Nat → Int} : ∀ k, (∀ i, i < k → f i = g i) → sm f k = sm g k
  | 0, _ => rfl
  | k + 1, h => by simp only [sm]; rw [sm_congr k (fun i hi => h i (by omega)), h k (by omega)]

theorem sm_le {f : Nat → Int} {B : Int} : ∀ k : Nat, (∀ i, i < k → -B ≤ f i ∧ f i ≤ B) → -(k * B) ≤ sm f k ∧ sm f k ≤ k * B
  | 0, _ => by simp [sm]
  | k + 1, h => by
    have ih := sm_le k (fun i hi => h i (by omega))
    have := h k (by omega)
    simp only [sm]
    have e : (((k + 1 : Nat) : Int) * B) = (k : Int) * B + B := by rw [Int.natCast_add, Int.add_mul]; simp
    rw [e]
    omega

theorem list_tab {α : Type} (d : α) : ∀ (xs : List α), xs = tab (fun i => xs.getD i d) xs.length := by
  intro xs
  apply List.ext_getElem?
  intro i
  by_cases hi : i < xs.length
  · have h1 := tab_get (fun i => xs.getD i d) d xs.length i hi
    rw [List.getD_eq_getElem?_getD] at h1
    have h2 : (tab (fun i => xs.getD i d) xs.length)[i]? = some ((tab (fun i => xs.getD i d) xs.length)[i]'(by rw [tab_len]; exact hi)) := List.getElem?_eq_getElem _
    rw [h2] at h1 ⊢
    simp only [Option.getD_some] at h1
    rw [h1]
    simp [List.getD, List.getElem?_eq_getElem hi]
  · rw [List.getElem?_eq_none (by omega), List.getElem?_eq_none (by rw [tab_len]; omega)]

theorem take_getD {α : Type} (d : α) {xs : List α} {n i : Nat} (h : i < n) : (xs.take n).getD i d = xs.getD i d := by
  simp [List.getD, List.getElem?_take, h]

theorem tab_mem {α : Type} {f : Nat → α} : ∀ {k : Nat} {x : α}, x ∈ tab f k → ∃ i, i < k ∧ x = f i
  | 0, x, h => by simp [tab] at h
  | k + 1, x, h => by
    simp only [tab, List.mem_append, List.mem_singleton] at h
    rcases h with h | h
    · obtain ⟨i, h1, h2⟩ := tab_mem h
      exact ⟨i, by omega, h2⟩
    · exact ⟨k, by omega, h⟩

@[reducible] def sDetAll : Spec := { pats := [.dat MatT], res := [{ t := I64 }], pre := fun x => ∃ N, N ≤ 4 ∧ sqMat N x.1, f := fun x => (detN (List.length (α := List Int) x.1) x.1, ()) }
theorem hDet : Ok 51 sDetAll := ⟨fun w M x vs bs hM hA ⟨N, hN, hs⟩ => by
  have h := (h105 N hN).1 w M x vs bs hM hA hs
  have e : (sDet N).f x = sDetAll.f x := by
    simp only [sDet, sDetAll]
    rw [← hs.1]
  rw [e] at h
  exact h, enters105⟩

/-- The first rows and columns. -/
def corner (m : List (List Int)) (n : Nat) : List (List Int) := tab (fun r => (m.getD r []).take (n + 1)) (n + 1)
def minorN (m : List (List Int)) (n : Nat) : Int := detN (n + 1) (corner m n)
def minorsN (m : List (List Int)) : List Int := tab (minorN m) m.length

theorem sq_corner {N : Nat} {m : List (List Int)} (h : sqMat N m) {n : Nat} (hn : n < N) : sqMat (n + 1) (corner m n) := by
  refine ⟨tab_len _ _, fun r hr => ?_⟩
  obtain ⟨i, hi, rfl⟩ := tab_mem hr
  have hm : m.getD i [] ∈ m := by
    have : i < m.length := by rw [h.1]; omega
    simp [List.getD, List.getElem?_eq_getElem this]
  obtain ⟨h1, h2⟩ := h.2 _ hm
  exact ⟨by rw [List.length_take]; omega, fun x hx => h2 x (List.mem_of_mem_take hx)⟩

theorem getD_gt (xs : List (List Int)) (n : Int) (j : Nat) : List.getD (List.take n.toNat xs) ((j : Int)).toNat (Ty.dflt (.sl I64)) = (xs.take n.toNat).getD j [] := rfl

theorem row_len {N : Nat} {m : List (List Int)} (h : sqMat N m) {i : Nat} (hi : i < N) : (m.getD i []).length = N := by
  have h1 : i < m.length := by rw [h.1]; exact hi
  have hm : m.getD i [] ∈ m := by simp [List.getD, List.getElem?_eq_getElem h1]
  exact (h.2 _ hm).1

@[reducible] def sMinorsM : Spec := { pats := [.dat MatT], res := [{ t := .sl I64 }], pre := fun x => ∃ N, N ≤ 4 ∧ sqMat N x.1, f := fun x => (minorsN x.1, ()) }
def miOuter (m : List (List Int)) : LoopAnn := { σ := Nat, pat := fun k => sI 10 k :: sOwn 3 60003 3 (tab (minorN m) k), inv := fun k => k ≤ m.length, meas := fun k => m.length - k }
def miInner (m : List (List Int)) (st : St) : LoopAnn := withI 4 st fun n => { σ := Nat, pat := fun j => sI 18 j :: sOwn2 5 60005 38 (tab (fun r => (m.getD r []).take (n.toNat + 1)) j), inv := fun j => j ≤ n.toNat + 1, meas := fun j => n.toNat + 1 - j }

/-- matrix.minors -/
theorem h94 : Ok 36 sMinorsM := by
  refine mk (ctr := [(51, sDetAll)]) ⟨hDet, trivial⟩ (nt := 37) Tryd.func36 rfl rfl rfl rfl (by kernel_rfl) (by kernel_rfl) (fun x => [fun _ => miOuter x.1, miInner x.1]) ?_
  rintro ⟨(m : List (List Int)), _⟩ ⟨N, hN, (hp : sqMat N m)⟩
  have hl := hp.1
  repeat' (intro hzz; (try (rename Two => hq; cases hq)); (try dsimp only at hzz); (try simp only [resTy, argTy, eqD, inR, big, wantOf, Bool.not_true, Bool.not_false, Bool.true_eq, decide_eq_true_eq, decide_eq_false_iff_not, Bool.not_eq_true', Bool.not_eq_false', Bool.and_eq_true, Prod.mk.injEq, and_true, true_and, Int.not_lt, Int.not_le, gt_iff_lt, ge_iff_le] at hzz); (try simp only [resTy, argTy, eqD, inR, big, wantOf, Bool.not_true, Bool.not_false, Bool.true_eq, decide_eq_true_eq, decide_eq_false_iff_not, Bool.not_eq_true', Bool.not_eq_false', Bool.and_eq_true, Prod.mk.injEq, and_true, true_and, Int.not_lt, Int.not_le, gt_iff_lt, ge_iff_le, getD_l, getD_i, tab_len, List.length_take, List.length_cons, List.length_nil, Int.toNat_natCast] at hzz); (try (revert hzz; intro _)))
  all_goals try (rename Unit => hq; clear hq)
  all_goals try ((with_reducible refine Held.mk ?_); (with_reducible (first | refine Frz.mk ?_ | refine And.intro (Frz.mk ?_) ?_ | refine And.intro ?_ (Frz.mk ?_))); repeat' first | exact True.intro | (change _ = _; with_reducible rfl) | refine And.intro ?_ ?_ | (with_reducible refine Frz.mk ?_))
  all_goals try (refine Held.mk ?_; (try dsimp only at *); (try simp only [resTy, argTy, eqD, inR, big, wantOf, Bool.not_true, Bool.not_false, Bool.true_eq, decide_eq_true_eq, decide_eq_false_iff_not, Bool.not_eq_true', Bool.not_eq_false', Bool.and_eq_true, Prod.mk.injEq, and_true, true_and, Int.not_lt, Int.not_le, gt_iff_lt, ge_iff_le] at *); (try simp only [resTy, argTy, eqD, inR, big, wantOf, Bool.not_true, Bool.not_false, Bool.true_eq, decide_eq_true_eq, decide_eq_false_iff_not, Bool.not_eq_true', Bool.not_eq_false', Bool.and_eq_true, Prod.mk.injEq, and_true, true_and, Int.not_lt, Int.not_le, gt_iff_lt, ge_iff_le, getD_l, getD_i, tab_len, List.length_take, List.length_cons, List.length_nil, Int.toNat_natCast] at *))
  all_goals try omega
  ·
    refine GHeld.mk ?_
    refine Exists.intro (0 : Nat) ?_
    refine And.intro (Leaf.mk ?_) ?_
    · repeat' first | exact True.intro | refine And.intro ?_ ?_
      all_goals try ((change _ = _ <;> try dsimp only) <;> try with_reducible rfl)
      all_goals try omega
      all_goals (rfl)
    exact Nat.zero_le _
  ·
    refine GHeld.mk ?_
    refine Exists.intro (0 : Nat) ?_
    refine And.intro (Leaf.mk ?_) ?_
    · repeat' first | exact True.intro | refine And.intro ?_ ?_
      all_goals try ((change _ = _ <;> try dsimp only) <;> try with_reducible rfl)
      all_goals try omega
      all_goals (rfl)
    exact Nat.zero_le _
  · rename_i k h1 h3 j h2 h4
    have hj : j < k + 1 := by omega
    have e : (List.take ((k : Int) + 1).toNat m).getD j (Ty.dflt (.sl I64)) = m.getD j [] := take_getD [] (by omega)
    rw [e]
    have := row_len hp (i := j) (by omega)
    omega
  · rename_i k h1 h2 j h3 h4
    all_goals try dsimp only at h1 h2 h3 h4
    all_goals try simp only [resTy, argTy, eqD, inR, big, wantOf, Bool.not_true, Bool.not_false, Bool.true_eq, decide_eq_true_eq, decide_eq_false_iff_not, Bool.not_eq_true', Bool.not_eq_false', Bool.and_eq_true, Prod.mk.injEq, and_true, true_and, Int.not_lt, Int.not_le, gt_iff_lt, ge_iff_le] at h1 h2 h3 h4
    all_goals try simp only [resTy, argTy, eqD, inR, big, wantOf, Bool.not_true, Bool.not_false, Bool.true_eq, decide_eq_true_eq, decide_eq_false_iff_not, Bool.not_eq_true', Bool.not_eq_false', Bool.and_eq_true, Prod.mk.injEq, and_true, true_and, Int.not_lt, Int.not_le, gt_iff_lt, ge_iff_le, List.length_take, Int.toNat_natCast] at h1 h2 h3 h4
    have hk' : k < m.length := by omega
    have hj : j < k + 1 := by omega
    have e : (List.take ((k : Int) + 1).toNat m).getD j (Ty.dflt (.sl I64)) = m.getD j [] := take_getD [] (by omega)
    have e' := congrArg (fun z => tab (fun r => (m.getD r []).take (k + 1)) j ++ [List.take (k + 1) z]) e
    refine GHeld.mk ?_
    refine Exists.intro (j + 1) ?_
    refine And.intro (Leaf.mk ?_) ?_
    · repeat' first | exact True.intro | refine And.intro ?_ ?_
      all_goals try ((change _ = _ <;> try dsimp only) <;> try with_reducible rfl)
      all_goals try omega
      all_goals (first | exact e' | exact congrArg List.length e')
    refine ⟨by change j + 1 ≤ k + 1; omega, ?_⟩
    change k + 1 - (j + 1) < k + 1 - j
    omega
  · rename_i k h1 h2 j h3 h4
    have hj : j = k + 1 := by omega
    subst hj
    exact ⟨k + 1, by omega, sq_corner hp (by omega)⟩
  · rename_i k h1 h2 j h3 h4
    all_goals try dsimp only at h1 h2 h3 h4
    all_goals try simp only [resTy, argTy, eqD, inR, big, wantOf, Bool.not_true, Bool.not_false, Bool.true_eq, decide_eq_true_eq, decide_eq_false_iff_not, Bool.not_eq_true', Bool.not_eq_false', Bool.and_eq_true, Prod.mk.injEq, and_true, true_and, Int.not_lt, Int.not_le, gt_iff_lt, ge_iff_le] at h1 h2 h3 h4
    all_goals try simp only [resTy, argTy, eqD, inR, big, wantOf, Bool.not_true, Bool.not_false, Bool.true_eq, decide_eq_true_eq, decide_eq_false_iff_not, Bool.not_eq_true', Bool.not_eq_false', Bool.and_eq_true, Prod.mk.injEq, and_true, true_and, Int.not_lt, Int.not_le, gt_iff_lt, ge_iff_le, List.length_take, Int.toNat_natCast] at h1 h2 h3 h4
    have hj : j = k + 1 := by omega
    subst hj
    have e' : tab (minorN m) k ++ [detN (tab (fun r => (m.getD r []).take (k + 1)) (k + 1)).length (tab (fun r => (m.getD r []).take (k + 1)) (k + 1))] = tab (minorN m) (k + 1) := by rw [tab_len]; rfl
    refine GHeld.mk ?_
    refine Exists.intro (k + 1) ?_
    refine And.intro (Leaf.mk ?_) ?_
    · repeat' first | exact True.intro | refine And.intro ?_ ?_
      all_goals try ((change _ = _ <;> try dsimp only) <;> try with_reducible rfl)
      all_goals try omega
      all_goals (first | exact e' | exact congrArg List.length e')
    refine ⟨by change k + 1 ≤ m.length; omega, ?_⟩
    change m.length - (k + 1) < m.length - k
    omega
  · rename_i k h1 h2
    have hk : k = m.length := by omega
    subst hk
    rfl

theorem sq_matI : True := trivial

end Go.Eng.Lp
