/- Contracts of LinesOf, of the reference's, of CopyAll and Lists; the law LoopLinesOf returns true. Conditions: each contract's own. -/
import Derived.Test.YtdphhjibkjlmcaaL23
namespace Go.Eng.Lp
open Go.Eng Go.Proofs
set_option linter.all false
set_option maxRecDepth 100000
set_option maxHeartbeats 8000000

abbrev LD := List Int × Int × Unit
abbrev sOwnG (T : Ty) (t k el : Nat) (xs : List T.Den) : St := [.slot t (.one (.o k (List.length (α := T.Den) xs))), .row k el T xs]
theorem getD_p (xs : List LD) (i : Nat) : List.getD xs ((i : Int)).toNat (Ty.dflt LoopT) = xs.getD i ([], 0, ()) := rfl
theorem getD_pp (xs : List (List LD)) (i : Nat) : List.getD xs ((i : Int)).toNat (Ty.dflt (.sl LoopT)) = xs.getD i [] := rfl

theorem getD_p2 (xs : List LD) (i : Nat) : List.getD xs i (Ty.dflt LoopT) = xs.getD i ([], 0, ()) := rfl
theorem getD_pp2 (xs : List (List LD)) (i : Nat) : List.getD xs i (Ty.dflt (.sl LoopT)) = xs.getD i [] := rfl

theorem take_snoc {α : Type} {xs : List α} {k : Nat} (d : α) (h : k < xs.length) : xs.take k ++ [xs.getD k d] = xs.take (k + 1) := by
  rw [List.take_add_one]
  simp [List.getD, List.getElem?_eq_getElem h]
theorem take_len {α : Type} {xs : List α} {k : Nat} (h : k ≤ xs.length) : (xs.take k).length = k := by rw [List.length_take]; omega
theorem drop_gen {α : Type} {xs : List α} {k : Nat} (d : α) (h : k < xs.length) : xs.drop k = xs.getD k d :: xs.drop (k + 1) := by
  rw [List.drop_eq_getElem_cons h]
  simp [List.getD, List.getElem?_eq_getElem h]
theorem getD_mem' {α : Type} {xs : List α} {k : Nat} (d : α) (h : k < xs.length) : xs.getD k d ∈ xs := by simp [List.getD, List.getElem?_eq_getElem h]
theorem map_get {α β : Type} (f : α → β) {xs : List α} {k : Nat} (d : α) (e : β) (h : k < xs.length) : (xs.map f).getD k e = f (xs.getD k d) := by
  simp [List.getD, List.getElem?_eq_getElem h]

@[reducible] def sCopyAll : Spec := { pats := [.dat (.sl LoopT)], res := [{ t := .sl LoopT }], pre := fun x => List.length (α := LD) x.1 ≤ 1000000 ∧ ∀ i, i < List.length (α := LD) x.1 → pCopy (List.length (α := Int) (List.getD (α := LD) x.1 i ([], 0, ())).1), f := fun x => (x.1, ()) }
def cpAnn (xs : List LD) : LoopAnn := { σ := Nat, pat := fun k => sI 4 k :: sOwnG LoopT 3 60003 27 (xs.take k), inv := fun k => k ≤ xs.length, meas := fun k => xs.length - k }

/-- ref.CopyAll -/
theorem h51 : Ok 12 sCopyAll := by
  refine mk (ctr := [(8, sCopy)]) ⟨h23, trivial⟩ (nt := 20) Try.func12 rfl rfl rfl rfl (by kernel_rfl) (by kernel_rfl) (fun x => [fun _ => cpAnn x.1]) ?_
  rintro ⟨(xs : List LD), _⟩ ⟨(hn : xs.length ≤ 1000000), (hp : ∀ i, i < xs.length → pCopy (xs.getD i ([], 0, ())).1.length)⟩
  repeat' (intro hzz; (try (rename Two => hq; cases hq)); (try dsimp only at hzz); (try simp only [resTy, argTy, eqD, inR, big, wantOf, Bool.not_true, Bool.not_false, Bool.true_eq, decide_eq_true_eq, decide_eq_false_iff_not, Bool.not_eq_true', Bool.not_eq_false', Bool.and_eq_true, Prod.mk.injEq, and_true, true_and, Int.not_lt, Int.not_le, gt_iff_lt, ge_iff_le] at hzz); (try simp only [resTy, argTy, eqD, inR, big, wantOf, Bool.not_true, Bool.not_false, Bool.true_eq, decide_eq_true_eq, decide_eq_false_iff_not, Bool.not_eq_true', Bool.not_eq_false', Bool.and_eq_true, Prod.mk.injEq, and_true, true_and, Int.not_lt, Int.not_le, gt_iff_lt, ge_iff_le, getD_p, List.length_cons, List.length_nil] at hzz); (try (revert hzz; intro _)))
  all_goals try (rename Unit => hq; clear hq)
  all_goals try ((with_reducible refine Held.mk ?_); (with_reducible (first | refine Frz.mk ?_ | refine And.intro (Frz.mk ?_) ?_ | refine And.intro ?_ (Frz.mk ?_))); repeat' first | exact True.intro | (change _ = _; with_reducible rfl) | refine And.intro ?_ ?_ | (with_reducible refine Frz.mk ?_))
  all_goals try (refine Held.mk ?_; (try dsimp only at *); (try simp only [resTy, argTy, eqD, inR, big, wantOf, Bool.not_true, Bool.not_false, Bool.true_eq, decide_eq_true_eq, decide_eq_false_iff_not, Bool.not_eq_true', Bool.not_eq_false', Bool.and_eq_true, Prod.mk.injEq, and_true, true_and, Int.not_lt, Int.not_le, gt_iff_lt, ge_iff_le] at *); (try simp only [resTy, argTy, eqD, inR, big, wantOf, Bool.not_true, Bool.not_false, Bool.true_eq, decide_eq_true_eq, decide_eq_false_iff_not, Bool.not_eq_true', Bool.not_eq_false', Bool.and_eq_true, Prod.mk.injEq, and_true, true_and, Int.not_lt, Int.not_le, gt_iff_lt, ge_iff_le, getD_p, List.length_cons, List.length_nil] at *))
  all_goals try omega
  ·
    refine GHeld.mk ?_
    refine Exists.intro (0 : Nat) ?_
    refine And.intro (Leaf.mk ?_) ?_
    · repeat' first | exact True.intro | refine And.intro ?_ ?_
      all_goals try ((change _ = _ <;> try dsimp only) <;> try with_reducible rfl)
      all_goals try omega
      all_goals (rfl)
    exact Nat.zero_le _
  · rename_i k h1 h2
    exact hp k (by omega)
  · rename_i k h1 h2
    rw [take_len h1]; omega
  · rename_i k h1 h2
    have e := take_snoc ([], 0, ()) (show k < xs.length by omega)
    refine GHeld.mk ?_
    refine Exists.intro (k + 1) ?_
    refine And.intro (Leaf.mk ?_) ?_
    · repeat' first | exact True.intro | refine And.intro ?_ ?_
      all_goals try ((change _ = _ <;> try dsimp only) <;> try with_reducible rfl)
      all_goals try omega
      all_goals (first | exact e | exact congrArg List.length e)
    change k + 1 ≤ xs.length ∧ xs.length - (k + 1) < xs.length - k
    omega
  · rename_i k h1 h2
    exact List.take_of_length_le (by omega)

def szs (row : List LD) : List Int := row.map fun x => sizeI x.1 x.2.1
def loRow : List LD → Int
  | [] => 0
  | x :: r => if fCheckLoop x.1 x.2.1 ≠ 0 then fCheckLoop x.1 x.2.1 else if 2000 < sizeI x.1 x.2.1 then 2 else loRow r
def loRows (N : Nat) : List (List LD) → Int
  | [] => 0
  | r :: t => if r.length ≠ N then 10 else if loRow r ≠ 0 then loRow r else loRows N t
def loErr (l : List (List LD)) : Int := if fCountErr l.length ≠ 0 then fCountErr l.length else loRows l.length l
def fLinesOf (l : List (List LD)) : List (List Int) × Int := if loErr l = 0 then (l.map szs, 0) else ([], loErr l)
@[reducible] def sLinesOf : Spec := { pats := [.dat (.sl (.sl LoopT))], res := [{ t := LinesT }, { t := I64 }], pre := fun _ => True, f := fun x => (((fLinesOf x.1).1, ()), (fLinesOf x.1).2, ()) }

theorem szs_len (row : List LD) : (szs row).length = row.length := List.length_map _
theorem szs_get {row : List LD} {j : Nat} (h : j < row.length) : (szs row).getD j 0 = sizeI (row.getD j ([], 0, ())).1 (row.getD j ([], 0, ())).2.1 := map_get _ _ _ h
theorem loRow_step {row : List LD} {j : Nat} (h : j < row.length) : loRow (row.drop j) = if fCheckLoop (row.getD j ([], 0, ())).1 (row.getD j ([], 0, ())).2.1 ≠ 0 then fCheckLoop (row.getD j ([], 0, ())).1 (row.getD j ([], 0, ())).2.1 else if 2000 < sizeI (row.getD j ([], 0, ())).1 (row.getD j ([], 0, ())).2.1 then 2 else loRow (row.drop (j + 1)) := by
  rw [drop_gen ([], 0, ()) h]; rfl
theorem loRows_step {N : Nat} {l : List (List LD)} {k : Nat} (h : k < l.length) : loRows N (l.drop k) = if (l.getD k []).length ≠ N then 10 else if loRow (l.getD k []) ≠ 0 then loRow (l.getD k []) else loRows N (l.drop (k + 1)) := by
  rw [drop_gen [] h]; rfl

theorem el_eq (T : List Int) (g : Int) : (if (fSizeOf T g).2 = 0 then bif decide (0 ≤ (fSizeOf T g).1 ∧ (fSizeOf T g).1 ≤ 2000) then 0 else 2 else (fSizeOf T g).2) =
    if fCheckLoop T g ≠ 0 then fCheckLoop T g else if 2000 < sizeI T g then 2 else 0 := by
  by_cases hc : fCheckLoop T g = 0
  · rw [szOk hc]
    have h0 := (size_le (loop_of hc)).1
    have hcc : ¬ fCheckLoop T g ≠ 0 := fun h => h hc
    by_cases h2 : 2000 < sizeI T g
    · have hd : decide (0 ≤ sizeI T g ∧ sizeI T g ≤ 2000) = false := decide_eq_false (by omega)
      rw [if_neg hcc, if_pos h2]; simp only [if_true, hd, cond_false]
    · have hd : decide (0 ≤ sizeI T g ∧ sizeI T g ≤ 2000) = true := decide_eq_true (by omega)
      rw [if_neg hcc, if_neg h2]; simp only [if_true, hd, cond_true]
  · rw [szBad hc, if_pos hc]; simp only; rw [if_neg hc]

theorem lo_cnt {l : List (List LD)} (hc : ¬ fCountErr l.length = 0) : fLinesOf l = ([], fCountErr l.length) := by
  have e : loErr l = fCountErr l.length := by simp only [loErr]; rw [if_pos hc]
  simp only [fLinesOf]; rw [e, if_neg hc]
theorem lo_err {l : List (List LD)} {e : Int} (hc : fCountErr l.length = 0) (h : loRows l.length l = e) (he : ¬ e = 0) : fLinesOf l = ([], e) := by
  have e1 : loErr l = e := by simp only [loErr]; rw [if_neg (fun h => h hc), h]
  simp only [fLinesOf]; rw [e1, if_neg he]
theorem lo_ok {l : List (List LD)} (hc : fCountErr l.length = 0) (h : loRows l.length l = 0) : fLinesOf l = (l.map szs, 0) := by
  have e1 : loErr l = 0 := by simp only [loErr]; rw [if_neg (fun h => h hc), h]
  simp only [fLinesOf]; rw [if_pos e1]
theorem row_err {l : List (List LD)} {k j : Nat} {e : Int} (hI : loRows l.length (l.drop k) = loRows l.length l) (hk : k < l.length) (hl : (l.getD k []).length = l.length) (hJ : loRow ((l.getD k []).drop j) = loRow (l.getD k [])) (hj : j < (l.getD k []).length)
    (he : (if fCheckLoop ((l.getD k []).getD j ([], 0, ())).1 ((l.getD k []).getD j ([], 0, ())).2.1 ≠ 0 then fCheckLoop ((l.getD k []).getD j ([], 0, ())).1 ((l.getD k []).getD j ([], 0, ())).2.1 else if 2000 < sizeI ((l.getD k []).getD j ([], 0, ())).1 ((l.getD k []).getD j ([], 0, ())).2.1 then 2 else 0) = e) (h0 : ¬ e = 0) : loRows l.length l = e := by
  rw [loRow_step hj] at hJ
  have h1 : loRow (l.getD k []) = e := by
    rw [← hJ]
    split
    · rename_i h; rw [if_pos h] at he; exact he
    · rename_i h
      rw [if_neg h] at he
      split
      · rename_i h2; rw [if_pos h2] at he; exact he
      · rename_i h2; rw [if_neg h2] at he; exact absurd he.symm h0
  rw [loRows_step hk, if_neg (fun h => h hl), if_pos (by rw [h1]; exact h0), h1] at hI
  exact hI.symm
theorem row_go {row : List LD} {j : Nat} (hJ : loRow (row.drop j) = loRow row) (hj : j < row.length)
    (he : (if fCheckLoop (row.getD j ([], 0, ())).1 (row.getD j ([], 0, ())).2.1 ≠ 0 then fCheckLoop (row.getD j ([], 0, ())).1 (row.getD j ([], 0, ())).2.1 else if 2000 < sizeI (row.getD j ([], 0, ())).1 (row.getD j ([], 0, ())).2.1 then 2 else 0) = 0) :
    fCheckLoop (row.getD j ([], 0, ())).1 (row.getD j ([], 0, ())).2.1 = 0 ∧ loRow (row.drop (j + 1)) = loRow row := by
  rw [loRow_step hj] at hJ
  split at he
  · rename_i h; exact absurd he h
  · rename_i h
    rw [if_neg h] at hJ
    split at he
    · omega
    · rename_i h2
      rw [if_neg h2] at hJ
      exact ⟨Classical.byContradiction h, hJ⟩
theorem row_done {l : List (List LD)} {k j : Nat} (hI : loRows l.length (l.drop k) = loRows l.length l) (hk : k < l.length) (hl : (l.getD k []).length = l.length) (hJ : loRow ((l.getD k []).drop j) = loRow (l.getD k [])) (hj : (l.getD k []).length ≤ j) : loRows l.length (l.drop (k + 1)) = loRows l.length l := by
  rw [List.drop_eq_nil_of_le hj] at hJ
  have h0 : loRow (l.getD k []) = 0 := hJ.symm
  rw [loRows_step hk, if_neg (fun h => h hl), if_neg (fun h => h h0)] at hI
  exact hI
theorem lo_len10 {l : List (List LD)} {k : Nat} (hI : loRows l.length (l.drop k) = loRows l.length l) (hk : k < l.length) (hl : ¬ (l.getD k []).length = l.length) : loRows l.length l = 10 := by
  rw [loRows_step hk, if_pos hl] at hI
  exact hI.symm

def loOuter (i key : Nat) (l : List (List LD)) : LoopAnn := { σ := Nat, pat := fun k => [sI i k, .cell key 0 (.o (60000 + key) (List.length (α := List Int) ((l.map szs).take k))), .row (60000 + key) 25 (.sl I64) ((l.map szs).take k)], inv := fun k => k ≤ l.length ∧ loRows l.length (l.drop k) = loRows l.length l, meas := fun k => l.length - k }
def loInner (i o s key : Nat) (l : List (List LD)) (st : St) : LoopAnn := withI o st fun k =>
  { σ := Nat, pat := fun j => sI i j :: sOwn s key 3 ((szs (l.getD k.toNat [])).take j), inv := fun j => j ≤ (l.getD k.toNat []).length ∧ loRow ((l.getD k.toNat []).drop j) = loRow (l.getD k.toNat []), meas := fun j => (l.getD k.toNat []).length - j }

def pLists (a : List (List Int)) : Prop := a.length ≤ 1000000 ∧ ∀ i, i < a.length → (a.getD i []).length ≤ 1000000
@[reducible] def sLists : Spec := { pats := [.dat MatT, .dat MatT], res := [{ t := .bool }], pre := fun x => pLists x.1, f := fun x => (decide ((x.1 : List (List Int)) = x.2.1), ()) }
def liAnn (a b : List (List Int)) : LoopAnn := { σ := Nat, pat := fun k => [sI 5 k], inv := fun k => k ≤ a.length ∧ ∀ i, i < k → a.getD i [] = b.getD i [], meas := fun k => a.length - k }

theorem list_eq_of {α : Type} (d : α) {a b : List α} (hl : a.length = b.length) (h : ∀ i, i < a.length → a.getD i d = b.getD i d) : a = b := by
  apply List.ext_getElem hl
  intro i h1 h2
  have := h i h1
  simpa [List.getD, List.getElem?_eq_getElem h1, List.getElem?_eq_getElem h2] using this

@[reducible] def sLoopLinesOf : Spec := { pats := [.dat (.sl (.sl LoopT))], res := [{ t := .bool }], pre := fun _ => True, f := fun _ => (true, ()) }
def fewRow (r : List LD) (n : Nat) : Prop := ∀ j, j < n → (r.getD j ([], 0, ())).1.length ≤ 34
def llOuter (l : List (List LD)) : LoopAnn := { σ := Nat, pat := fun k => sI 4 k :: sOwnG (.sl LoopT) 3 60003 39 (l.take k), inv := fun k => k ≤ l.length, meas := fun k => l.length - k }
def llInner (l : List (List LD)) (st : St) : LoopAnn := withI 4 st fun k => { σ := Nat, pat := fun j => [sI 5 j], inv := fun j => j ≤ (l.getD k.toNat []).length ∧ fewRow (l.getD k.toNat []) j, meas := fun j => (l.getD k.toNat []).length - j }

theorem lo_lists (l : List (List LD)) : pLists (fLinesOf l).1 := by
  simp only [fLinesOf]
  split
  · rename_i h
    simp only [loErr] at h
    split at h
    · rename_i h1; exact absurd h h1
    · rename_i h1
      have h1 : fCountErr l.length = 0 := Classical.byContradiction h1
      have h4 : l.length ≤ 4 := by
        simp only [fCountErr] at h1
        split at h1
        · split at h1
          · omega
          · omega
        · omega
      have hrow : ∀ (t : List (List LD)) (N : Nat), loRows N t = 0 → ∀ r, r ∈ t → r.length = N := by
        intro t N
        induction t with
        | nil => intro _ r hr; cases hr
        | cons q t ih =>
          intro h r hr
          simp only [loRows] at h
          split at h
          · omega
          · rename_i h2
            split at h
            · rename_i h3; exact absurd h h3
            · rcases List.mem_cons.1 hr with rfl | hr
              · exact Classical.byContradiction h2
              · exact ih h r hr
      refine ⟨by rw [List.length_map]; omega, fun i hi => ?_⟩
      rw [List.length_map] at hi
      rw [map_get szs [] [] hi, szs_len, hrow l _ h _ (getD_mem' [] hi)]
      omega
  · exact ⟨by simp, fun i hi => by simp at hi⟩

end Go.Eng.Lp
