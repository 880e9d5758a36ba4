/- Texts C3 C4 C5 C6 C7 C8 C9 C10 C11, as far as they are used. Conditions: each lemma's own. -/
import Derived.Test.YtjgfbifggolibaaGreatDoorKG4
import Derived.WalkKit
import Derived.StillTail
namespace Go.Eng.Ar
open Go.Eng Go.Proofs
set_option linter.all false
set_option maxRecDepth 100000
set_option maxHeartbeats 8000000
def dropCol (c : Int) : Nat → List Int → List Int
  | _, [] => []
  | k, n :: r => if (k : Int) = c then dropCol c (k + 1) r else n :: dropCol c (k + 1) r
def dropRow (rw' c : Int) : Nat → List (List Int) → List (List Int)
  | _, [] => []
  | i, r :: t => if (i : Int) = rw' then dropRow rw' c (i + 1) t else dropCol c 0 r :: dropRow rw' c (i + 1) t
def sumD (f : List (List Int) → Int) (rows : List (List Int)) : Int → Nat → List Int → Int
  | _, _, [] => 0
  | sign, k, x :: r => sign * x * f (dropRow 0 k 0 rows) + sumD f rows (-sign) (k + 1) r
def detN : Nat → List (List Int) → Int
  | 0, _ => 1
  | n + 1, rows => sumD (detN n) rows 1 0 (rows.getD 0 [])
def sqMat (N : Nat) (rows : List (List Int)) : Prop := rows.length = N ∧ ∀ r ∈ rows, r.length = N ∧ ∀ x ∈ r, -2000 ≤ x ∧ x ≤ 2000
def detB : Nat → Int
  | 0 => 1
  | n + 1 => (n + 1) * (2000 * detB n)
theorem dropRow_succ (c : Int) : ∀ (t : List (List Int)) (i : Nat), dropRow 0 c (i + 1) t = t.map (dropCol c 0)
  | [], _ => rfl
  | r :: t, i => by
    have h : ¬ ((i + 1 : Nat) : Int) = 0 := by omega
    simp only [dropRow, if_neg h, List.map_cons, dropRow_succ c t (i + 1)]
theorem dropCol_len (c : Nat) : ∀ (row : List Int) (k : Nat), (dropCol c k row).length = if k ≤ c ∧ c < k + row.length then row.length - 1 else row.length
  | [], k => by simp [dropCol]
  | n :: r, k => by
    have ih := dropCol_len c r (k + 1)
    simp only [dropCol, List.length_cons]
    by_cases h : (k : Int) = c
    · rw [if_pos h, ih, if_neg (by omega), if_pos (by omega)]
      rfl
    · rw [if_neg h, List.length_cons, ih]
      by_cases h2 : k + 1 ≤ c ∧ c < k + 1 + r.length
      · rw [if_pos h2, if_pos (by omega)]
        omega
      · rw [if_neg h2, if_neg (by omega)]
theorem dropCol_mem (c : Int) : ∀ (row : List Int) (k : Nat) (x : Int), x ∈ dropCol c k row → x ∈ row
  | [], _, _, h => by simp [dropCol] at h
  | n :: r, k, x, h => by
    simp only [dropCol] at h
    split at h
    · exact List.mem_cons_of_mem _ (dropCol_mem c r _ x h)
    · rcases List.mem_cons.1 h with rfl | h
      · exact List.mem_cons_self
      · exact List.mem_cons_of_mem _ (dropCol_mem c r _ x h)
theorem sq_drop {N k : Nat} {rows : List (List Int)} (h : sqMat (N + 1) rows) (hk : k < N + 1) : sqMat N (dropRow 0 k 0 rows) := by
  obtain ⟨h1, h2⟩ := h
  cases rows with
  | nil => simp at h1
  | cons r t =>
    have e : dropRow 0 k 0 (r :: t) = t.map (dropCol k 0) := by
      simp only [dropRow, Int.natCast_zero, if_true]
      exact dropRow_succ k t 0
    rw [e]
    refine ⟨by simp at h1 ⊢; omega, fun q hq => ?_⟩
    obtain ⟨p, hp, rfl⟩ := List.mem_map.1 hq
    obtain ⟨h3, h4⟩ := h2 p (List.mem_cons_of_mem _ hp)
    exact ⟨by rw [dropCol_len, if_pos (by omega)]; omega, fun x hx => h4 x (dropCol_mem _ _ _ _ hx)⟩
theorem mul_bd {x d X B : Int} (h1 : -X ≤ x) (h2 : x ≤ X) (h3 : -B ≤ d) (h4 : d ≤ B) : -(X * B) ≤ x * d ∧ x * d ≤ X * B := by
  have e : (x * d).natAbs = x.natAbs * d.natAbs := Int.natAbs_mul x d
  have hX : (X.toNat : Int) = X := Int.toNat_of_nonneg (by omega)
  have hB : (B.toNat : Int) = B := Int.toNat_of_nonneg (by omega)
  have h5 : x.natAbs * d.natAbs ≤ X.toNat * B.toNat := Nat.mul_le_mul (by omega) (by omega)
  have h6 : ((X.toNat * B.toNat : Nat) : Int) = X * B := by rw [Int.natCast_mul, hX, hB]
  omega
theorem sumD_le {f : List (List Int) → Int} {rows : List (List Int)} {N : Nat} {B : Int} (hf : ∀ k : Nat, k < N → -B ≤ f (dropRow 0 k 0 rows) ∧ f (dropRow 0 k 0 rows) ≤ B) :
    ∀ (l : List Int) (sign : Int) (k : Nat), (sign = 1 ∨ sign = -1) → k + l.length ≤ N → (∀ x ∈ l, -2000 ≤ x ∧ x ≤ 2000) → -(l.length * (2000 * B)) ≤ sumD f rows sign k l ∧ sumD f rows sign k l ≤ l.length * (2000 * B)
  | [], _, _, _, _, _ => by simp [sumD]
  | x :: r, sign, k, hs, hk, hx => by
    simp only [List.length_cons] at hk
    have ih := sumD_le hf r (-sign) (k + 1) (by omega) (by omega) (fun y hy => hx y (List.mem_cons_of_mem _ hy))
    have hx0 := hx x List.mem_cons_self
    have hf0 := hf k (by omega)
    have h1 : -2000 ≤ sign * x ∧ sign * x ≤ 2000 := by rcases hs with rfl | rfl <;> omega
    have h2 := mul_bd h1.1 h1.2 hf0.1 hf0.2
    simp only [sumD, List.length_cons]
    have e : (((r.length + 1 : Nat) : Int) * (2000 * B)) = (r.length : Int) * (2000 * B) + 2000 * B := by
      rw [Int.natCast_add, Int.add_mul]; simp
    rw [e]
    generalize (r.length : Int) * (2000 * B) = z at *
    omega
theorem detN_le : ∀ (n : Nat) (rows : List (List Int)), sqMat n rows → -(detB n) ≤ detN n rows ∧ detN n rows ≤ detB n
  | 0, rows, _ => by simp [detN, detB]
  | n + 1, rows, h => by
    have hr : (rows.getD 0 []).length = n + 1 ∧ ∀ x ∈ rows.getD 0 [], -2000 ≤ x ∧ x ≤ 2000 := by
      cases rows with
      | nil => have := h.1; simp at this
      | cons r t => exact h.2 r List.mem_cons_self
    have := sumD_le (f := detN n) (rows := rows) (N := n + 1) (B := detB n) (fun k hk => detN_le n _ (sq_drop h hk)) (rows.getD 0 []) 1 0 (.inl rfl) (by omega) hr.2
    rw [hr.1] at this
    simp only [detN, detB]
    push_cast at this
    exact this
@[reducible] def sDet (N : Nat) : Spec := { pats := [.dat MatT], res := [{ t := I64 }], pre := fun x => sqMat N x.1, f := fun x => (detN N x.1, ()) }
@[reducible] def sNever : Spec := { pats := [.dat MatT], res := [{ t := I64 }], pre := fun x => False, f := fun x => ((0 : Int), ()) }
theorem enters200 : Enters Tryz.prog 200 := ⟨Tryz.f200, Tryz.func200, by kernel_rfl, by kernel_rfl⟩
theorem never200 : Ok 200 sNever := ⟨fun w M x vs bs _ _ h => h.elim, enters200⟩
theorem row0 {N : Nat} {rows : List (List Int)} (h : sqMat (N + 1) rows) : (rows.getD 0 []).length = N + 1 ∧ ∀ k : Nat, k < N + 1 → -2000 ≤ (rows.getD 0 []).getD k 0 ∧ (rows.getD 0 []).getD k 0 ≤ 2000 := by
  cases rows with
  | nil => have := h.1; simp at this
  | cons r t =>
    obtain ⟨h1, h2⟩ := h.2 r List.mem_cons_self
    refine ⟨h1, fun k hk => ?_⟩
    have hk' : k < r.length := by omega
    have e : r.getD k 0 = r[k] := by simp [List.getD, List.getElem?_eq_getElem hk']
    change -2000 ≤ r.getD k 0 ∧ r.getD k 0 ≤ 2000
    rw [e]
    exact h2 _ (List.getElem_mem hk')
theorem sumD_step {f : List (List Int) → Int} {rows : List (List Int)} {sign : Int} {row : List Int} {k : Nat} (h : k < row.length) :
    sumD f rows sign k (row.drop k) = sign * row.getD k 0 * f (dropRow 0 k 0 rows) + sumD f rows (-sign) (k + 1) (row.drop (k + 1)) := by
  rw [drop_get h]; rfl
theorem detB_le {n : Nat} (h : n ≤ 4) : detB n ≤ 400000000000000 ∧ 0 ≤ detB n := by
  match n, h with
  | 0, _ => decide
  | 1, _ => decide
  | 2, _ => decide
  | 3, _ => decide
  | 4, _ => decide
abbrev detInv (N : Nat) (rows : List (List Int)) (k : Nat) (sum sign : Int) : Prop := k ≤ (rows.getD 0 []).length ∧ (sign = 1 ∨ sign = -1) ∧ sum + sumD (detN N) rows sign k ((rows.getD 0 []).drop k) = detN (N + 1) rows ∧ -(k * (2000 * detB N)) ≤ sum ∧ sum ≤ k * (2000 * detB N)
theorem detRound {N : Nat} (hN : N < 4) {rows : List (List Int)} (hp : sqMat (N + 1) rows) {k : Nat} {sum sign : Int} (hi : detInv N rows k sum sign) (hk : k < (rows.getD 0 []).length) :
    (-9223372036854775808 ≤ sign * (rows.getD 0 []).getD k 0 * detN N (dropRow 0 k 0 rows) ∧ sign * (rows.getD 0 []).getD k 0 * detN N (dropRow 0 k 0 rows) ≤ 9223372036854775807) ∧
    (-9223372036854775808 ≤ sum + sign * (rows.getD 0 []).getD k 0 * detN N (dropRow 0 k 0 rows) ∧ sum + sign * (rows.getD 0 []).getD k 0 * detN N (dropRow 0 k 0 rows) ≤ 9223372036854775807) ∧
    detInv N rows (k + 1) (sum + sign * (rows.getD 0 []).getD k 0 * detN N (dropRow 0 k 0 rows)) (-sign) := by
  obtain ⟨i1, i2, i3, i4, i5⟩ := hi
  have hr := row0 hp
  have hx := hr.2 k (by omega)
  have hd := detN_le N _ (sq_drop hp (k := k) (by omega))
  have hB := detB_le (n := N) (by omega)
  have h1 : -2000 ≤ sign * (rows.getD 0 []).getD k 0 ∧ sign * (rows.getD 0 []).getD k 0 ≤ 2000 := by rcases i2 with rfl | rfl <;> omega
  have h2 := mul_bd h1.1 h1.2 hd.1 hd.2
  have e : (((k + 1 : Nat) : Int) * (2000 * detB N)) = (k : Int) * (2000 * detB N) + 2000 * detB N := by
    rw [Int.natCast_add, Int.add_mul]; simp
  have h3 : (k : Int) * (2000 * detB N) ≤ 4 * (2000 * detB N) := Int.mul_le_mul_of_nonneg_right (by omega) (by omega)
  rw [sumD_step hk] at i3
  refine ⟨by omega, by omega, by omega, by omega, by omega, ?_, ?_⟩
  · rw [e]; omega
  · rw [e]; omega
theorem dropCol_cut (c : Int) : ∀ (row : List Int) (j m : Nat), c = j + m → dropCol c j row = row.take m ++ row.drop (m + 1)
  | [], j, m, _ => by simp [dropCol]
  | n :: r, j, 0, h => by
    simp only [dropCol]
    rw [if_pos (by omega)]
    have none : ∀ (l : List Int) (i : Nat), c < i → dropCol c i l = l := by
      intro l
      induction l with
      | nil => intro i _; rfl
      | cons x l ih => intro i hi; simp only [dropCol]; rw [if_neg (by omega), ih (i + 1) (by omega)]
    rw [none r (j + 1) (by omega)]
    simp
  | n :: r, j, m + 1, h => by
    simp only [dropCol]
    rw [if_neg (by omega), dropCol_cut c r (j + 1) m (by omega)]
    simp
theorem dropRow_map {c : Int} {rows : List (List Int)} (h : 0 < rows.length) : dropRow 0 c 0 rows = (rows.drop 1).map (dropCol c 0) := by
  cases rows with
  | nil => simp at h
  | cons r t =>
    simp only [dropRow, Int.natCast_zero, if_true]
    exact dropRow_succ c t 0
abbrev cutC (rows : List (List Int)) (k i : Nat) : List Int := ((rows.drop 1).getD i []).take k ++ ((rows.drop 1).getD i []).drop (k + 1)
theorem tab_eq {α : Type} {f : Nat → α} {xs : List α} {k : Nat} (d : α) (hl : xs.length = k) (h : ∀ i, i < k → f i = xs.getD i d) : tab f k = xs := by
  refine List.ext_getElem (by rw [tab_len, hl]) fun i h1 h2 => ?_
  have h3 := tab_get f d k i (by rw [tab_len] at h1; exact h1)
  rw [h i (by omega)] at h3
  simpa [List.getD, List.getElem?_eq_getElem h1, List.getElem?_eq_getElem h2] using h3
theorem getD_l2 (xs : List (List Int)) (i : Nat) : List.getD xs i (Ty.dflt (.sl I64)) = xs.getD i [] := rfl
theorem getD_i2 (xs : List Int) (i : Nat) : List.getD xs i (Ty.dflt I64) = xs.getD i 0 := rfl
theorem one_toNat : Int.toNat 1 = 1 := rfl
theorem zero_toNat : Int.toNat 0 = 0 := rfl
theorem cut_all {N k : Nat} {rows : List (List Int)} (hp : sqMat (N + 1) rows) : tab (cutC rows k) N = dropRow 0 k 0 rows := by
  rw [dropRow_map (by rw [hp.1]; omega)]
  refine tab_eq [] (by rw [List.length_map, List.length_drop, hp.1]; rfl) fun i hi => ?_
  have hi' : i < (rows.drop 1).length := by rw [List.length_drop, hp.1]; omega
  simp only [List.getD_eq_getElem?_getD, List.getElem?_map, List.getElem?_eq_getElem hi', Option.map_some, Option.getD_some, cutC]
  rw [dropCol_cut (k : Int) _ 0 k (by omega)]
theorem row_len1 {N : Nat} {rows : List (List Int)} (hp : sqMat (N + 1) rows) {i : Nat} (h : i < N) : ((rows.drop 1).getD i []).length = N + 1 := by
  have hi' : i < (rows.drop 1).length := by rw [List.length_drop, hp.1]; omega
  simp only [List.getD_eq_getElem?_getD, List.getElem?_eq_getElem hi', Option.getD_some]
  exact (hp.2 _ (List.mem_of_mem_drop (List.getElem_mem hi'))).1
def detAnn (N : Nat) (rows : List (List Int)) : LoopAnn :=
  { σ := Nat × Int × Int, pat := fun s => [sI 17 s.1, sI 3 s.2.1, sI 4 s.2.2], inv := fun s => detInv N rows s.1 s.2.1 s.2.2, meas := fun s => (rows.getD 0 []).length - s.1 }
def detInn (N : Nat) (rows : List (List Int)) (st : St) : LoopAnn := withI 17 st fun k => { σ := Nat, pat := fun i => sI 27 i :: sOwn2 7 60007 76 (tab (cutC rows k.toNat) i), inv := fun i => i ≤ N, meas := fun i => N - i }
theorem toNat_succ (n : Nat) : ((n : Int) + 1).toNat = n + 1 := rfl
theorem det_zero : Ok 200 (sDet 0) := by
  refine mk (ctr := [(145, sClone), (200, sNever)]) ⟨h145, never200, trivial⟩ (nt := 56) Tryz.func200 rfl rfl rfl rfl (by kernel_rfl) (by kernel_rfl) (fun x => [fun _ => detAnn 0 x.1, detInn 0 x.1]) ?_
  rintro ⟨(rows : List (List Int)), _⟩ (hp : sqMat 0 rows)
  have hl : rows.length = 0 := hp.1
  repeat' (intro hzz; (try (rename Two => hq; cases hq)); (try dsimp only at hzz); (try simp only [resTy, argTy, eqD, inR, big, wantOf, zB] at hzz); (try simp only [resTy, argTy, eqD, inR, big, wantOf, zB, getD_l, getD_i, getD_0, Int.toNat_natCast, toNat_succ] at hzz); (try (first | contradiction | (exfalso; omega))); (try (revert hzz; intro _)))
  all_goals try (rename Unit => hq; clear hq)
  all_goals try ((with_reducible refine Held.mk ?_); (with_reducible (first | refine Frz.mk ?_ | refine And.intro (Frz.mk ?_) ?_ | refine And.intro ?_ (Frz.mk ?_))); repeat' first | exact True.intro | (change _ = _; with_reducible rfl) | refine And.intro ?_ ?_ | (with_reducible refine Frz.mk ?_))
  all_goals try (refine Held.mk ?_; (try dsimp only at *); (try simp only [resTy, argTy, eqD, inR, big, wantOf, zB] at *); (try simp only [resTy, argTy, eqD, inR, big, wantOf, zB, getD_l, getD_i, getD_0, Int.toNat_natCast, toNat_succ] at *))
  all_goals try omega
  · rfl
theorem det_succ {N : Nat} (hN : N < 4) (ih : Ok 200 (sDet N)) : Ok 200 (sDet (N + 1)) := by
  refine mk (ctr := [(145, sClone), (200, sDet N)]) ⟨h145, ih, trivial⟩ (nt := 56) Tryz.func200 rfl rfl rfl rfl (by kernel_rfl) (by kernel_rfl) (fun x => [fun _ => detAnn N x.1, detInn N x.1]) ?_
  rintro ⟨(rows : List (List Int)), _⟩ (hp : sqMat (N + 1) rows)
  have hl : rows.length = N + 1 := hp.1
  repeat' (intro hzz; (try (rename Two => hq; cases hq)); (try dsimp only at hzz); (try simp only [resTy, argTy, eqD, inR, big, wantOf, zB] at hzz); (try simp only [resTy, argTy, eqD, inR, big, wantOf, zB, getD_l, getD_i, getD_0, Int.toNat_natCast, toNat_succ, tab_len, List.length_drop, one_toNat, zero_toNat, getD_l2, getD_i2] at hzz); (try (revert hzz; intro _)))
  all_goals try (rename Unit => hq; clear hq)
  all_goals try ((with_reducible refine Held.mk ?_); (with_reducible (first | refine Frz.mk ?_ | refine And.intro (Frz.mk ?_) ?_ | refine And.intro ?_ (Frz.mk ?_))); repeat' first | exact True.intro | (change _ = _; with_reducible rfl) | refine And.intro ?_ ?_ | (with_reducible refine Frz.mk ?_))
  all_goals try (refine Held.mk ?_; (try dsimp only at *); (try simp only [resTy, argTy, eqD, inR, big, wantOf, zB] at *); (try simp only [resTy, argTy, eqD, inR, big, wantOf, zB, getD_l, getD_i, getD_0, Int.toNat_natCast, toNat_succ, tab_len, List.length_drop, one_toNat, zero_toNat, getD_l2, getD_i2] at *))
  all_goals try omega
  all_goals try have hr := row0 hp
  ·
    refine GHeld.mk ?_
    refine Exists.intro ((0, 0, 1) : Nat × Int × Int) ?_
    refine And.intro (Leaf.mk ?_) ?_
    · repeat' first | exact True.intro | refine And.intro ?_ ?_
      all_goals try ((change _ = _ <;> try dsimp only) <;> try with_reducible rfl)
      all_goals try omega
    refine ⟨Nat.zero_le _, .inl rfl, ?_, by simp, by simp⟩
    simp [detN]
  · rename_i h0 s hi hg hx
    refine GHeld.mk ?_
    refine Exists.intro (0 : Nat) ?_
    refine And.intro (Leaf.mk ?_) ?_
    · repeat' first | exact True.intro | refine And.intro ?_ ?_
      all_goals try ((change _ = _ <;> try dsimp only) <;> try with_reducible rfl)
      all_goals try omega
      all_goals (rfl)
    exact Nat.zero_le _
  · rename_i h0 s hi hg hx i hI hi2
    have := row_len1 hp (i := i) (by omega)
    change 0 ≤ (s.1 : Int) ∧ (s.1 : Int) ≤ (((rows.drop 1).getD i []).length : Int)
    omega
  · rename_i h0 s hi hg hx i hI hi2
    have := row_len1 hp (i := i) (by omega)
    change (List.take s.1 ((rows.drop 1).getD i [])).length ≤ 2000000000
    rw [List.length_take]; omega
  · omega
  · rename_i h0 s hi hg hx i hI hi2
    have := row_len1 hp (i := i) (by omega)
    change 0 ≤ (s.1 : Int) + 1 ∧ (s.1 : Int) + 1 ≤ (((rows.drop 1).getD i []).length : Int)
    omega
  · rename_i h0 s hi hg hx i hI hi2
    have := row_len1 hp (i := i) (by omega)
    change (List.take s.1 ((rows.drop 1).getD i [])).length + (List.drop (s.1 + 1) ((rows.drop 1).getD i [])).length ≤ 2147483648
    rw [List.length_take, List.length_drop]; omega
  · rename_i h0 s hi hg hx i hI hi2
    show i + 1 ≤ 2147483648
    omega
  · rename_i h0 s hi hg hx i hI hi2
    refine GHeld.mk ?_
    refine Exists.intro (i + 1) ?_
    refine And.intro (Leaf.mk ?_) ?_
    · repeat' first | exact True.intro | refine And.intro ?_ ?_
      all_goals try ((change _ = _ <;> try dsimp only) <;> try with_reducible rfl)
      all_goals try omega
      all_goals (rfl)
    exact ⟨by show i + 1 ≤ N; omega, by show N - (i + 1) < N - i; omega⟩
  · rename_i h0 s hi hg hx i hI hi2
    have hx := hr.2 s.1 (by omega)
    have hs : s.2.2 = 1 ∨ s.2.2 = -1 := hi.2.1
    change -9223372036854775808 ≤ s.2.2 * (rows.getD 0 []).getD s.1 0 ∧ s.2.2 * (rows.getD 0 []).getD s.1 0 ≤ 9223372036854775807
    rcases hs with hs | hs <;> rw [hs] <;> omega
  · rename_i h0 s hi hg hx i hI hi2
    have e : i = N := by omega
    subst e
    rw [cut_all hp]
    exact sq_drop hp (by omega)
  · rename_i h0 s hi hg hx i hI hi2
    have e : i = N := by omega
    subst e
    rw [cut_all hp]
    exact (detRound hN hp hi (by omega)).1
  · rename_i h0 s hi hg hx i hI hi2
    have e : i = N := by omega
    subst e
    rw [cut_all hp]
    exact (detRound hN hp hi (by omega)).2.1
  · omega
  · rename_i h0 s hi hg hx i hI hi2
    have e : i = N := by omega
    subst e
    have hd := detRound hN hp hi (by omega)
    rw [← cut_all hp] at hd
    refine GHeld.mk ?_
    refine Exists.intro ((s.1 + 1, s.2.1 + s.2.2 * (rows.getD 0 []).getD s.1 0 * detN i (tab (cutC rows s.1) i), -s.2.2) : Nat × Int × Int) ?_
    refine And.intro (Leaf.mk ?_) ?_
    · repeat' first | exact True.intro | refine And.intro ?_ ?_
      all_goals try ((change _ = _ <;> try dsimp only) <;> try with_reducible rfl)
      all_goals try omega
      all_goals (rfl)
    refine ⟨hd.2.2, ?_⟩
    change (rows.getD 0 []).length - (s.1 + 1) < (rows.getD 0 []).length - s.1
    omega
  · omega
  · rename_i h0 s hi hg hx
    have hd := detRound hN hp hi (by omega)
    have hx0 : (rows.getD 0 []).getD s.1 0 = 0 := hx
    rw [hx0, Int.mul_zero, Int.zero_mul, Int.add_zero] at hd
    refine GHeld.mk ?_
    refine Exists.intro ((s.1 + 1, s.2.1, -s.2.2) : Nat × Int × Int) ?_
    refine And.intro (Leaf.mk ?_) ?_
    · repeat' first | exact True.intro | refine And.intro ?_ ?_
      all_goals try ((change _ = _ <;> try dsimp only) <;> try with_reducible rfl)
      all_goals try omega
      all_goals (rfl)
    refine ⟨hd.2.2, ?_⟩
    change (rows.getD 0 []).length - (s.1 + 1) < (rows.getD 0 []).length - s.1
    omega
  · rename_i h0 s hi hg
    obtain ⟨i1, i2, i3, i4⟩ := hi
    rw [List.drop_eq_nil_of_le (by omega)] at i3
    simpa [sumD] using i3
theorem h200 : ∀ N, N ≤ 4 → Ok 200 (sDet N)
  | 0, _ => det_zero
  | N + 1, h => det_succ (by omega) (h200 N (by omega))
abbrev pDetA (m : List (List Int)) : Prop := ∃ N, N ≤ 4 ∧ sqMat N m
def detA (m : List (List Int)) : Int := detN m.length m
@[reducible] def sDetAll : Spec := { pats := [.dat MatT], res := [{ t := I64 }], pre := fun x => pDetA x.1, f := fun x => (detA x.1, ()) }
theorem hDet : Ok 200 sDetAll := ⟨fun w M x vs bs hM hA ⟨N, hN, hs⟩ => by
  have h := (h200 N hN).1 w M x vs bs hM hA hs
  have e : (sDet N).f x = sDetAll.f x := by
    simp only [sDet, sDetAll, detA]
    rw [← hs.1]
  rw [e] at h
  exact h, enters200⟩
theorem detA_le {m : List (List Int)} (h : pDetA m) : -400000000000000 ≤ detA m ∧ detA m ≤ 400000000000000 := by
  obtain ⟨N, hN, hs⟩ := h
  have h1 := detN_le N m hs
  have h2 := detB_le hN
  unfold detA
  rw [hs.1]; omega
end Go.Eng.Ar

namespace Go.Eng
set_option linter.all false
set_option maxRecDepth 100000
section
variable {P : Program} {Q : Exit → Act → World → Prop} {a : Act} {w : World} {K : Act → World → Prop}
theorem op_val {o : Oper} {v : Value} (hnd : ∀ d, o.op ≠ .defer d) (hr : (execOp a.eval o).run P w = .ok (.value v) w) (h : K (a.put o.dst v) w) : o.wpIn (Fw none) 0 P a w K Q :=
  wpIn_of_run hnd hr h
theorem op_skip {o : Oper} {w' : World} (hnd : ∀ d, o.op ≠ .defer d) (hr : (execOp a.eval o).run P w = .ok .skip w') (h : K (a.put o.dst undef) w') : o.wpIn (Fw none) 0 P a w K Q :=
  wpIn_of_run hnd hr h
theorem op_enter {o : Oper} {f : Nat} {args : Array Value} (hnd : ∀ d, o.op ≠ .defer d) (hr : (execOp a.eval o).run P w = .ok (.enter f args) w)
    (h : Calls P f args w fun e w' => ∃ v, e = .returned v ∧ K (a.put o.dst v) w') : o.wpIn (Fw none) 0 P a w K Q :=
  wpIn_of_run hnd hr ⟨fun h => (by cases h), callsFw (h.mono fun e w' ⟨v, h1, h2⟩ => by subst h1; exact h2)⟩
theorem op_round {o : Oper} {l f : Nat} {tmps : Array Value} {assign body : Code} (hnd : ∀ d, o.op ≠ .defer d) (hr : (execOp a.eval o).run P w = .ok (.round l f tmps assign body) w)
    (h : RoundIn (Fw none) 0 P l f tmps assign body w fun e w' => ∃ v, e = .returned v ∧ K (a.put o.dst v) w') : o.wpIn (Fw none) 0 P a w K Q :=
  wpIn_of_run hnd hr ⟨fun h => (by cases h), RoundIn.mono h (fun e w' ⟨v, h1, h2⟩ => by subst h1; exact h2)⟩
theorem list_nil {ops : Array Oper} (h : Q .normal a w) : wpListIn (Fw none) 0 P ops Q [] a w := h
theorem list_step {ops : Array Oper} {o : Oper} {rest : List Oper} (hg : o.guard = none) (h : o.wpIn (Fw none) 0 P a w (wpListIn (Fw none) 0 P ops Q rest) Q) : wpListIn (Fw none) 0 P ops Q (o :: rest) a w := by
  have hw : Region.wanted o (yielded ops a.tmps) = true := by simp [Region.wanted, hg]
  simp only [wpListIn, hw, if_true]
  exact h
theorem list_inv {ops : Array Oper} {o : Oper} {rest : List Oper} {v : Value} (h : wpListIn (Fw none) 0 P ops Q (o :: rest) a w) (hg : o.guard = none) (hs : o.semAt (Fw none).round a.eval = execOp a.eval o) (hr : (execOp a.eval o).run P w = .ok (.value v) w) :
    wpListIn (Fw none) 0 P ops Q rest (a.put o.dst v) w := by
  have hw : Region.wanted o (yielded ops a.tmps) = true := by simp [Region.wanted, hg]
  simp only [wpListIn, hw, if_true] at h
  unfold Oper.wpIn at h
  have h := h.2
  rw [hs, hr] at h
  simpa only [Oper.uponIn] using h
theorem list_inv_skip {ops : Array Oper} {o : Oper} {rest : List Oper} {w' : World} (h : wpListIn (Fw none) 0 P ops Q (o :: rest) a w) (hg : o.guard = none) (hs : o.semAt (Fw none).round a.eval = execOp a.eval o) (hr : (execOp a.eval o).run P w = .ok .skip w') :
    wpListIn (Fw none) 0 P ops Q rest (a.put o.dst undef) w' := by
  have hw : Region.wanted o (yielded ops a.tmps) = true := by simp [Region.wanted, hg]
  simp only [wpListIn, hw, if_true] at h
  unfold Oper.wpIn at h
  have h := h.2
  rw [hs, hr] at h
  simpa only [Oper.uponIn] using h
end
theorem oper_q {P : Program} {o : Oper} {a : Act} {w : World} {K : Act → World → Prop} {Q Q' : Exit → Act → World → Prop} (h : ∀ c a w, Q (.panic c) a w = Q' (.panic c) a w) (h2 : LetsOut Q = LetsOut Q') : o.wpIn (Fw none) 0 P a w K Q = o.wpIn (Fw none) 0 P a w K Q' := by
  have e : ∀ r, o.uponIn (Fw none) 0 P a K Q r = o.uponIn (Fw none) 0 P a K Q' r := by
    intro r
    unfold Oper.uponIn
    split <;> simp only [h, h2]
  unfold Oper.wpIn
  rw [e]
theorem list_app {P : Program} {ops : Array Oper} {Q : Exit → Act → World → Prop} {l2 : List Oper} : ∀ (l1 : List Oper) (a : Act) (w : World),
    wpListIn (Fw none) 0 P ops (fun e a w => match e with | .normal => wpListIn (Fw none) 0 P ops Q l2 a w | e => Q e a w) l1 a w → wpListIn (Fw none) 0 P ops Q (l1 ++ l2) a w
  | [], a, w, h => h
  | o :: l1, a, w, h => by
    simp only [wpListIn, List.cons_append] at h ⊢
    split
    · rename_i hw
      rw [if_pos hw] at h
      refine Oper.wpIn_mono (list_app l1) ?_
      rw [← oper_q (Q := fun e a w => match e with | .normal => wpListIn (Fw none) 0 P ops Q l2 a w | e => Q e a w) (Q' := Q) (fun _ _ _ => rfl) rfl]
      exact h
    · rename_i hw
      rw [if_neg hw] at h
      exact ⟨h.1, list_app l1 _ _ h.2⟩
theorem oper_mono2 {F : Fence} {n : Nat} {P : Program} {Q Q' : Exit → Act → World → Prop} {o : Oper} {a : Act} {w : World} {K K' : Act → World → Prop} (h : ∀ a w, K a w → K' a w) (hq : ∀ e a w, Q e a w → Q' e a w)
    (hh : o.wpIn F n P a w K Q) : o.wpIn F n P a w K' Q' := by
  unfold Oper.wpIn at *
  refine ⟨hh.1, ?_⟩
  have hh := hh.2
  generalize (o.semAt F.round a.eval).run P w = r at *
  cases r with
  | ok x w' =>
    cases x <;> simp only [Oper.uponIn] at hh ⊢ <;>
      first
        | exact h _ _ hh
        | exact ⟨hh.1, CallsIn.mono hh.2 (fun e w'' he => by cases e <;> first | exact h _ _ he | exact hq _ _ _ he | exact (let ⟨a, w, h⟩ := he; ⟨a, w, hq _ _ _ h⟩))⟩
        | exact ⟨hh.1, RowsIn.mono hh.2 (fun _ _ he => h _ _ he)⟩
        | exact ⟨hh.1, RoundIn.mono hh.2 (fun e w'' he => by cases e <;> first | exact h _ _ he | exact hq _ _ _ he | exact (let ⟨a, w, h⟩ := he; ⟨a, w, hq _ _ _ h⟩))⟩
  | halt x w' => cases x <;> simp only [Oper.uponIn] at hh ⊢ <;> first | exact hh | exact hq _ _ _ hh
theorem list_mono {F : Fence} {n : Nat} {P : Program} {ops : Array Oper} {Q Q' : Exit → Act → World → Prop} (hq : ∀ e a w, Q e a w → Q' e a w) : ∀ (l : List Oper) (a : Act) (w : World), wpListIn F n P ops Q l a w → wpListIn F n P ops Q' l a w
  | [], a, w, h => hq _ _ _ h
  | o :: r, a, w, h => by
    unfold wpListIn at h ⊢
    split
    · rename_i hw
      rw [if_pos hw] at h
      exact oper_mono2 (list_mono hq r) hq h
    · rename_i hw
      rw [if_neg hw] at h
      exact ⟨h.1, list_mono hq r _ _ h.2⟩
theorem setRow_comm (w : World) {b b' : Nat} (h : b ≠ b') (c c' : Array Value) : (w.setRow b c).setRow b' c' = (w.setRow b' c').setRow b c := by
  have : ∀ (f g : Obj → Obj), (w.heap.modify b f).modify b' g = (w.heap.modify b' g).modify b f := by
    intro f g
    refine Array.ext (by simp) fun i h1 h2 => ?_
    simp only [Array.getElem_modify]
    split <;> split <;> first | rfl | omega
  simp only [World.setRow, this]
end Go.Eng
namespace Go.Eng.Ar
open Go.Eng Go.Proofs
set_option linter.all false
set_option maxRecDepth 100000
set_option maxHeartbeats 1000000
theorem ia76 (a : Act) (w : World) (o : Oper) (x y : Operand) (ho : o.op = .indexAddr 76 x y) {b off n c : Nat} {i : Nat} (hx : a.eval x = .slice (some ⟨b, off, none⟩) n c) (hy : a.eval y = .int .i64 i) (h1 : i < n) :
    (execOp a.eval o).run Tryz.prog w = .ok (.value (.pointer (some ⟨b, off + i, none⟩))) w := by
  have hS := run_sizeOf row3 w
  have hs : i3.size = 1 := rfl
  have h2 : (i : Int) < (n : Int) := by omega
  simp [execOp, ho, hx, hy, Instr.indexAt, run_underlying Tryz.underlying76, asIntOf, hS, h2, hs, add_none]
  intro h; omega
theorem ia66 (a : Act) (w : World) (o : Oper) (x y : Operand) (ho : o.op = .indexAddr 66 x y) {b off n c : Nat} {i : Nat} (hx : a.eval x = .slice (some ⟨b, off, none⟩) n c) (hy : a.eval y = .int .i64 i) (h1 : i < n) :
    (execOp a.eval o).run Tryz.prog w = .ok (.value (.pointer (some ⟨b, off + i, none⟩))) w := by
  have hS := run_sizeOf row76 w
  have hs : i76.size = 1 := rfl
  have h2 : (i : Int) < (n : Int) := by omega
  simp [execOp, ho, hx, hy, Instr.indexAt, run_underlying Tryz.underlying66, asIntOf, hS, h2, hs, add_none]
  intro h; omega
theorem ld3 (a : Act) (w : World) (o : Oper) (x : Operand) (ho : o.op = .load 3 x) {b off el : Nat} {cur : Array Value} {f : Nat × Nat} {v : Value} (hx : a.eval x = .pointer (some ⟨b, off, none⟩)) (hb : w.heap[b]? = some (.cells cur el f)) (hv : cur[off]? = some v) :
    (execOp a.eval o).run Tryz.prog w = .ok (.value v) w := by
  have hl : (loadVar 3 ⟨b, off, none⟩).run Tryz.prog w = .ok v w := run_loadVar_one row3 rfl (by rw [cell_of hb]; exact hv)
  simp [execOp, ho, hx, Instr.loadAt, Instr.sureAddr, hl]
theorem ld76 (a : Act) (w : World) (o : Oper) (x : Operand) (ho : o.op = .load 76 x) {b off el : Nat} {cur : Array Value} {f : Nat × Nat} {v : Value} (hx : a.eval x = .pointer (some ⟨b, off, none⟩)) (hb : w.heap[b]? = some (.cells cur el f)) (hv : cur[off]? = some v) :
    (execOp a.eval o).run Tryz.prog w = .ok (.value v) w := by
  have hl : (loadVar 76 ⟨b, off, none⟩).run Tryz.prog w = .ok v w := run_loadVar_one row76 rfl (by rw [cell_of hb]; exact hv)
  simp [execOp, ho, hx, Instr.loadAt, Instr.sureAddr, hl]
theorem set_cells {cur : Array Value} {i : Nat} {v : Value} (hi : i < cur.size) : (cur.toList.take i ++ [v] ++ cur.toList.drop (i + 1)).toArray = cur.set! i v := by
  refine Array.ext' ?_
  simp only [Array.set!_eq_setIfInBounds, Array.toList_setIfInBounds]
  rw [List.set_eq_take_append_cons_drop, if_pos (by simpa using hi)]
  simp
theorem st3 (a : Act) (w : World) (o : Oper) (x y : Operand) (ho : o.op = .store 3 x y) {b off el : Nat} {cur : Array Value} {n : Int} (hx : a.eval x = .pointer (some ⟨b, off, none⟩)) (hy : a.eval y = .int .i64 n) (hb : w.heap[b]? = some (.cells cur el (0, 0))) (hi : off < cur.size) :
    (execOp a.eval o).run Tryz.prog w = .ok .skip (w.setRow b (cur.set! off (.int .i64 n))) := by
  have hst := run_storeVar_row (P := Tryz.prog) row3 (b := b) (off := off) (v := .int .i64 n) hb rfl hi (fun u hu => by
    have : u = .int .i64 n := by simpa [Value.cells] using hu
    rw [this]; rfl)
  have e : (cur.toList.take off ++ (Value.int .i64 n).cells.toList ++ cur.toList.drop (off + (Value.int .i64 n).cells.size)).toArray = cur.set! off (.int .i64 n) := set_cells hi
  rw [e] at hst
  simp [execOp, ho, hx, hy, Instr.storeAt, Instr.sureAddr, hst]
theorem st76 (a : Act) (w : World) (o : Oper) (x y : Operand) (ho : o.op = .store 76 x y) {b off el : Nat} {cur : Array Value} {ad : Option Addr} {n c : Nat} (hx : a.eval x = .pointer (some ⟨b, off, none⟩)) (hy : a.eval y = .slice ad n c) (hb : w.heap[b]? = some (.cells cur el (0, 0))) (hi : off < cur.size) :
    (execOp a.eval o).run Tryz.prog w = .ok .skip (w.setRow b (cur.set! off (.slice ad n c))) := by
  have hst := run_storeVar_row (P := Tryz.prog) row76 (b := b) (off := off) (v := .slice ad n c) hb rfl hi (fun u hu => by
    have : u = .slice ad n c := by simpa [Value.cells] using hu
    rw [this]; rfl)
  have e : (cur.toList.take off ++ (Value.slice ad n c).cells.toList ++ cur.toList.drop (off + (Value.slice ad n c).cells.size)).toArray = cur.set! off (.slice ad n c) := set_cells hi
  rw [e] at hst
  simp [execOp, ho, hx, hy, Instr.storeAt, Instr.sureAddr, hst]
theorem mvR (a : Act) (w : World) (o : Oper) (x : Operand) (ho : o.op = .move x) {v : Value} (hx : a.eval x = v) : (execOp a.eval o).run Tryz.prog w = .ok (.value v) w := by
  simp [execOp, ho, hx]
theorem v_int {V : View} {k : IntKind} {n : Int} {v : Value} (h : RepV V (.int k) n v) : v = .int k n := by
  obtain ⟨l, h1, ⟨h2, _⟩ | ⟨_, h2⟩⟩ := h
  · cases h2
  · have h1 : l = [.int k n] := h1
    rw [h1] at h2; simpa using h2.symm
theorem size_put (a : Act) (t : Nat) (v : Value) : (a.put (some t) v).tmps.size = a.tmps.size := by simp [Act.put]
theorem defers_put (a : Act) (t : Nat) (v : Value) : (a.put (some t) v).defers = a.defers := rfl
end Go.Eng.Ar

namespace Go.Eng
set_option linter.all false
set_option maxRecDepth 100000
section
variable {P : Program} {a : Act} {w : World} {ops : Array Oper}
theorem still1 {Q : Act → Prop} {o : Oper} {v : Value} {rest : List Oper} (hg : o.guard = none) (hr : (execOp a.eval o).run P w = .ok (.value v) w) (h : wpStill P ops w Q rest (a.put o.dst v)) : wpStill P ops w Q (o :: rest) a := by
  have hw : Region.wanted o (yielded ops a.tmps) = true := by simp [Region.wanted, hg]
  simp only [wpStill, hw, if_true, Oper.still, hr, Oper.stillUpon]
  exact ⟨trivial, h⟩
theorem plain_skip {Q : Exit → Act → World → Prop} {o : Oper} {w' : World} (hnd : ∀ d, o.op ≠ .defer d) (hg : o.guard = none) (hr : (execOp a.eval o).run P w = .ok .skip w') (h : Q .normal (a.put o.dst undef) w') : wpList P ops Q [o] a w := by
  have hw : Region.wanted o (yielded ops a.tmps) = true := by simp [Region.wanted, hg]
  simp only [wpList, hw, if_true]
  unfold Oper.wp
  simp only [hr, Oper.upon]
  exact .inl h
theorem rel_ag {E : Env} {nt : Nat} {st : St} {a' : Act} {ds : List Nat} (hR : RelS E nt st a w) (hsz : a'.tmps.size = nt) (hd : a'.defers = a.defers) (h : ∀ t, t ∉ ds → a'.tmps.getD t undef = a.tmps.getD t undef) (hds : ∀ u s, Fact.slot u s ∈ st → u ∉ ds) : RelS E nt st a' w := by
  obtain ⟨η, g, H⟩ := hR
  refine ⟨η, re_act (E := E) (E' := E) (ds := ds) rfl rfl rfl rfl rfl rfl g H (fun b c h => h) hsz (fun t ht => (h t ht).symm) hds ?_ (fun hn => by rw [hd]; exact g.nd hn)⟩
  obtain ⟨⟨ms, q1, q2⟩, q3⟩ := g.defers
  exact ⟨⟨ms, by rw [hd]; exact q1, q2⟩, q3⟩
theorem rel_drawn {E : Env} {nt : Nat} {st : St} (n : Nat) (hR : RelS E nt st a w) : RelS E nt st a { w with drawn := n } := by
  obtain ⟨η, g, H⟩ := hR
  exact ⟨η, ⟨g.size, g.lim, g.defers, g.os, g.tape, g.output, g.grow, g.keep, g.own, g.dis, g.inj, g.old, g.obkeep, g.nd⟩, fun f hf => by
    have := H f hf
    cases f <;> exact this⟩
theorem fw_none : Fw none = Fence.wide := rfl
end
section
variable {c : Cfg}
theorem fn_hand {P : Program} {OB : Nat → Obj → Prop} (hC : CfgOk P OB c) {f : Nat} {fn : Func} {body : Code} {rs : List ResultVar} {sp : Spec}
    (hf : P.funcs[f]? = some fn) (hb : fn.body = some body) (hnt : fn.ntmps = c.nt) (hps : sp.pats.length ≤ c.nt) (hlim : c.nt ≤ 1000000) (hob : obCount sp.pats ≤ 1) (hrs : fn.results.toList = rs)
    (h : ∀ x, sp.pre x → ∀ (M : Nat → Prop) (bs : List Nat) (w : World) (a : Act), a.defers = [] → RelS { P := P, M := M, mu := fun b => b ∈ bs, w0 := w, OB := OB } c.nt (initFacts sp.pats x 0) a w →
      body.wpIn (Fw none) 0 P (PostX { P := P, M := M, mu := fun b => b ∈ bs, w0 := w, OB := OB } c.nt fun e st => match e with
        | .ret | .normal => retVC c rs sp.res (sp.f x) st
        | _ => False) a w) : Holds P OB f sp := by
  intro w M x vs bs hM hA hpre
  obtain ⟨o1, o2, o3, o4⟩ := obsOf_spec sp.pats x vs bs 0 hA
  let E : Env := { P := P, M := M, mu := fun b => b ∈ bs, w0 := w, OB := OB }
  refine callsIn_wide.1 (callsIn_of_wp_marks (F := Fence.wide) (n := 0) hf hb trivial ?_)
  have hsz : (vs.toArray ++ Array.replicate (fn.ntmps - vs.toArray.size) undef).size = c.nt := by
    simp; omega
  have hR : RelS E c.nt (initFacts sp.pats x 0) { tmps := vs.toArray ++ Array.replicate (fn.ntmps - vs.toArray.size) undef, defers := [] } w := by
    have hη : ∀ k b n, etaOf (obsOf sp.pats vs 0) k = some (b, n) → (k, b) ∈ obsOf sp.pats vs 0 ∧ n = 0 := by
      intro k b n
      generalize obsOf sp.pats vs 0 = l
      induction l with
      | nil => intro h; cases h
      | cons p r ih =>
        intro h
        simp only [etaOf] at h
        split at h
        · rename_i hk
          simp only [Option.some.injEq, Prod.mk.injEq] at h
          obtain ⟨rfl, rfl⟩ := h
          subst hk
          exact ⟨List.mem_cons_self, rfl⟩
        · obtain ⟨h1, h2⟩ := ih h
          exact ⟨List.mem_cons_of_mem _ h1, h2⟩
    have hbs : ∀ k b, (k, b) ∈ obsOf sp.pats vs 0 → b ∈ bs := fun k b hkb => by rw [← o1]; exact List.mem_map.2 ⟨_, hkb, rfl⟩
    refine ⟨etaOf (obsOf sp.pats vs 0), ?_, ?_⟩
    · exact {
        size := hsz, lim := hlim, defers := ⟨⟨[], rfl, List.nodup_nil, fun _ h => by cases h⟩, fun _ h => by cases h⟩, os := rfl, tape := rfl, output := rfl, grow := Nat.le_refl _, keep := fun _ _ _ _ => rfl,
        own := fun k b n hk => ⟨(o4 b (hbs k b (hη k b n hk).1)).2, .inr (hbs k b (hη k b n hk).1)⟩,
        dis := fun b hb h => h.elim (fun h => absurd (o4 b hb).2 (Nat.not_lt_of_le h)) id,
        inj := fun k k' b n n' hk hk' => by
          have h1 := (hη k b n hk).1
          have h2 := (hη k' b n' hk').1
          have hl : (obsOf sp.pats vs 0).length ≤ 1 := by omega
          match hobs : obsOf sp.pats vs 0, hl with
          | [], _ => rw [hobs] at h1; cases h1
          | [p], _ =>
            rw [hobs] at h1 h2
            simp only [List.mem_singleton] at h1 h2
            rw [← h2] at h1
            simpa using h1
        old := fun b hb h => h.elim (fun h => absurd (hM b hb) (Nat.not_lt_of_le h)) id, obkeep := fun b i o _ _ h1 h2 => ⟨o, h1, h2⟩ }
    · refine init_facts rfl rfl (fun b h => h.elim id fun ⟨_, h⟩ => by cases h) rfl (fun k b n hk => (o4 b (hbs k b (hη k b n hk).1)).1) sp.pats x vs bs 0 hA (by omega) (fun j v hj => ?_) (fun k b hkb => ?_)
      · simp only [Nat.zero_add]
        have hjl := (List.getElem?_eq_some_iff.1 hj).1
        simp only [Array.getD_eq_getD_getElem?]
        rw [Array.getElem?_append_left (by simpa using hjl)]
        simp [hj]
      · have hl : (obsOf sp.pats vs 0).length ≤ 1 := by omega
        match hobs : obsOf sp.pats vs 0, hl with
        | [], _ => rw [hobs] at hkb; cases hkb
        | [p], _ =>
          rw [hobs] at hkb
          simp only [List.mem_singleton] at hkb
          subst hkb
          simp [etaOf]
  have hCE : CfgOk E.P E.OB c := hC
  refine wpIn_mono (h x hpre M bs w _ rfl hR) fun e a' w' ⟨xe, st', e1, e2, e3⟩ => ?_
  subst e1
  have leave : ∀ (R : Ending → World → Prop) (st1 : St) (η : Eta) (tmps : Array Value), (∀ a1 w1, a1.tmps = tmps → Good E c.nt η a1 w1 → (∀ f ∈ st1, Fact.holds E η a1 w1 f) → ∃ v, (results fn tmps).run P w1 = .ok v w1 ∧ R (.returned v) w1) →
      ∀ (ms : List Nat) (a1 : Act) (w1 : World), a1.tmps = tmps → a1.defers = ms.map mkD → ms.Nodup → (∀ D ∈ ms, E.w0.heap.size ≤ D ∧ w1.heap[D]? = some (.deferred (some [])) ∧ ∀ k c, η k ≠ some (D, c)) →
      Good E c.nt η a1 w1 → (∀ f ∈ st1, Fact.holds E η a1 w1 f) → LeavesInM Fence.wide 0 P fn tmps R a1.defers .returning w1 := by
    intro R st1 η tmps hfin ms
    induction ms with
    | nil =>
      intro a1 w1 ht hd1 _ _ g H
      rw [hd1]
      exact hfin a1 w1 ht g H
    | cons D ms ih =>
      intro a1 w1 ht hd1 hn hm g H
      have ht2 := take_mark rfl g H (by rw [hd1]; rfl) hn hm
      rw [hd1]
      refine ⟨by simp, .inl ⟨D, _, rfl, run_takeDeferred (hm D List.mem_cons_self).2.1, ?_⟩⟩
      refine ih { a1 with defers := ms.map mkD } _ ht rfl (List.nodup_cons.1 hn).2 (fun D' hD' => ?_) ht2.1 ht2.2
      obtain ⟨p1, p2, p3⟩ := hm D' (List.mem_cons_of_mem _ hD')
      have hne : D' ≠ D := fun e => (List.nodup_cons.1 hn).1 (by rw [← e]; exact hD')
      exact ⟨p1, (World.putObj_heap_other hne).trans p2, p3⟩
  have fin : ∀ st', retVC c rs sp.res (sp.f x) st' → RelS E c.nt st' a' w' → LeavesInM Fence.wide 0 P fn a'.tmps (fun e w' => ∃ rs g, e = .returned (retVal rs) ∧ CPost OB w w' bs ∧
      ResOK w' (fun b c => ¬ M b ∧ g ≠ some b ∧ ∃ el f, w'.heap[b]? = some (.cells c el f)) w.heap.size sp.res (sp.f x) rs g) a'.defers .returning w' := by
    intro st' hr hR
    unfold retVC at hr
    split at hr
    case h_2 => exact hr.elim
    case h_1 p st1 hfz =>
      split at hr
      case h_2 => exact hr.elim
      case h_1 q y hq =>
        obtain ⟨r1, hr⟩ := OP.andK_out hr
        obtain ⟨r2, r3⟩ := hr.out
        have r3 := eqD_eq _ _ _ r3
        obtain ⟨η, g, H⟩ := freezes_sound hfz r1 hR
        obtain ⟨⟨ms, m1, m2, m3⟩, _⟩ := g.defers
        refine leave _ st1 η a'.tmps (fun a1 w1 ht g H => ?_) ms a' w' rfl m1 m2 m3 g H
        obtain ⟨vs', gb, k1, k2, k3, k4⟩ := resOf_sound hCE.tbl g H rs sp.res q y hq r2 (.inr fun _ h => h)
        rw [r3] at k4
        rw [← hrs, ht] at k1
        refine ⟨_, results_run k1, vs', gb, rfl, ?_, k4 _ (fun b c ⟨m1, m2, m3⟩ => ⟨fun hm => m1 (.inl hm), fun hg => ?_, m3⟩)⟩
        · exact { os := g.os, tape := g.tape, output := g.output, size := g.grow, keep := fun b hb hn => g.keep b hb hn (fun h => h), obk := fun b hb i o h1 h2 => g.obkeep b i o (o4 b hb).2 hb h1 h2 }
        · obtain ⟨k, n, hk⟩ := k2 b hg
          exact m2 k n hk
  cases xe with
  | normal => exact fin st' e2 e3
  | exit id => exact e2.elim
  | ret => exact fin st' e2 e3
end
end Go.Eng
namespace Go.Eng.Ar
open Go.Eng Go.Proofs
set_option linter.all false
set_option maxRecDepth 100000
set_option maxHeartbeats 2000000
@[reducible] noncomputable def EH (M : Nat → Prop) (bs : List Nat) (w : World) (nd : Bool) : Env := { P := Tryz.prog, M := M, mu := fun b => b ∈ bs, w0 := w, OB := OB, x := { nd := nd } }
theorem nd_on {M : Nat → Prop} {bs : List Nat} {w0 w : World} {nt : Nat} {st : St} {a : Act} (hR : RelS (EH M bs w0 false) nt st a w) (hd : a.defers = []) : RelS (EH M bs w0 true) nt st a w :=
  let ⟨η, g, H⟩ := hR
  ⟨η, ⟨g.size, g.lim, g.defers, g.os, g.tape, g.output, g.grow, g.keep, g.own, g.dis, g.inj, g.old, g.obkeep, fun _ => hd⟩, H⟩
theorem nd_off {M : Nat → Prop} {bs : List Nat} {w0 w : World} {nt : Nat} {st : St} {a : Act} (hR : RelS (EH M bs w0 true) nt st a w) : RelS (EH M bs w0 false) nt st a w ∧ a.defers = [] :=
  let ⟨η, g, H⟩ := hR
  ⟨⟨η, ⟨g.size, g.lim, g.defers, g.os, g.tape, g.output, g.grow, g.keep, g.own, g.dis, g.inj, g.old, g.obkeep, fun h => by cases h⟩, H⟩, g.nd rfl⟩
noncomputable def b180 : Code := bodyOf Tryz.f180
noncomputable def lb180 : Code := match b180 with | .seq _ (.seq _ (.seq _ (.seq _ (.seq (.seq _ (.block _ (.loop x))) _)))) => x | c => c
noncomputable def li180 : Code := match lb180 with | .seq _ (.seq _ (.seq (.block _ (.seq _ (.seq _ (.seq (.seq _ (.block _ (.loop x))) _)))) _)) => x | c => c
noncomputable def r12 : Code := match li180 with | .seq _ (.seq _ (.seq (.block _ (.seq _ (.seq x _))) _)) => x | c => c
noncomputable def r13 : Code := match li180 with | .seq _ (.seq _ (.seq (.block _ (.seq _ (.seq _ x))) _)) => x | c => c
noncomputable def ops12 : List Oper := match r12 with | .region _ x _ => x.toList | _ => []
noncomputable def ops13 : List Oper := match r13 with | .region _ x _ => x.toList | _ => []
theorem r13_eq : r13 = .region 13 ops13.toArray true := rfl
abbrev mk0 (d : Option Nat) (t : Nat) (op : Op) : Oper := { dst := d, op := op, type := t, pos := "", after := #[], guard := none }
def opsB : List Oper := [mk0 (some 40) 76 (.move (.tmp 36)), mk0 (some 42) 3 (.move (.tmp 9)), mk0 (some 43) 76 (.move (.tmp 1)), mk0 (some 44) 3 (.move (.tmp 11)), mk0 (some 45) 0 (.indexAddr 76 (.tmp 43) (.tmp 44)), mk0 (some 46) 3 (.load 3 (.tmp 45)),
  mk0 (some 47) 0 (.indexAddr 76 (.tmp 40) (.tmp 42)), mk0 none 3 (.store 3 (.tmp 47) (.tmp 46)), mk0 (some 37) 0 (.indexAddr 66 (.tmp 33) (.tmp 34)), mk0 none 76 (.store 76 (.tmp 37) (.tmp 36))]
@[reducible] def stA (K : Nat) (m xs : List (List Int)) (right row outs : List Int) (den : Int) (i k n : Nat) : St :=
  [.slot 33 (.one (.o K n)), sI 34 i, .slot 36 (.one (.o 36 row.length)), .row 36 3 I64 row, .slot 10 (.one (.o K n)), .row K 76 (.sl I64) xs, sI 28 i, .slot 26 (.one (.d MatT m)), sI 27 n, sI 11 i, sI 9 k, sI 20 k, sI 19 n, sI 7 den, .slot 8 (.one (.o 60008 outs.length)), .row 60008 3 I64 outs, .slot 0 (.one (.d MatT m)), .slot 1 (.one (.d (.sl I64) right))]
@[reducible] def stB (K : Nat) (m xs : List (List Int)) (right outs : List Int) (den : Int) (i k n : Nat) : St :=
  [.slot 10 (.one (.o K n)), .row K 76 (.sl I64) xs, sI 28 i, .slot 26 (.one (.d MatT m)), sI 27 n, sI 9 k, sI 20 k, sI 19 n, sI 7 den, .slot 8 (.one (.o 60008 outs.length)), .row 60008 3 I64 outs, .slot 0 (.one (.d MatT m)), .slot 1 (.one (.d (.sl I64) right))]
abbrev cSv : List (Nat × Spec) := [(145, sClone), (200, sDetAll)]
theorem cSv_ok : All cSv := ⟨h145, hDet, trivial⟩
@[reducible] def cfS : Cfg := cfg {} cSv 75
theorem vcB (m xs : List (List Int)) (right row outs : List Int) (den : Int) (i k n : Nat) (hi : i < n) (hn : xs.length = n) (hr : i < right.length) (hk : k < row.length) : runOps cfS opsB.toArray opsB (stA 60010 m xs right row outs den i k n)
    (fun st => Goal (∃ s : Unit, ent st (stB 60010 m (xs.set i (row.set k (vI right i))) right outs den i k n) ∧ True)) := by
  repeat' (intro hzz; (try (rename Two => hq; cases hq)); (try dsimp only at hzz); (try simp only [resTy, argTy, eqD, inR, big, wantOf, zB] at hzz); (try simp only [resTy, argTy, eqD, inR, big, wantOf, zB, getD_i] at hzz); (try (revert hzz; intro _)))
  all_goals try (rename Unit => hq; clear hq)
  all_goals try ((with_reducible refine Held.mk ?_); (with_reducible (first | refine Frz.mk ?_ | refine And.intro (Frz.mk ?_) ?_ | refine And.intro ?_ (Frz.mk ?_))); repeat' first | exact True.intro | (change _ = _; with_reducible rfl) | refine And.intro ?_ ?_ | (with_reducible refine Frz.mk ?_))
  all_goals try (refine Held.mk ?_; (try dsimp only at *); (try simp only [resTy, argTy, eqD, inR, big, wantOf, zB] at *); (try simp only [resTy, argTy, eqD, inR, big, wantOf, zB, getD_i] at *))
  all_goals try omega
  · show row.length = (row.set k (vI right i)).length
    rw [List.length_set]
  · show row.length = (row.set k (vI right i)).length
    rw [List.length_set]
  ·
    refine GHeld.mk ?_
    refine Exists.intro () ?_
    refine And.intro (Leaf.mk ?_) ?_
    · repeat' first | exact True.intro | refine And.intro ?_ ?_
      all_goals try ((change _ = _ <;> try dsimp only) <;> try with_reducible rfl)
      all_goals try omega
      all_goals (first | rfl | (rw [List.length_set]))
    trivial
structure RawN (a : Act) (w : World) (row right : List Int) (i n : Nat) (bK cK : Nat) (curK : Array Value) (bC cC : Nat) (curC : Array Value) (bR oR cR elR : Nat) (curR : Array Value) (fR : Nat × Nat) : Prop where
  t33 : a.tmps.getD 33 undef = .slice (some ⟨bK, 0, none⟩) n cK
  t10 : a.tmps.getD 10 undef = .slice (some ⟨bK, 0, none⟩) n cK
  t36 : a.tmps.getD 36 undef = .slice (some ⟨bC, 0, none⟩) row.length cC
  t1 : a.tmps.getD 1 undef = .slice (some ⟨bR, oR, none⟩) right.length cR
  hK : w.heap[bK]? = some (.cells curK 76 (0, 0))
  hC : w.heap[bC]? = some (.cells curC 3 (0, 0))
  hR : w.heap[bR]? = some (.cells curR elR fR)
  sK : n ≤ curK.size
  sC : row.length ≤ curC.size
  gR : curR[oR + i]? = some (.int .i64 (vI right i))
  ne : bK ≠ bC
  neK : bR ≠ bK
  neC : bR ≠ bC
theorem raw_of {M : Nat → Prop} {bs : List Nat} {w0 w : World} {a : Act} {m xs : List (List Int)} {right row outs : List Int} {den : Int} {i k n : Nat} (hR : RelS (EH M bs w0 true) 75 (stA 60010 m xs right row outs den i k n) a w) (hi : i < n) (hn : xs.length = n) (hr : i < right.length) (hk : k < row.length) :
    ∃ bK cK curK bC cC curC bR oR cR elR curR fR, RawN a w row right i n bK cK curK bC cC curC bR oR cR elR curR fR := by
  obtain ⟨η, g, H⟩ := hR
  have f33 := H (.slot 33 (.one (.o 60010 n))) (by simp)
  have f10 := H (.slot 10 (.one (.o 60010 n))) (by simp)
  have f36 := H (.slot 36 (.one (.o 36 row.length))) (by simp)
  have fK := H (.row 60010 76 (.sl I64) xs) (by simp)
  have fC := H (.row 36 3 I64 row) (by simp)
  have f1 := H (.slot 1 (.one (.d (.sl I64) right))) (by simp)
  simp only [Fact.holds, holdsV, holds1] at f33 f10 f36 fK fC f1
  rw [sval_lt (by decide)] at f33 f10 f36 f1
  rcases f33 with ⟨_, h, _⟩ | ⟨bK, cK, e1, e2, _⟩
  · omega
  rcases f10 with ⟨_, h, _⟩ | ⟨bK', cK', e3, e4, _⟩
  · omega
  rw [e1] at e3; cases e3
  rcases f36 with ⟨_, h, _⟩ | ⟨bC, cC, e5, e6, _⟩
  · omega
  rcases fK with ⟨h, _⟩ | ⟨b1, c1, curK, _, e7, hK, rK⟩
  · rw [e1] at h; cases h
  rw [e1] at e7; cases e7
  rcases fC with ⟨h, _⟩ | ⟨b2, c2, curC, _, e8, hC, rC⟩
  · rw [e5] at h; cases h
  rw [e5] at e8; cases e8
  obtain ⟨l, ⟨ad, cap, q1, q2, q3, q4, q5⟩, ⟨hf, _⟩ | ⟨_, hv⟩⟩ := f1
  · cases hf
  rw [q1] at hv
  simp only [List.cons.injEq, and_true] at hv
  have hne : right ≠ [] := by intro h; rw [h] at hr; simp at hr
  cases ad with
  | none => exact absurd (q4 rfl).1 hne
  | some ad =>
    obtain ⟨hsp, c, ⟨v1, v2, el, f, v3⟩, hsz, hrep⟩ := q5 ad rfl hne
    obtain ⟨bR, oR, sp⟩ := ad
    simp only at hsp v1 v2 v3 hsz hrep
    subst hsp
    have hg := hrep i (vI right i) (by simp [vI, List.getElem?_eq_getElem hr])
    have hg : ((c.toList.drop (oR + i * 1)).take 1) = [.int .i64 (vI right i)] := hg
    have hgr : c[oR + i]? = some (.int .i64 (vI right i)) := by
      have h2 := congrArg (fun l => l[0]?) hg
      simpa [List.getElem?_take, List.getElem?_drop] using h2
    refine ⟨bK, cK, curK, bC, cC, curC, bR, oR, cap, el, c, f, e2, e4, e6, hv.symm, hK, hC, v3, ?_, ?_, hgr, fun h => ?_, fun h => ?_, fun h => ?_⟩
    · have h1 := rK.1; have h2 := rK.2.1
      have : curK.size = cK * 1 := h1
      have : xs.length ≤ cK := h2
      omega
    · have h1 := rC.1; have h2 := rC.2.1
      have : curC.size = cC * 1 := h1
      have : row.length ≤ cC := h2
      omega
    · subst h
      have := g.inj _ _ _ _ _ e1 e5
      cases this
    · subst h; exact v2 _ _ e1
    · subst h; exact v2 _ _ e5
theorem stB_slots {K : Nat} {m xs : List (List Int)} {right outs : List Int} {den : Int} {i k n : Nat} {u : Nat} {s : SV} (h : Fact.slot u s ∈ stB K m xs right outs den i k n) : u ∉ [36, 37, 38, 39, 40, 41, 42, 43, 44, 45, 46, 47] := by
  simp only [stB, List.mem_cons, List.not_mem_nil, or_false, Fact.slot.injEq, reduceCtorEq, false_or] at h
  simp only [List.mem_cons, List.not_mem_nil, or_false]
  omega
theorem ev (a : Act) (t : Nat) : a.eval (.tmp t) = a.tmps.getD t undef := rfl
theorem nest {M : Nat → Prop} {bs : List Nat} {w0 w : World} {a : Act} {m xs : List (List Int)} {right row outs : List Int} {den : Int} {i k n : Nat} {Q : Exit → Act → World → Prop} (hR : RelS (EH M bs w0 true) 75 (stA 60010 m xs right row outs den i k n) a w) (hi : i < n) (hn : xs.length = n) (hr : i < right.length) (hk : k < row.length)
    (hQ : ∀ a' w', RelS (EH M bs w0 true) 75 (stB 60010 m (xs.set i (row.set k (vI right i))) right outs den i k n) a' w' → Q .normal a' w') :
    wpListIn (Fw none) 0 Tryz.prog ops12.toArray (fun e a w => match e with | .normal => r13.wpIn (Fw none) 0 Tryz.prog Q a w | e => Q e a w) (ops12.drop 4) a w := by
  obtain ⟨bK, cK, curK, bC, cC, curC, bR, oR, cR, elR, curR, fR, r⟩ := raw_of hR hi hn hr hk
  have hsz : a.tmps.size = 75 := by obtain ⟨η, g, H⟩ := hR; exact g.size
  have s34 : a.tmps.getD 34 undef = .int .i64 i := by
    obtain ⟨η, g, H⟩ := hR
    have h := H (sI 34 i) (by simp)
    simp only [Fact.holds] at h
    rw [sval_lt (by decide)] at h
    exact v_int h
  have s11 : a.tmps.getD 11 undef = .int .i64 i := by
    obtain ⟨η, g, H⟩ := hR
    have h := H (sI 11 i) (by simp)
    simp only [Fact.holds] at h
    rw [sval_lt (by decide)] at h
    exact v_int h
  have s9 : a.tmps.getD 9 undef = .int .i64 k := by
    obtain ⟨η, g, H⟩ := hR
    have h := H (sI 9 k) (by simp)
    simp only [Fact.holds] at h
    rw [sval_lt (by decide)] at h
    exact v_int h
  obtain ⟨vC, hvC⟩ : ∃ vC, vC = Value.slice (some ⟨bC, 0, none⟩) row.length cC := ⟨_, rfl⟩
  obtain ⟨x, hx⟩ : ∃ x, x = vI right i := ⟨_, rfl⟩
  -- the way of B
  have hB := runOps_sound (E := EH M bs w0 true) (c := cfS) (ro := none) (q := 0) (cfgOk (X := {}) trivial cSv_ok) (ops := opsB.toArray) (Q := fun e a' w' => e = .normal ∧ RelS (EH M bs w0 true) 75 (stB 60010 m (xs.set i (row.set k (vI right i))) right outs den i k n) a' w')
    (by intro o ho t ht
        have hall : (opsB.all fun o => match o.dst with | some t => Nat.blt t 75 | none => true) = true := by kernel_rfl
        have := List.all_eq_true.1 hall o (by simpa using ho)
        rw [ht] at this
        exact Nat.le_of_ble_eq_true this) opsB (fun o ho => by simpa using ho) _ _ a w (vcB m xs right row outs den i k n hi hn hr hk) hR
    (fun st' a' w' h1 h2 => by obtain ⟨_, h4, _⟩ := h1.out; exact ⟨rfl, ent_sound h4 h2⟩)
  simp only [opsB] at hB
  have za := hsz
  have e36 : a.tmps.getD 36 undef = vC := r.t36.trans hvC.symm
  have hB1 := list_inv hB rfl rfl (mvR a w _ (.tmp 36) rfl e36)
  obtain ⟨B1, qB1⟩ : ∃ x, x = a.put (some 40) vC := ⟨_, rfl⟩
  have zB1 : B1.tmps.size = 75 := by rw [qB1, size_put]; exact za
  have gB1_36 : B1.tmps.getD 36 undef = vC := by rw [qB1]; exact (getD_put_ne (by decide)).trans e36
  have gB1_33 : B1.tmps.getD 33 undef = (.slice (some ⟨bK, 0, none⟩) n cK) := by rw [qB1]; exact (getD_put_ne (by decide)).trans r.t33
  have gB1_10 : B1.tmps.getD 10 undef = (.slice (some ⟨bK, 0, none⟩) n cK) := by rw [qB1]; exact (getD_put_ne (by decide)).trans r.t10
  have gB1_34 : B1.tmps.getD 34 undef = (.int .i64 i) := by rw [qB1]; exact (getD_put_ne (by decide)).trans s34
  have gB1_11 : B1.tmps.getD 11 undef = (.int .i64 i) := by rw [qB1]; exact (getD_put_ne (by decide)).trans s11
  have gB1_9 : B1.tmps.getD 9 undef = (.int .i64 k) := by rw [qB1]; exact (getD_put_ne (by decide)).trans s9
  have gB1_1 : B1.tmps.getD 1 undef = (.slice (some ⟨bR, oR, none⟩) right.length cR) := by rw [qB1]; exact (getD_put_ne (by decide)).trans r.t1
  have gB1_40 : B1.tmps.getD 40 undef = vC := by rw [qB1]; exact getD_put_eq (by rw [za]; decide)
  change wpListIn (Fw none) 0 Tryz.prog _ _ _ (a.put (some 40) vC) w at hB1
  rw [← qB1] at hB1
  have hB2 := list_inv hB1 rfl rfl (mvR B1 w _ (.tmp 9) rfl gB1_9)
  obtain ⟨B2, qB2⟩ : ∃ x, x = B1.put (some 42) (.int .i64 k) := ⟨_, rfl⟩
  have zB2 : B2.tmps.size = 75 := by rw [qB2, size_put]; exact zB1
  have gB2_36 : B2.tmps.getD 36 undef = vC := by rw [qB2]; exact (getD_put_ne (by decide)).trans gB1_36
  have gB2_33 : B2.tmps.getD 33 undef = (.slice (some ⟨bK, 0, none⟩) n cK) := by rw [qB2]; exact (getD_put_ne (by decide)).trans gB1_33
  have gB2_10 : B2.tmps.getD 10 undef = (.slice (some ⟨bK, 0, none⟩) n cK) := by rw [qB2]; exact (getD_put_ne (by decide)).trans gB1_10
  have gB2_34 : B2.tmps.getD 34 undef = (.int .i64 i) := by rw [qB2]; exact (getD_put_ne (by decide)).trans gB1_34
  have gB2_11 : B2.tmps.getD 11 undef = (.int .i64 i) := by rw [qB2]; exact (getD_put_ne (by decide)).trans gB1_11
  have gB2_9 : B2.tmps.getD 9 undef = (.int .i64 k) := by rw [qB2]; exact (getD_put_ne (by decide)).trans gB1_9
  have gB2_1 : B2.tmps.getD 1 undef = (.slice (some ⟨bR, oR, none⟩) right.length cR) := by rw [qB2]; exact (getD_put_ne (by decide)).trans gB1_1
  have gB2_40 : B2.tmps.getD 40 undef = vC := by rw [qB2]; exact (getD_put_ne (by decide)).trans gB1_40
  have gB2_42 : B2.tmps.getD 42 undef = (.int .i64 k) := by rw [qB2]; exact getD_put_eq (by rw [zB1]; decide)
  change wpListIn (Fw none) 0 Tryz.prog _ _ _ (B1.put (some 42) (.int .i64 k)) w at hB2
  rw [← qB2] at hB2
  have hB3 := list_inv hB2 rfl rfl (mvR B2 w _ (.tmp 1) rfl gB2_1)
  obtain ⟨B3, qB3⟩ : ∃ x, x = B2.put (some 43) (.slice (some ⟨bR, oR, none⟩) right.length cR) := ⟨_, rfl⟩
  have zB3 : B3.tmps.size = 75 := by rw [qB3, size_put]; exact zB2
  have gB3_36 : B3.tmps.getD 36 undef = vC := by rw [qB3]; exact (getD_put_ne (by decide)).trans gB2_36
  have gB3_33 : B3.tmps.getD 33 undef = (.slice (some ⟨bK, 0, none⟩) n cK) := by rw [qB3]; exact (getD_put_ne (by decide)).trans gB2_33
  have gB3_10 : B3.tmps.getD 10 undef = (.slice (some ⟨bK, 0, none⟩) n cK) := by rw [qB3]; exact (getD_put_ne (by decide)).trans gB2_10
  have gB3_34 : B3.tmps.getD 34 undef = (.int .i64 i) := by rw [qB3]; exact (getD_put_ne (by decide)).trans gB2_34
  have gB3_11 : B3.tmps.getD 11 undef = (.int .i64 i) := by rw [qB3]; exact (getD_put_ne (by decide)).trans gB2_11
  have gB3_9 : B3.tmps.getD 9 undef = (.int .i64 k) := by rw [qB3]; exact (getD_put_ne (by decide)).trans gB2_9
  have gB3_1 : B3.tmps.getD 1 undef = (.slice (some ⟨bR, oR, none⟩) right.length cR) := by rw [qB3]; exact (getD_put_ne (by decide)).trans gB2_1
  have gB3_40 : B3.tmps.getD 40 undef = vC := by rw [qB3]; exact (getD_put_ne (by decide)).trans gB2_40
  have gB3_42 : B3.tmps.getD 42 undef = (.int .i64 k) := by rw [qB3]; exact (getD_put_ne (by decide)).trans gB2_42
  have gB3_43 : B3.tmps.getD 43 undef = (.slice (some ⟨bR, oR, none⟩) right.length cR) := by rw [qB3]; exact getD_put_eq (by rw [zB2]; decide)
  change wpListIn (Fw none) 0 Tryz.prog _ _ _ (B2.put (some 43) (.slice (some ⟨bR, oR, none⟩) right.length cR)) w at hB3
  rw [← qB3] at hB3
  have hB4 := list_inv hB3 rfl rfl (mvR B3 w _ (.tmp 11) rfl gB3_11)
  obtain ⟨B4, qB4⟩ : ∃ x, x = B3.put (some 44) (.int .i64 i) := ⟨_, rfl⟩
  have zB4 : B4.tmps.size = 75 := by rw [qB4, size_put]; exact zB3
  have gB4_36 : B4.tmps.getD 36 undef = vC := by rw [qB4]; exact (getD_put_ne (by decide)).trans gB3_36
  have gB4_33 : B4.tmps.getD 33 undef = (.slice (some ⟨bK, 0, none⟩) n cK) := by rw [qB4]; exact (getD_put_ne (by decide)).trans gB3_33
  have gB4_10 : B4.tmps.getD 10 undef = (.slice (some ⟨bK, 0, none⟩) n cK) := by rw [qB4]; exact (getD_put_ne (by decide)).trans gB3_10
  have gB4_34 : B4.tmps.getD 34 undef = (.int .i64 i) := by rw [qB4]; exact (getD_put_ne (by decide)).trans gB3_34
  have gB4_11 : B4.tmps.getD 11 undef = (.int .i64 i) := by rw [qB4]; exact (getD_put_ne (by decide)).trans gB3_11
  have gB4_9 : B4.tmps.getD 9 undef = (.int .i64 k) := by rw [qB4]; exact (getD_put_ne (by decide)).trans gB3_9
  have gB4_1 : B4.tmps.getD 1 undef = (.slice (some ⟨bR, oR, none⟩) right.length cR) := by rw [qB4]; exact (getD_put_ne (by decide)).trans gB3_1
  have gB4_40 : B4.tmps.getD 40 undef = vC := by rw [qB4]; exact (getD_put_ne (by decide)).trans gB3_40
  have gB4_42 : B4.tmps.getD 42 undef = (.int .i64 k) := by rw [qB4]; exact (getD_put_ne (by decide)).trans gB3_42
  have gB4_43 : B4.tmps.getD 43 undef = (.slice (some ⟨bR, oR, none⟩) right.length cR) := by rw [qB4]; exact (getD_put_ne (by decide)).trans gB3_43
  have gB4_44 : B4.tmps.getD 44 undef = (.int .i64 i) := by rw [qB4]; exact getD_put_eq (by rw [zB3]; decide)
  change wpListIn (Fw none) 0 Tryz.prog _ _ _ (B3.put (some 44) (.int .i64 i)) w at hB4
  rw [← qB4] at hB4
  have hB5 := list_inv hB4 rfl rfl (ia76 B4 w _ (.tmp 43) (.tmp 44) rfl gB4_43 gB4_44 hr)
  obtain ⟨B5, qB5⟩ : ∃ x, x = B4.put (some 45) (.pointer (some ⟨bR, oR + i, none⟩)) := ⟨_, rfl⟩
  have zB5 : B5.tmps.size = 75 := by rw [qB5, size_put]; exact zB4
  have gB5_36 : B5.tmps.getD 36 undef = vC := by rw [qB5]; exact (getD_put_ne (by decide)).trans gB4_36
  have gB5_33 : B5.tmps.getD 33 undef = (.slice (some ⟨bK, 0, none⟩) n cK) := by rw [qB5]; exact (getD_put_ne (by decide)).trans gB4_33
  have gB5_10 : B5.tmps.getD 10 undef = (.slice (some ⟨bK, 0, none⟩) n cK) := by rw [qB5]; exact (getD_put_ne (by decide)).trans gB4_10
  have gB5_34 : B5.tmps.getD 34 undef = (.int .i64 i) := by rw [qB5]; exact (getD_put_ne (by decide)).trans gB4_34
  have gB5_11 : B5.tmps.getD 11 undef = (.int .i64 i) := by rw [qB5]; exact (getD_put_ne (by decide)).trans gB4_11
  have gB5_9 : B5.tmps.getD 9 undef = (.int .i64 k) := by rw [qB5]; exact (getD_put_ne (by decide)).trans gB4_9
  have gB5_1 : B5.tmps.getD 1 undef = (.slice (some ⟨bR, oR, none⟩) right.length cR) := by rw [qB5]; exact (getD_put_ne (by decide)).trans gB4_1
  have gB5_40 : B5.tmps.getD 40 undef = vC := by rw [qB5]; exact (getD_put_ne (by decide)).trans gB4_40
  have gB5_42 : B5.tmps.getD 42 undef = (.int .i64 k) := by rw [qB5]; exact (getD_put_ne (by decide)).trans gB4_42
  have gB5_43 : B5.tmps.getD 43 undef = (.slice (some ⟨bR, oR, none⟩) right.length cR) := by rw [qB5]; exact (getD_put_ne (by decide)).trans gB4_43
  have gB5_44 : B5.tmps.getD 44 undef = (.int .i64 i) := by rw [qB5]; exact (getD_put_ne (by decide)).trans gB4_44
  have gB5_45 : B5.tmps.getD 45 undef = (.pointer (some ⟨bR, oR + i, none⟩)) := by rw [qB5]; exact getD_put_eq (by rw [zB4]; decide)
  change wpListIn (Fw none) 0 Tryz.prog _ _ _ (B4.put (some 45) (.pointer (some ⟨bR, oR + i, none⟩))) w at hB5
  rw [← qB5] at hB5
  have hB6 := list_inv hB5 rfl rfl (ld3 B5 w _ (.tmp 45) rfl gB5_45 r.hR r.gR)
  obtain ⟨B6, qB6⟩ : ∃ x, x = B5.put (some 46) (.int .i64 (vI right i)) := ⟨_, rfl⟩
  have zB6 : B6.tmps.size = 75 := by rw [qB6, size_put]; exact zB5
  have gB6_36 : B6.tmps.getD 36 undef = vC := by rw [qB6]; exact (getD_put_ne (by decide)).trans gB5_36
  have gB6_33 : B6.tmps.getD 33 undef = (.slice (some ⟨bK, 0, none⟩) n cK) := by rw [qB6]; exact (getD_put_ne (by decide)).trans gB5_33
  have gB6_10 : B6.tmps.getD 10 undef = (.slice (some ⟨bK, 0, none⟩) n cK) := by rw [qB6]; exact (getD_put_ne (by decide)).trans gB5_10
  have gB6_34 : B6.tmps.getD 34 undef = (.int .i64 i) := by rw [qB6]; exact (getD_put_ne (by decide)).trans gB5_34
  have gB6_11 : B6.tmps.getD 11 undef = (.int .i64 i) := by rw [qB6]; exact (getD_put_ne (by decide)).trans gB5_11
  have gB6_9 : B6.tmps.getD 9 undef = (.int .i64 k) := by rw [qB6]; exact (getD_put_ne (by decide)).trans gB5_9
  have gB6_1 : B6.tmps.getD 1 undef = (.slice (some ⟨bR, oR, none⟩) right.length cR) := by rw [qB6]; exact (getD_put_ne (by decide)).trans gB5_1
  have gB6_40 : B6.tmps.getD 40 undef = vC := by rw [qB6]; exact (getD_put_ne (by decide)).trans gB5_40
  have gB6_42 : B6.tmps.getD 42 undef = (.int .i64 k) := by rw [qB6]; exact (getD_put_ne (by decide)).trans gB5_42
  have gB6_43 : B6.tmps.getD 43 undef = (.slice (some ⟨bR, oR, none⟩) right.length cR) := by rw [qB6]; exact (getD_put_ne (by decide)).trans gB5_43
  have gB6_44 : B6.tmps.getD 44 undef = (.int .i64 i) := by rw [qB6]; exact (getD_put_ne (by decide)).trans gB5_44
  have gB6_45 : B6.tmps.getD 45 undef = (.pointer (some ⟨bR, oR + i, none⟩)) := by rw [qB6]; exact (getD_put_ne (by decide)).trans gB5_45
  have gB6_46 : B6.tmps.getD 46 undef = (.int .i64 (vI right i)) := by rw [qB6]; exact getD_put_eq (by rw [zB5]; decide)
  change wpListIn (Fw none) 0 Tryz.prog _ _ _ (B5.put (some 46) (.int .i64 (vI right i))) w at hB6
  rw [← qB6] at hB6
  have hB7 := list_inv hB6 rfl rfl (ia76 B6 w _ (.tmp 40) (.tmp 42) rfl (gB6_40.trans hvC) gB6_42 hk)
  obtain ⟨B7, qB7⟩ : ∃ x, x = B6.put (some 47) (.pointer (some ⟨bC, 0 + k, none⟩)) := ⟨_, rfl⟩
  have zB7 : B7.tmps.size = 75 := by rw [qB7, size_put]; exact zB6
  have gB7_36 : B7.tmps.getD 36 undef = vC := by rw [qB7]; exact (getD_put_ne (by decide)).trans gB6_36
  have gB7_33 : B7.tmps.getD 33 undef = (.slice (some ⟨bK, 0, none⟩) n cK) := by rw [qB7]; exact (getD_put_ne (by decide)).trans gB6_33
  have gB7_10 : B7.tmps.getD 10 undef = (.slice (some ⟨bK, 0, none⟩) n cK) := by rw [qB7]; exact (getD_put_ne (by decide)).trans gB6_10
  have gB7_34 : B7.tmps.getD 34 undef = (.int .i64 i) := by rw [qB7]; exact (getD_put_ne (by decide)).trans gB6_34
  have gB7_11 : B7.tmps.getD 11 undef = (.int .i64 i) := by rw [qB7]; exact (getD_put_ne (by decide)).trans gB6_11
  have gB7_9 : B7.tmps.getD 9 undef = (.int .i64 k) := by rw [qB7]; exact (getD_put_ne (by decide)).trans gB6_9
  have gB7_1 : B7.tmps.getD 1 undef = (.slice (some ⟨bR, oR, none⟩) right.length cR) := by rw [qB7]; exact (getD_put_ne (by decide)).trans gB6_1
  have gB7_40 : B7.tmps.getD 40 undef = vC := by rw [qB7]; exact (getD_put_ne (by decide)).trans gB6_40
  have gB7_42 : B7.tmps.getD 42 undef = (.int .i64 k) := by rw [qB7]; exact (getD_put_ne (by decide)).trans gB6_42
  have gB7_43 : B7.tmps.getD 43 undef = (.slice (some ⟨bR, oR, none⟩) right.length cR) := by rw [qB7]; exact (getD_put_ne (by decide)).trans gB6_43
  have gB7_44 : B7.tmps.getD 44 undef = (.int .i64 i) := by rw [qB7]; exact (getD_put_ne (by decide)).trans gB6_44
  have gB7_45 : B7.tmps.getD 45 undef = (.pointer (some ⟨bR, oR + i, none⟩)) := by rw [qB7]; exact (getD_put_ne (by decide)).trans gB6_45
  have gB7_46 : B7.tmps.getD 46 undef = (.int .i64 (vI right i)) := by rw [qB7]; exact (getD_put_ne (by decide)).trans gB6_46
  have gB7_47 : B7.tmps.getD 47 undef = (.pointer (some ⟨bC, 0 + k, none⟩)) := by rw [qB7]; exact getD_put_eq (by rw [zB6]; decide)
  change wpListIn (Fw none) 0 Tryz.prog _ _ _ (B6.put (some 47) (.pointer (some ⟨bC, 0 + k, none⟩))) w at hB7
  rw [← qB7] at hB7
  obtain ⟨wB8, hwB8⟩ : ∃ x, x = w.setRow bC (curC.set! (0 + k) (.int .i64 (vI right i))) := ⟨_, rfl⟩
  have kwB8o := (setRow_other w bC bK (curC.set! (0 + k) (.int .i64 (vI right i))) r.ne).trans r.hK
  have kwB8R := (setRow_other w bC bR (curC.set! (0 + k) (.int .i64 (vI right i))) r.neC).trans r.hR
  have kwB8s := setRow_heap w bC curC (curC.set! (0 + k) (.int .i64 (vI right i))) _ _ r.hC
  rw [← hwB8] at kwB8s kwB8o kwB8R
  have hB8 := list_inv_skip hB7 rfl rfl (st3 B7 w _ (.tmp 47) (.tmp 46) rfl gB7_47 gB7_46 r.hC (by have := r.sC; omega))
  change wpListIn (Fw none) 0 Tryz.prog _ _ _ B7 (w.setRow bC (curC.set! (0 + k) (.int .i64 (vI right i)))) at hB8
  rw [← hwB8] at hB8
  have hB9 := list_inv hB8 rfl rfl (ia66 B7 wB8 _ (.tmp 33) (.tmp 34) rfl gB7_33 gB7_34 hi)
  obtain ⟨B9, qB9⟩ : ∃ x, x = B7.put (some 37) (.pointer (some ⟨bK, 0 + i, none⟩)) := ⟨_, rfl⟩
  have zB9 : B9.tmps.size = 75 := by rw [qB9, size_put]; exact zB7
  have gB9_36 : B9.tmps.getD 36 undef = vC := by rw [qB9]; exact (getD_put_ne (by decide)).trans gB7_36
  have gB9_33 : B9.tmps.getD 33 undef = (.slice (some ⟨bK, 0, none⟩) n cK) := by rw [qB9]; exact (getD_put_ne (by decide)).trans gB7_33
  have gB9_10 : B9.tmps.getD 10 undef = (.slice (some ⟨bK, 0, none⟩) n cK) := by rw [qB9]; exact (getD_put_ne (by decide)).trans gB7_10
  have gB9_34 : B9.tmps.getD 34 undef = (.int .i64 i) := by rw [qB9]; exact (getD_put_ne (by decide)).trans gB7_34
  have gB9_11 : B9.tmps.getD 11 undef = (.int .i64 i) := by rw [qB9]; exact (getD_put_ne (by decide)).trans gB7_11
  have gB9_9 : B9.tmps.getD 9 undef = (.int .i64 k) := by rw [qB9]; exact (getD_put_ne (by decide)).trans gB7_9
  have gB9_1 : B9.tmps.getD 1 undef = (.slice (some ⟨bR, oR, none⟩) right.length cR) := by rw [qB9]; exact (getD_put_ne (by decide)).trans gB7_1
  have gB9_40 : B9.tmps.getD 40 undef = vC := by rw [qB9]; exact (getD_put_ne (by decide)).trans gB7_40
  have gB9_42 : B9.tmps.getD 42 undef = (.int .i64 k) := by rw [qB9]; exact (getD_put_ne (by decide)).trans gB7_42
  have gB9_43 : B9.tmps.getD 43 undef = (.slice (some ⟨bR, oR, none⟩) right.length cR) := by rw [qB9]; exact (getD_put_ne (by decide)).trans gB7_43
  have gB9_44 : B9.tmps.getD 44 undef = (.int .i64 i) := by rw [qB9]; exact (getD_put_ne (by decide)).trans gB7_44
  have gB9_45 : B9.tmps.getD 45 undef = (.pointer (some ⟨bR, oR + i, none⟩)) := by rw [qB9]; exact (getD_put_ne (by decide)).trans gB7_45
  have gB9_46 : B9.tmps.getD 46 undef = (.int .i64 (vI right i)) := by rw [qB9]; exact (getD_put_ne (by decide)).trans gB7_46
  have gB9_47 : B9.tmps.getD 47 undef = (.pointer (some ⟨bC, 0 + k, none⟩)) := by rw [qB9]; exact (getD_put_ne (by decide)).trans gB7_47
  have gB9_37 : B9.tmps.getD 37 undef = (.pointer (some ⟨bK, 0 + i, none⟩)) := by rw [qB9]; exact getD_put_eq (by rw [zB7]; decide)
  change wpListIn (Fw none) 0 Tryz.prog _ _ _ (B7.put (some 37) (.pointer (some ⟨bK, 0 + i, none⟩))) wB8 at hB9
  rw [← qB9] at hB9
  obtain ⟨wB10, hwB10⟩ : ∃ x, x = wB8.setRow bK (curK.set! (0 + i) vC) := ⟨_, rfl⟩
  have kwB10o := (setRow_other wB8 bK bC (curK.set! (0 + i) vC) (fun h => r.ne h.symm)).trans kwB8s
  have kwB10R := (setRow_other wB8 bK bR (curK.set! (0 + i) vC) r.neK).trans kwB8R
  have kwB10s := setRow_heap wB8 bK curK (curK.set! (0 + i) vC) _ _ kwB8o
  rw [← hwB10] at kwB10s kwB10o kwB10R
  have hB10 := list_inv_skip hB9 rfl rfl (st76 B9 wB8 _ (.tmp 37) (.tmp 36) rfl gB9_37 (gB9_36.trans hvC) kwB8o (by have := r.sK; omega))
  rw [← hvC] at hB10
  change wpListIn (Fw none) 0 Tryz.prog _ _ _ B9 (wB8.setRow bK (curK.set! (0 + i) vC)) at hB10
  rw [← hwB10] at hB10
  -- the way of the code
  refine list_step rfl (op_val (by intro d h; cases h) (ia66 a w _ (.tmp 33) (.tmp 34) rfl r.t33 s34 hi) ?_)
  obtain ⟨A1, qA1⟩ : ∃ x, x = a.put (some 37) (.pointer (some ⟨bK, 0 + i, none⟩)) := ⟨_, rfl⟩
  have zA1 : A1.tmps.size = 75 := by rw [qA1, size_put]; exact za
  have gA1_36 : A1.tmps.getD 36 undef = vC := by rw [qA1]; exact (getD_put_ne (by decide)).trans e36
  have gA1_33 : A1.tmps.getD 33 undef = (.slice (some ⟨bK, 0, none⟩) n cK) := by rw [qA1]; exact (getD_put_ne (by decide)).trans r.t33
  have gA1_10 : A1.tmps.getD 10 undef = (.slice (some ⟨bK, 0, none⟩) n cK) := by rw [qA1]; exact (getD_put_ne (by decide)).trans r.t10
  have gA1_34 : A1.tmps.getD 34 undef = (.int .i64 i) := by rw [qA1]; exact (getD_put_ne (by decide)).trans s34
  have gA1_11 : A1.tmps.getD 11 undef = (.int .i64 i) := by rw [qA1]; exact (getD_put_ne (by decide)).trans s11
  have gA1_9 : A1.tmps.getD 9 undef = (.int .i64 k) := by rw [qA1]; exact (getD_put_ne (by decide)).trans s9
  have gA1_1 : A1.tmps.getD 1 undef = (.slice (some ⟨bR, oR, none⟩) right.length cR) := by rw [qA1]; exact (getD_put_ne (by decide)).trans r.t1
  have gA1_37 : A1.tmps.getD 37 undef = (.pointer (some ⟨bK, 0 + i, none⟩)) := by rw [qA1]; exact getD_put_eq (by rw [za]; decide)
  change wpListIn (Fw none) 0 Tryz.prog _ _ _ (a.put (some 37) (.pointer (some ⟨bK, 0 + i, none⟩))) w
  rw [← qA1]
  obtain ⟨wA2, hwA2⟩ : ∃ x, x = w.setRow bK (curK.set! (0 + i) vC) := ⟨_, rfl⟩
  have kwA2o := (setRow_other w bK bC (curK.set! (0 + i) vC) (fun h => r.ne h.symm)).trans r.hC
  have kwA2R := (setRow_other w bK bR (curK.set! (0 + i) vC) r.neK).trans r.hR
  have kwA2s := setRow_heap w bK curK (curK.set! (0 + i) vC) _ _ r.hK
  rw [← hwA2] at kwA2s kwA2o kwA2R
  refine list_step rfl (op_skip (by intro d h; cases h) (st76 A1 w _ (.tmp 37) (.tmp 36) rfl gA1_37 (gA1_36.trans hvC) r.hK (by have := r.sK; omega)) ?_)
  rw [← hvC]
  change wpListIn (Fw none) 0 Tryz.prog _ _ _ A1 (w.setRow bK (curK.set! (0 + i) vC))
  rw [← hwA2]
  refine list_nil ?_
  show r13.wpIn (Fw none) 0 Tryz.prog Q A1 wA2
  rw [r13_eq, fw_none]
  refine wpIn_wide.2 (wp_region_still_tail 10 mixed (by kernel_rfl) ?_)
  obtain ⟨wd, hwd⟩ : ∃ x, x = ({ wA2 with drawn := wA2.drawn + 1 } : World) := ⟨_, rfl⟩
  rw [← hwd]
  have dbK := (show wd.heap[bK]? = wA2.heap[bK]? by rw [hwd]).trans kwA2s
  have dbC := (show wd.heap[bC]? = wA2.heap[bC]? by rw [hwd]).trans kwA2o
  have dbR := (show wd.heap[bR]? = wA2.heap[bR]? by rw [hwd]).trans kwA2R
  have gV : (curK.set! (0 + i) vC)[0 + i]? = some vC := by rw [Array.set!_eq_setIfInBounds, Array.getElem?_setIfInBounds_self_of_lt (by have := r.sK; omega)]
  refine still1 rfl (mvR A1 wd _ (.tmp 10) rfl gA1_10) ?_
  obtain ⟨D1, qD1⟩ : ∃ x, x = A1.put (some 38) (.slice (some ⟨bK, 0, none⟩) n cK) := ⟨_, rfl⟩
  have zD1 : D1.tmps.size = 75 := by rw [qD1, size_put]; exact zA1
  have gD1_36 : D1.tmps.getD 36 undef = vC := by rw [qD1]; exact (getD_put_ne (by decide)).trans gA1_36
  have gD1_33 : D1.tmps.getD 33 undef = (.slice (some ⟨bK, 0, none⟩) n cK) := by rw [qD1]; exact (getD_put_ne (by decide)).trans gA1_33
  have gD1_10 : D1.tmps.getD 10 undef = (.slice (some ⟨bK, 0, none⟩) n cK) := by rw [qD1]; exact (getD_put_ne (by decide)).trans gA1_10
  have gD1_34 : D1.tmps.getD 34 undef = (.int .i64 i) := by rw [qD1]; exact (getD_put_ne (by decide)).trans gA1_34
  have gD1_11 : D1.tmps.getD 11 undef = (.int .i64 i) := by rw [qD1]; exact (getD_put_ne (by decide)).trans gA1_11
  have gD1_9 : D1.tmps.getD 9 undef = (.int .i64 k) := by rw [qD1]; exact (getD_put_ne (by decide)).trans gA1_9
  have gD1_1 : D1.tmps.getD 1 undef = (.slice (some ⟨bR, oR, none⟩) right.length cR) := by rw [qD1]; exact (getD_put_ne (by decide)).trans gA1_1
  have gD1_37 : D1.tmps.getD 37 undef = (.pointer (some ⟨bK, 0 + i, none⟩)) := by rw [qD1]; exact (getD_put_ne (by decide)).trans gA1_37
  have gD1_38 : D1.tmps.getD 38 undef = (.slice (some ⟨bK, 0, none⟩) n cK) := by rw [qD1]; exact getD_put_eq (by rw [zA1]; decide)
  change wpStill Tryz.prog _ _ _ _ (A1.put (some 38) (.slice (some ⟨bK, 0, none⟩) n cK))
  rw [← qD1]
  refine still1 rfl (mvR D1 wd _ (.tmp 11) rfl gD1_11) ?_
  obtain ⟨D2, qD2⟩ : ∃ x, x = D1.put (some 39) (.int .i64 i) := ⟨_, rfl⟩
  have zD2 : D2.tmps.size = 75 := by rw [qD2, size_put]; exact zD1
  have gD2_36 : D2.tmps.getD 36 undef = vC := by rw [qD2]; exact (getD_put_ne (by decide)).trans gD1_36
  have gD2_33 : D2.tmps.getD 33 undef = (.slice (some ⟨bK, 0, none⟩) n cK) := by rw [qD2]; exact (getD_put_ne (by decide)).trans gD1_33
  have gD2_10 : D2.tmps.getD 10 undef = (.slice (some ⟨bK, 0, none⟩) n cK) := by rw [qD2]; exact (getD_put_ne (by decide)).trans gD1_10
  have gD2_34 : D2.tmps.getD 34 undef = (.int .i64 i) := by rw [qD2]; exact (getD_put_ne (by decide)).trans gD1_34
  have gD2_11 : D2.tmps.getD 11 undef = (.int .i64 i) := by rw [qD2]; exact (getD_put_ne (by decide)).trans gD1_11
  have gD2_9 : D2.tmps.getD 9 undef = (.int .i64 k) := by rw [qD2]; exact (getD_put_ne (by decide)).trans gD1_9
  have gD2_1 : D2.tmps.getD 1 undef = (.slice (some ⟨bR, oR, none⟩) right.length cR) := by rw [qD2]; exact (getD_put_ne (by decide)).trans gD1_1
  have gD2_37 : D2.tmps.getD 37 undef = (.pointer (some ⟨bK, 0 + i, none⟩)) := by rw [qD2]; exact (getD_put_ne (by decide)).trans gD1_37
  have gD2_38 : D2.tmps.getD 38 undef = (.slice (some ⟨bK, 0, none⟩) n cK) := by rw [qD2]; exact (getD_put_ne (by decide)).trans gD1_38
  have gD2_39 : D2.tmps.getD 39 undef = (.int .i64 i) := by rw [qD2]; exact getD_put_eq (by rw [zD1]; decide)
  change wpStill Tryz.prog _ _ _ _ (D1.put (some 39) (.int .i64 i))
  rw [← qD2]
  refine still1 rfl (ia66 D2 wd _ (.tmp 38) (.tmp 39) rfl gD2_38 gD2_39 hi) ?_
  obtain ⟨D3, qD3⟩ : ∃ x, x = D2.put (some 40) (.pointer (some ⟨bK, 0 + i, none⟩)) := ⟨_, rfl⟩
  have zD3 : D3.tmps.size = 75 := by rw [qD3, size_put]; exact zD2
  have gD3_36 : D3.tmps.getD 36 undef = vC := by rw [qD3]; exact (getD_put_ne (by decide)).trans gD2_36
  have gD3_33 : D3.tmps.getD 33 undef = (.slice (some ⟨bK, 0, none⟩) n cK) := by rw [qD3]; exact (getD_put_ne (by decide)).trans gD2_33
  have gD3_10 : D3.tmps.getD 10 undef = (.slice (some ⟨bK, 0, none⟩) n cK) := by rw [qD3]; exact (getD_put_ne (by decide)).trans gD2_10
  have gD3_34 : D3.tmps.getD 34 undef = (.int .i64 i) := by rw [qD3]; exact (getD_put_ne (by decide)).trans gD2_34
  have gD3_11 : D3.tmps.getD 11 undef = (.int .i64 i) := by rw [qD3]; exact (getD_put_ne (by decide)).trans gD2_11
  have gD3_9 : D3.tmps.getD 9 undef = (.int .i64 k) := by rw [qD3]; exact (getD_put_ne (by decide)).trans gD2_9
  have gD3_1 : D3.tmps.getD 1 undef = (.slice (some ⟨bR, oR, none⟩) right.length cR) := by rw [qD3]; exact (getD_put_ne (by decide)).trans gD2_1
  have gD3_37 : D3.tmps.getD 37 undef = (.pointer (some ⟨bK, 0 + i, none⟩)) := by rw [qD3]; exact (getD_put_ne (by decide)).trans gD2_37
  have gD3_38 : D3.tmps.getD 38 undef = (.slice (some ⟨bK, 0, none⟩) n cK) := by rw [qD3]; exact (getD_put_ne (by decide)).trans gD2_38
  have gD3_39 : D3.tmps.getD 39 undef = (.int .i64 i) := by rw [qD3]; exact (getD_put_ne (by decide)).trans gD2_39
  have gD3_40 : D3.tmps.getD 40 undef = (.pointer (some ⟨bK, 0 + i, none⟩)) := by rw [qD3]; exact getD_put_eq (by rw [zD2]; decide)
  change wpStill Tryz.prog _ _ _ _ (D2.put (some 40) (.pointer (some ⟨bK, 0 + i, none⟩)))
  rw [← qD3]
  refine still1 rfl (ld76 D3 wd _ (.tmp 40) rfl gD3_40 dbK gV) ?_
  obtain ⟨D4, qD4⟩ : ∃ x, x = D3.put (some 41) vC := ⟨_, rfl⟩
  have zD4 : D4.tmps.size = 75 := by rw [qD4, size_put]; exact zD3
  have gD4_36 : D4.tmps.getD 36 undef = vC := by rw [qD4]; exact (getD_put_ne (by decide)).trans gD3_36
  have gD4_33 : D4.tmps.getD 33 undef = (.slice (some ⟨bK, 0, none⟩) n cK) := by rw [qD4]; exact (getD_put_ne (by decide)).trans gD3_33
  have gD4_10 : D4.tmps.getD 10 undef = (.slice (some ⟨bK, 0, none⟩) n cK) := by rw [qD4]; exact (getD_put_ne (by decide)).trans gD3_10
  have gD4_34 : D4.tmps.getD 34 undef = (.int .i64 i) := by rw [qD4]; exact (getD_put_ne (by decide)).trans gD3_34
  have gD4_11 : D4.tmps.getD 11 undef = (.int .i64 i) := by rw [qD4]; exact (getD_put_ne (by decide)).trans gD3_11
  have gD4_9 : D4.tmps.getD 9 undef = (.int .i64 k) := by rw [qD4]; exact (getD_put_ne (by decide)).trans gD3_9
  have gD4_1 : D4.tmps.getD 1 undef = (.slice (some ⟨bR, oR, none⟩) right.length cR) := by rw [qD4]; exact (getD_put_ne (by decide)).trans gD3_1
  have gD4_37 : D4.tmps.getD 37 undef = (.pointer (some ⟨bK, 0 + i, none⟩)) := by rw [qD4]; exact (getD_put_ne (by decide)).trans gD3_37
  have gD4_38 : D4.tmps.getD 38 undef = (.slice (some ⟨bK, 0, none⟩) n cK) := by rw [qD4]; exact (getD_put_ne (by decide)).trans gD3_38
  have gD4_39 : D4.tmps.getD 39 undef = (.int .i64 i) := by rw [qD4]; exact (getD_put_ne (by decide)).trans gD3_39
  have gD4_40 : D4.tmps.getD 40 undef = (.pointer (some ⟨bK, 0 + i, none⟩)) := by rw [qD4]; exact (getD_put_ne (by decide)).trans gD3_40
  have gD4_41 : D4.tmps.getD 41 undef = vC := by rw [qD4]; exact getD_put_eq (by rw [zD3]; decide)
  change wpStill Tryz.prog _ _ _ _ (D3.put (some 41) vC)
  rw [← qD4]
  refine still1 rfl (mvR D4 wd _ (.tmp 9) rfl gD4_9) ?_
  obtain ⟨D5, qD5⟩ : ∃ x, x = D4.put (some 42) (.int .i64 k) := ⟨_, rfl⟩
  have zD5 : D5.tmps.size = 75 := by rw [qD5, size_put]; exact zD4
  have gD5_36 : D5.tmps.getD 36 undef = vC := by rw [qD5]; exact (getD_put_ne (by decide)).trans gD4_36
  have gD5_33 : D5.tmps.getD 33 undef = (.slice (some ⟨bK, 0, none⟩) n cK) := by rw [qD5]; exact (getD_put_ne (by decide)).trans gD4_33
  have gD5_10 : D5.tmps.getD 10 undef = (.slice (some ⟨bK, 0, none⟩) n cK) := by rw [qD5]; exact (getD_put_ne (by decide)).trans gD4_10
  have gD5_34 : D5.tmps.getD 34 undef = (.int .i64 i) := by rw [qD5]; exact (getD_put_ne (by decide)).trans gD4_34
  have gD5_11 : D5.tmps.getD 11 undef = (.int .i64 i) := by rw [qD5]; exact (getD_put_ne (by decide)).trans gD4_11
  have gD5_9 : D5.tmps.getD 9 undef = (.int .i64 k) := by rw [qD5]; exact (getD_put_ne (by decide)).trans gD4_9
  have gD5_1 : D5.tmps.getD 1 undef = (.slice (some ⟨bR, oR, none⟩) right.length cR) := by rw [qD5]; exact (getD_put_ne (by decide)).trans gD4_1
  have gD5_37 : D5.tmps.getD 37 undef = (.pointer (some ⟨bK, 0 + i, none⟩)) := by rw [qD5]; exact (getD_put_ne (by decide)).trans gD4_37
  have gD5_38 : D5.tmps.getD 38 undef = (.slice (some ⟨bK, 0, none⟩) n cK) := by rw [qD5]; exact (getD_put_ne (by decide)).trans gD4_38
  have gD5_39 : D5.tmps.getD 39 undef = (.int .i64 i) := by rw [qD5]; exact (getD_put_ne (by decide)).trans gD4_39
  have gD5_40 : D5.tmps.getD 40 undef = (.pointer (some ⟨bK, 0 + i, none⟩)) := by rw [qD5]; exact (getD_put_ne (by decide)).trans gD4_40
  have gD5_41 : D5.tmps.getD 41 undef = vC := by rw [qD5]; exact (getD_put_ne (by decide)).trans gD4_41
  have gD5_42 : D5.tmps.getD 42 undef = (.int .i64 k) := by rw [qD5]; exact getD_put_eq (by rw [zD4]; decide)
  change wpStill Tryz.prog _ _ _ _ (D4.put (some 42) (.int .i64 k))
  rw [← qD5]
  refine still1 rfl (mvR D5 wd _ (.tmp 1) rfl gD5_1) ?_
  obtain ⟨D6, qD6⟩ : ∃ x, x = D5.put (some 43) (.slice (some ⟨bR, oR, none⟩) right.length cR) := ⟨_, rfl⟩
  have zD6 : D6.tmps.size = 75 := by rw [qD6, size_put]; exact zD5
  have gD6_36 : D6.tmps.getD 36 undef = vC := by rw [qD6]; exact (getD_put_ne (by decide)).trans gD5_36
  have gD6_33 : D6.tmps.getD 33 undef = (.slice (some ⟨bK, 0, none⟩) n cK) := by rw [qD6]; exact (getD_put_ne (by decide)).trans gD5_33
  have gD6_10 : D6.tmps.getD 10 undef = (.slice (some ⟨bK, 0, none⟩) n cK) := by rw [qD6]; exact (getD_put_ne (by decide)).trans gD5_10
  have gD6_34 : D6.tmps.getD 34 undef = (.int .i64 i) := by rw [qD6]; exact (getD_put_ne (by decide)).trans gD5_34
  have gD6_11 : D6.tmps.getD 11 undef = (.int .i64 i) := by rw [qD6]; exact (getD_put_ne (by decide)).trans gD5_11
  have gD6_9 : D6.tmps.getD 9 undef = (.int .i64 k) := by rw [qD6]; exact (getD_put_ne (by decide)).trans gD5_9
  have gD6_1 : D6.tmps.getD 1 undef = (.slice (some ⟨bR, oR, none⟩) right.length cR) := by rw [qD6]; exact (getD_put_ne (by decide)).trans gD5_1
  have gD6_37 : D6.tmps.getD 37 undef = (.pointer (some ⟨bK, 0 + i, none⟩)) := by rw [qD6]; exact (getD_put_ne (by decide)).trans gD5_37
  have gD6_38 : D6.tmps.getD 38 undef = (.slice (some ⟨bK, 0, none⟩) n cK) := by rw [qD6]; exact (getD_put_ne (by decide)).trans gD5_38
  have gD6_39 : D6.tmps.getD 39 undef = (.int .i64 i) := by rw [qD6]; exact (getD_put_ne (by decide)).trans gD5_39
  have gD6_40 : D6.tmps.getD 40 undef = (.pointer (some ⟨bK, 0 + i, none⟩)) := by rw [qD6]; exact (getD_put_ne (by decide)).trans gD5_40
  have gD6_41 : D6.tmps.getD 41 undef = vC := by rw [qD6]; exact (getD_put_ne (by decide)).trans gD5_41
  have gD6_42 : D6.tmps.getD 42 undef = (.int .i64 k) := by rw [qD6]; exact (getD_put_ne (by decide)).trans gD5_42
  have gD6_43 : D6.tmps.getD 43 undef = (.slice (some ⟨bR, oR, none⟩) right.length cR) := by rw [qD6]; exact getD_put_eq (by rw [zD5]; decide)
  change wpStill Tryz.prog _ _ _ _ (D5.put (some 43) (.slice (some ⟨bR, oR, none⟩) right.length cR))
  rw [← qD6]
  refine still1 rfl (mvR D6 wd _ (.tmp 11) rfl gD6_11) ?_
  obtain ⟨D7, qD7⟩ : ∃ x, x = D6.put (some 44) (.int .i64 i) := ⟨_, rfl⟩
  have zD7 : D7.tmps.size = 75 := by rw [qD7, size_put]; exact zD6
  have gD7_36 : D7.tmps.getD 36 undef = vC := by rw [qD7]; exact (getD_put_ne (by decide)).trans gD6_36
  have gD7_33 : D7.tmps.getD 33 undef = (.slice (some ⟨bK, 0, none⟩) n cK) := by rw [qD7]; exact (getD_put_ne (by decide)).trans gD6_33
  have gD7_10 : D7.tmps.getD 10 undef = (.slice (some ⟨bK, 0, none⟩) n cK) := by rw [qD7]; exact (getD_put_ne (by decide)).trans gD6_10
  have gD7_34 : D7.tmps.getD 34 undef = (.int .i64 i) := by rw [qD7]; exact (getD_put_ne (by decide)).trans gD6_34
  have gD7_11 : D7.tmps.getD 11 undef = (.int .i64 i) := by rw [qD7]; exact (getD_put_ne (by decide)).trans gD6_11
  have gD7_9 : D7.tmps.getD 9 undef = (.int .i64 k) := by rw [qD7]; exact (getD_put_ne (by decide)).trans gD6_9
  have gD7_1 : D7.tmps.getD 1 undef = (.slice (some ⟨bR, oR, none⟩) right.length cR) := by rw [qD7]; exact (getD_put_ne (by decide)).trans gD6_1
  have gD7_37 : D7.tmps.getD 37 undef = (.pointer (some ⟨bK, 0 + i, none⟩)) := by rw [qD7]; exact (getD_put_ne (by decide)).trans gD6_37
  have gD7_38 : D7.tmps.getD 38 undef = (.slice (some ⟨bK, 0, none⟩) n cK) := by rw [qD7]; exact (getD_put_ne (by decide)).trans gD6_38
  have gD7_39 : D7.tmps.getD 39 undef = (.int .i64 i) := by rw [qD7]; exact (getD_put_ne (by decide)).trans gD6_39
  have gD7_40 : D7.tmps.getD 40 undef = (.pointer (some ⟨bK, 0 + i, none⟩)) := by rw [qD7]; exact (getD_put_ne (by decide)).trans gD6_40
  have gD7_41 : D7.tmps.getD 41 undef = vC := by rw [qD7]; exact (getD_put_ne (by decide)).trans gD6_41
  have gD7_42 : D7.tmps.getD 42 undef = (.int .i64 k) := by rw [qD7]; exact (getD_put_ne (by decide)).trans gD6_42
  have gD7_43 : D7.tmps.getD 43 undef = (.slice (some ⟨bR, oR, none⟩) right.length cR) := by rw [qD7]; exact (getD_put_ne (by decide)).trans gD6_43
  have gD7_44 : D7.tmps.getD 44 undef = (.int .i64 i) := by rw [qD7]; exact getD_put_eq (by rw [zD6]; decide)
  change wpStill Tryz.prog _ _ _ _ (D6.put (some 44) (.int .i64 i))
  rw [← qD7]
  refine still1 rfl (ia76 D7 wd _ (.tmp 43) (.tmp 44) rfl gD7_43 gD7_44 hr) ?_
  obtain ⟨D8, qD8⟩ : ∃ x, x = D7.put (some 45) (.pointer (some ⟨bR, oR + i, none⟩)) := ⟨_, rfl⟩
  have zD8 : D8.tmps.size = 75 := by rw [qD8, size_put]; exact zD7
  have gD8_36 : D8.tmps.getD 36 undef = vC := by rw [qD8]; exact (getD_put_ne (by decide)).trans gD7_36
  have gD8_33 : D8.tmps.getD 33 undef = (.slice (some ⟨bK, 0, none⟩) n cK) := by rw [qD8]; exact (getD_put_ne (by decide)).trans gD7_33
  have gD8_10 : D8.tmps.getD 10 undef = (.slice (some ⟨bK, 0, none⟩) n cK) := by rw [qD8]; exact (getD_put_ne (by decide)).trans gD7_10
  have gD8_34 : D8.tmps.getD 34 undef = (.int .i64 i) := by rw [qD8]; exact (getD_put_ne (by decide)).trans gD7_34
  have gD8_11 : D8.tmps.getD 11 undef = (.int .i64 i) := by rw [qD8]; exact (getD_put_ne (by decide)).trans gD7_11
  have gD8_9 : D8.tmps.getD 9 undef = (.int .i64 k) := by rw [qD8]; exact (getD_put_ne (by decide)).trans gD7_9
  have gD8_1 : D8.tmps.getD 1 undef = (.slice (some ⟨bR, oR, none⟩) right.length cR) := by rw [qD8]; exact (getD_put_ne (by decide)).trans gD7_1
  have gD8_37 : D8.tmps.getD 37 undef = (.pointer (some ⟨bK, 0 + i, none⟩)) := by rw [qD8]; exact (getD_put_ne (by decide)).trans gD7_37
  have gD8_38 : D8.tmps.getD 38 undef = (.slice (some ⟨bK, 0, none⟩) n cK) := by rw [qD8]; exact (getD_put_ne (by decide)).trans gD7_38
  have gD8_39 : D8.tmps.getD 39 undef = (.int .i64 i) := by rw [qD8]; exact (getD_put_ne (by decide)).trans gD7_39
  have gD8_40 : D8.tmps.getD 40 undef = (.pointer (some ⟨bK, 0 + i, none⟩)) := by rw [qD8]; exact (getD_put_ne (by decide)).trans gD7_40
  have gD8_41 : D8.tmps.getD 41 undef = vC := by rw [qD8]; exact (getD_put_ne (by decide)).trans gD7_41
  have gD8_42 : D8.tmps.getD 42 undef = (.int .i64 k) := by rw [qD8]; exact (getD_put_ne (by decide)).trans gD7_42
  have gD8_43 : D8.tmps.getD 43 undef = (.slice (some ⟨bR, oR, none⟩) right.length cR) := by rw [qD8]; exact (getD_put_ne (by decide)).trans gD7_43
  have gD8_44 : D8.tmps.getD 44 undef = (.int .i64 i) := by rw [qD8]; exact (getD_put_ne (by decide)).trans gD7_44
  have gD8_45 : D8.tmps.getD 45 undef = (.pointer (some ⟨bR, oR + i, none⟩)) := by rw [qD8]; exact getD_put_eq (by rw [zD7]; decide)
  change wpStill Tryz.prog _ _ _ _ (D7.put (some 45) (.pointer (some ⟨bR, oR + i, none⟩)))
  rw [← qD8]
  refine still1 rfl (ld3 D8 wd _ (.tmp 45) rfl gD8_45 dbR r.gR) ?_
  obtain ⟨D9, qD9⟩ : ∃ x, x = D8.put (some 46) (.int .i64 (vI right i)) := ⟨_, rfl⟩
  have zD9 : D9.tmps.size = 75 := by rw [qD9, size_put]; exact zD8
  have gD9_36 : D9.tmps.getD 36 undef = vC := by rw [qD9]; exact (getD_put_ne (by decide)).trans gD8_36
  have gD9_33 : D9.tmps.getD 33 undef = (.slice (some ⟨bK, 0, none⟩) n cK) := by rw [qD9]; exact (getD_put_ne (by decide)).trans gD8_33
  have gD9_10 : D9.tmps.getD 10 undef = (.slice (some ⟨bK, 0, none⟩) n cK) := by rw [qD9]; exact (getD_put_ne (by decide)).trans gD8_10
  have gD9_34 : D9.tmps.getD 34 undef = (.int .i64 i) := by rw [qD9]; exact (getD_put_ne (by decide)).trans gD8_34
  have gD9_11 : D9.tmps.getD 11 undef = (.int .i64 i) := by rw [qD9]; exact (getD_put_ne (by decide)).trans gD8_11
  have gD9_9 : D9.tmps.getD 9 undef = (.int .i64 k) := by rw [qD9]; exact (getD_put_ne (by decide)).trans gD8_9
  have gD9_1 : D9.tmps.getD 1 undef = (.slice (some ⟨bR, oR, none⟩) right.length cR) := by rw [qD9]; exact (getD_put_ne (by decide)).trans gD8_1
  have gD9_37 : D9.tmps.getD 37 undef = (.pointer (some ⟨bK, 0 + i, none⟩)) := by rw [qD9]; exact (getD_put_ne (by decide)).trans gD8_37
  have gD9_38 : D9.tmps.getD 38 undef = (.slice (some ⟨bK, 0, none⟩) n cK) := by rw [qD9]; exact (getD_put_ne (by decide)).trans gD8_38
  have gD9_39 : D9.tmps.getD 39 undef = (.int .i64 i) := by rw [qD9]; exact (getD_put_ne (by decide)).trans gD8_39
  have gD9_40 : D9.tmps.getD 40 undef = (.pointer (some ⟨bK, 0 + i, none⟩)) := by rw [qD9]; exact (getD_put_ne (by decide)).trans gD8_40
  have gD9_41 : D9.tmps.getD 41 undef = vC := by rw [qD9]; exact (getD_put_ne (by decide)).trans gD8_41
  have gD9_42 : D9.tmps.getD 42 undef = (.int .i64 k) := by rw [qD9]; exact (getD_put_ne (by decide)).trans gD8_42
  have gD9_43 : D9.tmps.getD 43 undef = (.slice (some ⟨bR, oR, none⟩) right.length cR) := by rw [qD9]; exact (getD_put_ne (by decide)).trans gD8_43
  have gD9_44 : D9.tmps.getD 44 undef = (.int .i64 i) := by rw [qD9]; exact (getD_put_ne (by decide)).trans gD8_44
  have gD9_45 : D9.tmps.getD 45 undef = (.pointer (some ⟨bR, oR + i, none⟩)) := by rw [qD9]; exact (getD_put_ne (by decide)).trans gD8_45
  have gD9_46 : D9.tmps.getD 46 undef = (.int .i64 (vI right i)) := by rw [qD9]; exact getD_put_eq (by rw [zD8]; decide)
  change wpStill Tryz.prog _ _ _ _ (D8.put (some 46) (.int .i64 (vI right i)))
  rw [← qD9]
  refine still1 rfl (ia76 D9 wd _ (.tmp 41) (.tmp 42) rfl (gD9_41.trans hvC) gD9_42 hk) ?_
  obtain ⟨D10, qD10⟩ : ∃ x, x = D9.put (some 47) (.pointer (some ⟨bC, 0 + k, none⟩)) := ⟨_, rfl⟩
  have zD10 : D10.tmps.size = 75 := by rw [qD10, size_put]; exact zD9
  have gD10_36 : D10.tmps.getD 36 undef = vC := by rw [qD10]; exact (getD_put_ne (by decide)).trans gD9_36
  have gD10_33 : D10.tmps.getD 33 undef = (.slice (some ⟨bK, 0, none⟩) n cK) := by rw [qD10]; exact (getD_put_ne (by decide)).trans gD9_33
  have gD10_10 : D10.tmps.getD 10 undef = (.slice (some ⟨bK, 0, none⟩) n cK) := by rw [qD10]; exact (getD_put_ne (by decide)).trans gD9_10
  have gD10_34 : D10.tmps.getD 34 undef = (.int .i64 i) := by rw [qD10]; exact (getD_put_ne (by decide)).trans gD9_34
  have gD10_11 : D10.tmps.getD 11 undef = (.int .i64 i) := by rw [qD10]; exact (getD_put_ne (by decide)).trans gD9_11
  have gD10_9 : D10.tmps.getD 9 undef = (.int .i64 k) := by rw [qD10]; exact (getD_put_ne (by decide)).trans gD9_9
  have gD10_1 : D10.tmps.getD 1 undef = (.slice (some ⟨bR, oR, none⟩) right.length cR) := by rw [qD10]; exact (getD_put_ne (by decide)).trans gD9_1
  have gD10_37 : D10.tmps.getD 37 undef = (.pointer (some ⟨bK, 0 + i, none⟩)) := by rw [qD10]; exact (getD_put_ne (by decide)).trans gD9_37
  have gD10_38 : D10.tmps.getD 38 undef = (.slice (some ⟨bK, 0, none⟩) n cK) := by rw [qD10]; exact (getD_put_ne (by decide)).trans gD9_38
  have gD10_39 : D10.tmps.getD 39 undef = (.int .i64 i) := by rw [qD10]; exact (getD_put_ne (by decide)).trans gD9_39
  have gD10_40 : D10.tmps.getD 40 undef = (.pointer (some ⟨bK, 0 + i, none⟩)) := by rw [qD10]; exact (getD_put_ne (by decide)).trans gD9_40
  have gD10_41 : D10.tmps.getD 41 undef = vC := by rw [qD10]; exact (getD_put_ne (by decide)).trans gD9_41
  have gD10_42 : D10.tmps.getD 42 undef = (.int .i64 k) := by rw [qD10]; exact (getD_put_ne (by decide)).trans gD9_42
  have gD10_43 : D10.tmps.getD 43 undef = (.slice (some ⟨bR, oR, none⟩) right.length cR) := by rw [qD10]; exact (getD_put_ne (by decide)).trans gD9_43
  have gD10_44 : D10.tmps.getD 44 undef = (.int .i64 i) := by rw [qD10]; exact (getD_put_ne (by decide)).trans gD9_44
  have gD10_45 : D10.tmps.getD 45 undef = (.pointer (some ⟨bR, oR + i, none⟩)) := by rw [qD10]; exact (getD_put_ne (by decide)).trans gD9_45
  have gD10_46 : D10.tmps.getD 46 undef = (.int .i64 (vI right i)) := by rw [qD10]; exact (getD_put_ne (by decide)).trans gD9_46
  have gD10_47 : D10.tmps.getD 47 undef = (.pointer (some ⟨bC, 0 + k, none⟩)) := by rw [qD10]; exact getD_put_eq (by rw [zD9]; decide)
  change wpStill Tryz.prog _ _ _ _ (D9.put (some 47) (.pointer (some ⟨bC, 0 + k, none⟩)))
  rw [← qD10]
  refine wpStill_nil ?_
  refine plain_skip (by intro d h; cases h) rfl (st3 D10 wd _ (.tmp 47) (.tmp 46) rfl gD10_47 gD10_46 dbC (by have := r.sC; omega)) ?_
  change Q .normal D10 (wd.setRow bC (curC.set! (0 + k) (.int .i64 (vI right i))))
  have hfin : RelS (EH M bs w0 true) 75 (stB 60010 m (xs.set i (row.set k (vI right i))) right outs den i k n) B9 wB10 := hB10.2
  have e : wd.setRow bC (curC.set! (0 + k) (.int .i64 (vI right i))) = { wB10 with drawn := wA2.drawn + 1 } := by
    rw [hwd, hwB10, hwB8, hwA2, ← setRow_comm w r.ne]
    rfl
  refine hQ _ _ ?_
  rw [e]
  refine rel_drawn _ (rel_ag (ds := [36, 37, 38, 39, 40, 41, 42, 43, 44, 45, 46, 47]) hfin zD10 ?_ (fun t ht => ?_) (fun u s h => stB_slots h))
  · have l1 : D10.defers = a.defers := by rw [qD10, defers_put, qD9, defers_put, qD8, defers_put, qD7, defers_put, qD6, defers_put, qD5, defers_put, qD4, defers_put, qD3, defers_put, qD2, defers_put, qD1, defers_put, qA1, defers_put]
    have l2 : B9.defers = a.defers := by rw [qB9, defers_put, qB7, defers_put, qB6, defers_put, qB5, defers_put, qB4, defers_put, qB3, defers_put, qB2, defers_put, qB1, defers_put]
    rw [l1, l2]
  · simp only [List.mem_cons, List.not_mem_nil, or_false, not_or] at ht
    obtain ⟨n36, n37, n38, n39, n40, n41, n42, n43, n44, n45, n46, n47⟩ := ht
    have l1 : D10.tmps.getD t undef = a.tmps.getD t undef := by rw [qD10, getD_put_ne n47, qD9, getD_put_ne n46, qD8, getD_put_ne n45, qD7, getD_put_ne n44, qD6, getD_put_ne n43, qD5, getD_put_ne n42, qD4, getD_put_ne n41, qD3, getD_put_ne n40, qD2, getD_put_ne n39, qD1, getD_put_ne n38, qA1, getD_put_ne n37]
    have l2 : B9.tmps.getD t undef = a.tmps.getD t undef := by rw [qB9, getD_put_ne n37, qB7, getD_put_ne n47, qB6, getD_put_ne n46, qB5, getD_put_ne n45, qB4, getD_put_ne n44, qB3, getD_put_ne n43, qB2, getD_put_ne n42, qB1, getD_put_ne n40]
    rw [l1, l2]
end Go.Eng.Ar

namespace Go.Eng.Ar
open Go.Eng Go.Proofs
set_option linter.all false
set_option maxRecDepth 100000
set_option maxHeartbeats 4000000
noncomputable def R0 : Code := match b180 with | .seq x _ => x | c => c
noncomputable def R1 : Code := match b180 with | .seq _ (.seq x _) => x | c => c
noncomputable def R2C : Code := match b180 with | .seq _ (.seq _ (.seq x _)) => x | c => c
noncomputable def R4 : Code := match b180 with | .seq _ (.seq _ (.seq _ (.seq x _))) => x | c => c
noncomputable def R5 : Code := match b180 with | .seq _ (.seq _ (.seq _ (.seq _ (.seq (.seq x _) _)))) => x | c => c
noncomputable def TL : Code := match b180 with | .seq _ (.seq _ (.seq _ (.seq _ (.seq _ x)))) => x | c => c
noncomputable def R6 : Code := match lb180 with | .seq x _ => x | c => c
noncomputable def R7 : Code := match lb180 with | .seq _ (.seq _ (.seq (.block _ (.seq x _)) _)) => x | c => c
noncomputable def R8 : Code := match lb180 with | .seq _ (.seq _ (.seq (.block _ (.seq _ (.seq x _))) _)) => x | c => c
noncomputable def R9 : Code := match lb180 with | .seq _ (.seq _ (.seq (.block _ (.seq _ (.seq _ (.seq (.seq x _) _)))) _)) => x | c => c
noncomputable def R15 : Code := match lb180 with | .seq _ (.seq _ (.seq (.block _ (.seq _ (.seq _ (.seq _ x)))) _)) => x | c => c
noncomputable def R16 : Code := match lb180 with | .seq _ (.seq _ (.seq _ x)) => x | c => c
noncomputable def R10 : Code := match li180 with | .seq x _ => x | c => c
noncomputable def R11 : Code := match li180 with | .seq _ (.seq _ (.seq (.block _ (.seq x _)) _)) => x | c => c
noncomputable def R14 : Code := match li180 with | .seq _ (.seq _ (.seq _ x)) => x | c => c
theorem body180 : (Tryz.f180.body : Option Code) = some (.seq R0 (.seq R1 (.seq R2C (.seq R4 (.seq (.seq R5 (.block 0 (.loop (.seq R6 (.seq (.cond (.tmp 21) .skip (.exit 0)) (.seq (.block 1 (.seq R7 (.seq R8 (.seq (.seq R9 (.block 2 (.loop (.seq R10 (.seq (.cond (.tmp 29) .skip (.exit 2)) (.seq (.block 3 (.seq R11 (.seq r12 r13))) R14)))))) R15)))) R16)))))) TL))))) := rfl
theorem tab_set {α : Type} {f : Nat → α} {n k : Nat} {v : α} : (tab f n).set k v = tab (fun j => if j = k then v else f j) n := by
  refine List.ext_getElem (by rw [List.length_set, tab_len, tab_len]) fun i h1 h2 => ?_
  have hi : i < n := by rw [tab_len] at h2; exact h2
  have h3 := tab_get f v n i hi
  have h4 := tab_get (fun j => if j = k then v else f j) v n i hi
  have h5 : i < (tab f n).length := by rw [tab_len]; exact hi
  simp only [List.getD_eq_getElem?_getD, List.getElem?_eq_getElem h5, List.getElem?_eq_getElem h2, Option.getD_some] at h3 h4
  rw [h4, List.getElem_set, h3]
  by_cases h : i = k
  · subst h; simp
  · rw [if_neg h, if_neg (fun e => h e.symm)]
def chk (m : List (List Int)) (right : List Int) (k i : Nat) : List (List Int) := tab (fun r => if r < i then (rowN m r).set k (vI right r) else []) m.length
def dets (m : List (List Int)) (right : List Int) (k : Nat) : List Int := tab (fun j => detA (chk m right j m.length)) k
def negd (o : List Int) (k : Nat) : List Int := tab (fun j => if j < k then -vI o j else vI o j) o.length
def solveR (m : List (List Int)) (right : List Int) : List Int × Int × Bool × Unit :=
  if detA m = 0 then ([], 0, false, ()) else if detA m < 0 then (negd (dets m right m.length) m.length, -detA m, true, ()) else (dets m right m.length, detA m, true, ())
def pSolve (m : List (List Int)) (right : List Int) : Prop := (∃ N, N ≤ 4 ∧ sqMat N m) ∧ right.length = m.length ∧ ∀ i, i < m.length → -2000 ≤ vI right i ∧ vI right i ≤ 2000
theorem chk_len {m right k i} : (chk m right k i).length = m.length := tab_len _ _
theorem row_of {N : Nat} {m : List (List Int)} (h : sqMat N m) {i : Nat} (hi : i < N) : rowN m i ∈ m := by
  have hi' : i < m.length := by rw [h.1]; exact hi
  simp only [rowN, List.getD_eq_getElem?_getD, List.getElem?_eq_getElem hi', Option.getD_some]
  exact List.getElem_mem hi'
theorem chk_zero {m right k} : chk m right k 0 = repl (m.length : Int) ([] : List Int) := by
  rw [repl_eq]
  refine tab_eq [] (by simp) fun i hi => ?_
  simp [List.getD, hi]
theorem chk_step {m right k i} (hi : i < m.length) : (chk m right k i).set i ((rowN m i).set k (vI right i)) = chk m right k (i + 1) := by
  unfold chk
  rw [tab_set]
  refine tab_congr _ fun j hj => ?_
  by_cases h : j = i
  · subst h; rw [if_pos rfl, if_pos (by omega)]
  · rw [if_neg h]
    by_cases h2 : j < i
    · rw [if_pos h2, if_pos (by omega)]
    · rw [if_neg h2, if_neg (by omega)]
theorem chk_sq {N : Nat} {m : List (List Int)} {right : List Int} {k : Nat} (h : sqMat N m) (hr : ∀ i, i < m.length → -2000 ≤ vI right i ∧ vI right i ≤ 2000) : sqMat N (chk m right k m.length) := by
  refine ⟨by rw [chk_len, h.1], fun r hr' => ?_⟩
  obtain ⟨i, hi, rfl⟩ : ∃ i, i < m.length ∧ r = (rowN m i).set k (vI right i) := by
    obtain ⟨i, hi, e⟩ := List.getElem_of_mem hr'
    have hi' : i < m.length := by rw [chk_len] at hi; exact hi
    refine ⟨i, hi', ?_⟩
    have h1 := tab_get (fun r => if r < m.length then (rowN m r).set k (vI right r) else []) [] m.length i hi'
    rw [if_pos hi'] at h1
    rw [← e, ← h1]
    show (chk m right k m.length)[i] = (chk m right k m.length).getD i []
    simp [List.getD, List.getElem?_eq_getElem hi]
  have hm := h.2 _ (row_of h (by rw [← h.1]; exact hi))
  refine ⟨by rw [List.length_set]; exact hm.1, fun x hx => ?_⟩
  rcases List.mem_or_eq_of_mem_set hx with hx | rfl
  · exact hm.2 x hx
  · exact hr i hi
theorem dets_len {m right k} : (dets m right k).length = k := tab_len _ _
theorem negd_len {o : List Int} {k : Nat} : (negd o k).length = o.length := tab_len _ _
theorem negd_get {o : List Int} {k : Nat} (h : k < o.length) : (negd o k).getD k 0 = vI o k := by
  have := tab_get (fun j => if j < k then -vI o j else vI o j) 0 o.length k h
  rw [if_neg (Nat.lt_irrefl k)] at this
  exact this
theorem negd_zero {o : List Int} : o = negd o 0 := by
  symm
  exact tab_eq 0 rfl fun i hi => if_neg (Nat.not_lt_zero i)
theorem negd_step {o : List Int} {k : Nat} (h : k < o.length) : (negd o k).set k (-(negd o k).getD k 0) = negd o (k + 1) := by
  rw [negd_get h]
  unfold negd
  rw [tab_set]
  refine tab_congr _ fun j hj => ?_
  by_cases e : j = k
  · subst e; rw [if_pos rfl, if_pos (by omega)]
  · rw [if_neg e]
    by_cases h2 : j < k
    · rw [if_pos h2, if_pos (by omega)]
    · rw [if_neg h2, if_neg (by omega)]
theorem dets_bd {N : Nat} {m : List (List Int)} {right : List Int} (hN : N ≤ 4) (hs : sqMat N m) (hr : ∀ i, i < m.length → -2000 ≤ vI right i ∧ vI right i ≤ 2000) {i : Nat} (hi : i < m.length) : -400000000000000 ≤ vI (dets m right m.length) i ∧ vI (dets m right m.length) i ≤ 400000000000000 := by
  have e : vI (dets m right m.length) i = detA (chk m right i m.length) := tab_get _ 0 _ i hi
  rw [e]
  exact detA_le ⟨N, hN, chk_sq hs hr⟩
theorem cS_ok : CfgOk Tryz.prog OB cfS := cfgOk (X := {}) trivial cSv_ok
theorem pieceR {anns : List (St → LoopAnn)} {b : Code} {st0 target : St} {R : St → Prop} {a : Act} {M : Nat → Prop} {bs : List Nat} {w0 w : World} {Q : Exit → Act → World → Prop} {X : Prop} (hR : RelS (EH M bs w0 true) 75 st0 a w) (hd : dstOk 75 b = true) (hnr : noRange b = true)
    (hvc : vc cfS (par cfS) anns b 0 st0 (fun e st => match e with | .normal => Goal (∃ s : Unit, ent st target ∧ X) | .ret => R st | _ => False))
    (hQ : ∀ a' w', X → RelS (EH M bs w0 true) 75 target a' w' → Q .normal a' w') (hQr : ∀ st a' w', R st → RelS (EH M bs w0 true) 75 st a' w' → Q .ret a' w') : b.wpIn (Fw none) 0 Tryz.prog Q a w := by
  refine wpIn_mono (vc_sound cS_ok (par_sound mixed cS_ok) b 0 st0 _ a w (EH M bs w0 true) none rfl rfl (.inr hnr) hd hvc hR) ?_
  rintro e a' w' ⟨⟨xe, st', h1, h2, h3⟩, hag⟩
  subst h1
  cases xe with
  | normal =>
    obtain ⟨_, h4, h5⟩ := h2.out
    exact hQ a' w' h5 (ent_sound h4 h3)
  | exit id => exact h2.elim
  | ret => exact hQr _ a' w' h2 h3
theorem slotB {M : Nat → Prop} {bs : List Nat} {w0 w : World} {a : Act} {st : St} {t : Nat} {v : Bool} (hR : RelS (EH M bs w0 true) 75 (.slot t (.one (.d .bool v)) :: st) a w) (ht : t < 1000000) : a.eval (.tmp t) = .bool v := by
  obtain ⟨η, g, H⟩ := hR
  have h := H _ List.mem_cons_self
  simp only [Fact.holds] at h
  rw [sval_lt ht] at h
  obtain ⟨l, h1, ⟨h2, _⟩ | ⟨_, h2⟩⟩ := h
  · cases h2
  · have h1 : l = [.bool v] := h1
    rw [h1] at h2
    exact (List.cons.inj h2).1.symm
theorem rel_tail {E : Env} {nt : Nat} {f : Fact} {st : St} {a : Act} {w : World} (hR : RelS E nt (f :: st) a w) : RelS E nt st a w := rel_sub hR (fun g hg => List.mem_cons_of_mem _ hg)
@[reducible] def sSolve : Spec := { pats := [.dat MatT, .dat (.sl I64)], res := [{ t := .sl I64 }, { t := I64 }, { t := .bool }], pre := fun x => pSolve x.1 x.2.1, f := fun x => solveR x.1 x.2.1 }
@[reducible] def stS (m : List (List Int)) (right : List Int) : St := [.slot 0 (.one (.d MatT m)), .slot 1 (.one (.d (.sl I64) right))]
@[reducible] def hdO (m : List (List Int)) (right : List Int) (k : Nat) : St := [sI 20 k, sI 19 m.length, sI 7 (detA m), .slot 8 (.one (.o 60008 (dets m right k).length)), .row 60008 3 I64 (dets m right k)] ++ stS m right
@[reducible] def hdI (m : List (List Int)) (right : List Int) (k i : Nat) : St := stB 60010 m (chk m right k i) right (dets m right k) (detA m) i k m.length
theorem vR0 (m : List (List Int)) (right : List Int) : vc cfS (par cfS) [] R0 0 (stS m right) (fun e st => match e with | .normal => Goal (∃ s : Unit, ent st (stS m right) ∧ True) | .ret => False | _ => False) := by
  repeat' (intro hzz; (try (rename Two => hq; cases hq)); (try dsimp only at hzz); (try simp only [resTy, argTy, eqD, inR, big, wantOf, zB] at hzz); (try (revert hzz; intro _)))
  all_goals try (rename Unit => hq; clear hq)
  all_goals try ((with_reducible refine Held.mk ?_); (with_reducible (first | refine Frz.mk ?_ | refine And.intro (Frz.mk ?_) ?_ | refine And.intro ?_ (Frz.mk ?_))); repeat' first | exact True.intro | (change _ = _; with_reducible rfl) | refine And.intro ?_ ?_ | (with_reducible refine Frz.mk ?_))
  all_goals try (refine Held.mk ?_; (try dsimp only at *); (try simp only [resTy, argTy, eqD, inR, big, wantOf, zB] at *))
  all_goals try omega
  ·
    refine GHeld.mk ?_
    refine Exists.intro () ?_
    refine And.intro (Leaf.mk ?_) ?_
    · repeat' first | exact True.intro | refine And.intro ?_ ?_
      all_goals try ((change _ = _ <;> try dsimp only) <;> try with_reducible rfl)
      all_goals try omega
      all_goals (rfl)
    trivial
theorem vR1 (m : List (List Int)) (right : List Int) (h : pDetA m) : vc cfS (par cfS) [] R1 0 (stS m right) (fun e st => match e with | .normal => Goal (∃ s : Unit, ent st (sI 7 (detA m) :: stS m right) ∧ True) | .ret => False | _ => False) := by
  repeat' (intro hzz; (try (rename Two => hq; cases hq)); (try dsimp only at hzz); (try simp only [resTy, argTy, eqD, inR, big, wantOf, zB] at hzz); (try (revert hzz; intro _)))
  all_goals try (rename Unit => hq; clear hq)
  all_goals try ((with_reducible refine Held.mk ?_); (with_reducible (first | refine Frz.mk ?_ | refine And.intro (Frz.mk ?_) ?_ | refine And.intro ?_ (Frz.mk ?_))); repeat' first | exact True.intro | (change _ = _; with_reducible rfl) | refine And.intro ?_ ?_ | (with_reducible refine Frz.mk ?_))
  all_goals try (refine Held.mk ?_; (try dsimp only at *); (try simp only [resTy, argTy, eqD, inR, big, wantOf, zB] at *))
  all_goals try omega
  all_goals try exact h
  ·
    refine GHeld.mk ?_
    refine Exists.intro () ?_
    refine And.intro (Leaf.mk ?_) ?_
    · repeat' first | exact True.intro | refine And.intro ?_ ?_
      all_goals try ((change _ = _ <;> try dsimp only) <;> try with_reducible rfl)
      all_goals try omega
      all_goals (rfl)
    trivial
theorem vR2 (m : List (List Int)) (right : List Int) : vc cfS (par cfS) [] R2C 0 (sI 7 (detA m) :: stS m right) (fun e st => match e with | .normal => Goal (∃ s : Unit, ent st (sI 7 (detA m) :: stS m right) ∧ detA m ≠ 0) | .ret => retVC cfS Tryz.f180.results.toList sSolve.res (solveR m right) st | _ => False) := by
  repeat' (intro hzz; (try (rename Two => hq; cases hq)); (try dsimp only at hzz); (try simp only [resTy, argTy, eqD, inR, big, wantOf, zB] at hzz); (try (revert hzz; intro _)))
  all_goals try (rename Unit => hq; clear hq)
  all_goals try ((with_reducible refine Held.mk ?_); (with_reducible (first | refine Frz.mk ?_ | refine And.intro (Frz.mk ?_) ?_ | refine And.intro ?_ (Frz.mk ?_))); repeat' first | exact True.intro | (change _ = _; with_reducible rfl) | refine And.intro ?_ ?_ | (with_reducible refine Frz.mk ?_))
  all_goals try (refine Held.mk ?_; (try dsimp only at *); (try simp only [resTy, argTy, eqD, inR, big, wantOf, zB] at *))
  all_goals try omega
  · rename_i h
    have e : solveR m right = ([], 0, false, ()) := if_pos h
    rw [e]; exact ⟨rfl, rfl, rfl⟩
  · rename_i h
    refine GHeld.mk ?_
    refine Exists.intro () ?_
    refine And.intro (Leaf.mk ?_) ?_
    · repeat' first | exact True.intro | refine And.intro ?_ ?_
      all_goals try ((change _ = _ <;> try dsimp only) <;> try with_reducible rfl)
      all_goals try omega
      all_goals (rfl)
    exact h
theorem vR45 (m : List (List Int)) (right : List Int) : vc cfS (par cfS) [] (.seq R4 R5) 0 (sI 7 (detA m) :: stS m right) (fun e st => match e with | .normal => Goal (∃ s : Unit, ent st (hdO m right 0) ∧ True) | .ret => False | _ => False) := by
  repeat' (intro hzz; (try (rename Two => hq; cases hq)); (try dsimp only at hzz); (try simp only [resTy, argTy, eqD, inR, big, wantOf, zB] at hzz); (try (revert hzz; intro _)))
  all_goals try (rename Unit => hq; clear hq)
  all_goals try ((with_reducible refine Held.mk ?_); (with_reducible (first | refine Frz.mk ?_ | refine And.intro (Frz.mk ?_) ?_ | refine And.intro ?_ (Frz.mk ?_))); repeat' first | exact True.intro | (change _ = _; with_reducible rfl) | refine And.intro ?_ ?_ | (with_reducible refine Frz.mk ?_))
  all_goals try (refine Held.mk ?_; (try dsimp only at *); (try simp only [resTy, argTy, eqD, inR, big, wantOf, zB] at *))
  all_goals try omega
  ·
    refine GHeld.mk ?_
    refine Exists.intro () ?_
    refine And.intro (Leaf.mk ?_) ?_
    · repeat' first | exact True.intro | refine And.intro ?_ ?_
      all_goals try ((change _ = _ <;> try dsimp only) <;> try with_reducible rfl)
      all_goals try omega
      all_goals (rfl)
    trivial
theorem vR6 (m : List (List Int)) (right : List Int) (k : Nat) : vc cfS (par cfS) [] R6 0 (hdO m right k) (fun e st => match e with | .normal => Goal (∃ s : Unit, ent st (.slot 21 (.one (.d .bool (decide ((k : Int) < (m.length : Int))))) :: hdO m right k) ∧ True) | .ret => False | _ => False) := by
  repeat' (intro hzz; (try (rename Two => hq; cases hq)); (try dsimp only at hzz); (try simp only [resTy, argTy, eqD, inR, big, wantOf, zB] at hzz); (try (revert hzz; intro _)))
  all_goals try (rename Unit => hq; clear hq)
  all_goals try ((with_reducible refine Held.mk ?_); (with_reducible (first | refine Frz.mk ?_ | refine And.intro (Frz.mk ?_) ?_ | refine And.intro ?_ (Frz.mk ?_))); repeat' first | exact True.intro | (change _ = _; with_reducible rfl) | refine And.intro ?_ ?_ | (with_reducible refine Frz.mk ?_))
  all_goals try (refine Held.mk ?_; (try dsimp only at *); (try simp only [resTy, argTy, eqD, inR, big, wantOf, zB] at *))
  all_goals try omega
  ·
    refine GHeld.mk ?_
    refine Exists.intro () ?_
    refine And.intro (Leaf.mk ?_) ?_
    · repeat' first | exact True.intro | refine And.intro ?_ ?_
      all_goals try ((change _ = _ <;> try dsimp only) <;> try with_reducible rfl)
      all_goals try omega
      all_goals (rfl)
    trivial
theorem vR789 (m : List (List Int)) (right : List Int) (k : Nat) (hm : m.length ≤ 4) : vc cfS (par cfS) [] (.seq R7 (.seq R8 R9)) 0 (hdO m right k) (fun e st => match e with | .normal => Goal (∃ s : Unit, ent st (hdI m right k 0) ∧ True) | .ret => False | _ => False) := by
  have e0 := @chk_zero m right k
  repeat' (intro hzz; (try (rename Two => hq; cases hq)); (try dsimp only at hzz); (try simp only [resTy, argTy, eqD, inR, big, wantOf, zB] at hzz); (try (revert hzz; intro _)))
  all_goals try (rename Unit => hq; clear hq)
  all_goals try ((with_reducible refine Held.mk ?_); (with_reducible (first | refine Frz.mk ?_ | refine And.intro (Frz.mk ?_) ?_ | refine And.intro ?_ (Frz.mk ?_))); repeat' first | exact True.intro | (change _ = _; with_reducible rfl) | refine And.intro ?_ ?_ | (with_reducible refine Frz.mk ?_))
  all_goals try (refine Held.mk ?_; (try dsimp only at *); (try simp only [resTy, argTy, eqD, inR, big, wantOf, zB] at *))
  all_goals try omega
  ·
    refine GHeld.mk ?_
    refine Exists.intro () ?_
    refine And.intro (Leaf.mk ?_) ?_
    · repeat' first | exact True.intro | refine And.intro ?_ ?_
      all_goals try ((change _ = _ <;> try dsimp only) <;> try with_reducible rfl)
      all_goals try omega
      all_goals (first | rfl | exact e0.symm | exact e0 | (rw [← e0, chk_len]))
    trivial
theorem vR10 (m : List (List Int)) (right : List Int) (k i : Nat) : vc cfS (par cfS) [] R10 0 (hdI m right k i) (fun e st => match e with | .normal => Goal (∃ s : Unit, ent st (.slot 29 (.one (.d .bool (decide ((i : Int) < (m.length : Int))))) :: hdI m right k i) ∧ True) | .ret => False | _ => False) := by
  repeat' (intro hzz; (try (rename Two => hq; cases hq)); (try dsimp only at hzz); (try simp only [resTy, argTy, eqD, inR, big, wantOf, zB] at hzz); (try (revert hzz; intro _)))
  all_goals try (rename Unit => hq; clear hq)
  all_goals try ((with_reducible refine Held.mk ?_); (with_reducible (first | refine Frz.mk ?_ | refine And.intro (Frz.mk ?_) ?_ | refine And.intro ?_ (Frz.mk ?_))); repeat' first | exact True.intro | (change _ = _; with_reducible rfl) | refine And.intro ?_ ?_ | (with_reducible refine Frz.mk ?_))
  all_goals try (refine Held.mk ?_; (try dsimp only at *); (try simp only [resTy, argTy, eqD, inR, big, wantOf, zB] at *))
  all_goals try omega
  ·
    refine GHeld.mk ?_
    refine Exists.intro () ?_
    refine And.intro (Leaf.mk ?_) ?_
    · repeat' first | exact True.intro | refine And.intro ?_ ?_
      all_goals try ((change _ = _ <;> try dsimp only) <;> try with_reducible rfl)
      all_goals try omega
      all_goals (rfl)
    trivial
theorem vR11 (m : List (List Int)) (right : List Int) (k i : Nat) (hi : i < m.length) (hrow : (rowN m i).length ≤ 4) : vc cfS (par cfS) [] R11 0 (hdI m right k i) (fun e st => match e with | .normal => runOps cfS ops12.toArray (ops12.take 4) st (fun st => Goal (∃ s : Unit, ent st (stA 60010 m (chk m right k i) right (rowN m i) (dets m right k) (detA m) i k m.length) ∧ True)) | _ => False) := by
  repeat' (intro hzz; (try (rename Two => hq; cases hq)); (try dsimp only at hzz); (try simp only [resTy, argTy, eqD, inR, big, wantOf, zB] at hzz); (try simp only [resTy, argTy, eqD, inR, big, wantOf, zB, getD_l] at hzz); (try (revert hzz; intro _)))
  all_goals try (rename Unit => hq; clear hq)
  all_goals try ((with_reducible refine Held.mk ?_); (with_reducible (first | refine Frz.mk ?_ | refine And.intro (Frz.mk ?_) ?_ | refine And.intro ?_ (Frz.mk ?_))); repeat' first | exact True.intro | (change _ = _; with_reducible rfl) | refine And.intro ?_ ?_ | (with_reducible refine Frz.mk ?_))
  all_goals try (refine Held.mk ?_; (try dsimp only at *); (try simp only [resTy, argTy, eqD, inR, big, wantOf, zB] at *); (try simp only [resTy, argTy, eqD, inR, big, wantOf, zB, getD_l] at *))
  all_goals try omega
  · show (rowN m i).length ≤ 2000000000
    omega
  ·
    refine GHeld.mk ?_
    refine Exists.intro () ?_
    refine And.intro (Leaf.mk ?_) ?_
    · repeat' first | exact True.intro | refine And.intro ?_ ?_
      all_goals try ((change _ = _ <;> try dsimp only) <;> try with_reducible rfl)
      all_goals try omega
      all_goals (rfl)
    trivial
theorem vR14 (m : List (List Int)) (right : List Int) (k i : Nat) (hi : i < m.length) (hm : m.length ≤ 4) : vc cfS (par cfS) [] R14 0 (stB 60010 m (chk m right k (i + 1)) right (dets m right k) (detA m) i k m.length) (fun e st => match e with | .normal => Goal (∃ s : Unit, ent st (hdI m right k (i + 1)) ∧ True) | .ret => False | _ => False) := by
  repeat' (intro hzz; (try (rename Two => hq; cases hq)); (try dsimp only at hzz); (try simp only [resTy, argTy, eqD, inR, big, wantOf, zB] at hzz); (try (revert hzz; intro _)))
  all_goals try (rename Unit => hq; clear hq)
  all_goals try ((with_reducible refine Held.mk ?_); (with_reducible (first | refine Frz.mk ?_ | refine And.intro (Frz.mk ?_) ?_ | refine And.intro ?_ (Frz.mk ?_))); repeat' first | exact True.intro | (change _ = _; with_reducible rfl) | refine And.intro ?_ ?_ | (with_reducible refine Frz.mk ?_))
  all_goals try (refine Held.mk ?_; (try dsimp only at *); (try simp only [resTy, argTy, eqD, inR, big, wantOf, zB] at *))
  all_goals try omega
  ·
    refine GHeld.mk ?_
    refine Exists.intro () ?_
    refine And.intro (Leaf.mk ?_) ?_
    · repeat' first | exact True.intro | refine And.intro ?_ ?_
      all_goals try ((change _ = _ <;> try dsimp only) <;> try with_reducible rfl)
      all_goals try omega
      all_goals (rfl)
    trivial
theorem vR15 (m : List (List Int)) (right : List Int) (k i : Nat) (hm : m.length ≤ 4) (hk : k ≤ 4) (hd : pDetA (chk m right k m.length)) : vc cfS (par cfS) [] R15 0 (hdI m right k m.length) (fun e st => match e with | .normal => Goal (∃ s : Unit, ent st ([sI 20 k, sI 19 m.length, sI 7 (detA m), .slot 8 (.one (.o 60008 (dets m right (k + 1)).length)), .row 60008 3 I64 (dets m right (k + 1))] ++ stS m right) ∧ True) | .ret => False | _ => False) := by
  repeat' (intro hzz; (try (rename Two => hq; cases hq)); (try dsimp only at hzz); (try simp only [resTy, argTy, eqD, inR, big, wantOf, zB] at hzz); (try (revert hzz; intro _)))
  all_goals try (rename Unit => hq; clear hq)
  all_goals try ((with_reducible refine Held.mk ?_); (with_reducible (first | refine Frz.mk ?_ | refine And.intro (Frz.mk ?_) ?_ | refine And.intro ?_ (Frz.mk ?_))); repeat' first | exact True.intro | (change _ = _; with_reducible rfl) | refine And.intro ?_ ?_ | (with_reducible refine Frz.mk ?_))
  all_goals try (refine Held.mk ?_; (try dsimp only at *); (try simp only [resTy, argTy, eqD, inR, big, wantOf, zB] at *))
  all_goals try omega
  · exact chk_len.symm
  · exact chk_len.symm
  · rw [dets_len]; show k + 1 ≤ 2147483648; omega
  ·
    refine GHeld.mk ?_
    refine Exists.intro () ?_
    refine And.intro (Leaf.mk ?_) ?_
    · repeat' first | exact True.intro | refine And.intro ?_ ?_
      all_goals try ((change _ = _ <;> try dsimp only) <;> try with_reducible rfl)
      all_goals try omega
      all_goals (rfl)
    trivial
theorem vR16 (m : List (List Int)) (right : List Int) (k i : Nat) (hm : m.length ≤ 4) (hk : k ≤ 4) : vc cfS (par cfS) [] R16 0 ([sI 20 k, sI 19 m.length, sI 7 (detA m), .slot 8 (.one (.o 60008 (dets m right (k + 1)).length)), .row 60008 3 I64 (dets m right (k + 1))] ++ stS m right) (fun e st => match e with | .normal => Goal (∃ s : Unit, ent st (hdO m right (k + 1)) ∧ True) | .ret => False | _ => False) := by
  repeat' (intro hzz; (try (rename Two => hq; cases hq)); (try dsimp only at hzz); (try simp only [resTy, argTy, eqD, inR, big, wantOf, zB] at hzz); (try (revert hzz; intro _)))
  all_goals try (rename Unit => hq; clear hq)
  all_goals try ((with_reducible refine Held.mk ?_); (with_reducible (first | refine Frz.mk ?_ | refine And.intro (Frz.mk ?_) ?_ | refine And.intro ?_ (Frz.mk ?_))); repeat' first | exact True.intro | (change _ = _; with_reducible rfl) | refine And.intro ?_ ?_ | (with_reducible refine Frz.mk ?_))
  all_goals try (refine Held.mk ?_; (try dsimp only at *); (try simp only [resTy, argTy, eqD, inR, big, wantOf, zB] at *))
  all_goals try omega
  ·
    refine GHeld.mk ?_
    refine Exists.intro () ?_
    refine And.intro (Leaf.mk ?_) ?_
    · repeat' first | exact True.intro | refine And.intro ?_ ?_
      all_goals try ((change _ = _ <;> try dsimp only) <;> try with_reducible rfl)
      all_goals try omega
      all_goals (rfl)
    trivial
def negAnn (o : List Int) : LoopAnn := { σ := Nat, pat := fun k => [sI 61 k, .slot 8 (.one (.o 60008 o.length)), .row 60008 3 I64 (negd o k)], inv := fun k => k ≤ o.length, meas := fun k => o.length - k }
theorem vTL (m : List (List Int)) (right : List Int) (hm : m.length ≤ 4) (hd : detA m ≠ 0) (hb : -400000000000000 ≤ detA m ∧ detA m ≤ 400000000000000) (ho : ∀ i, i < m.length → -400000000000000 ≤ vI (dets m right m.length) i ∧ vI (dets m right m.length) i ≤ 400000000000000) : vc cfS (par cfS) [fun _ => negAnn (dets m right m.length)] TL 0 (hdO m right m.length) (fun e st => match e with | .ret | .normal => retVC cfS Tryz.f180.results.toList sSolve.res (solveR m right) st | _ => False) := by
  have el : (dets m right m.length).length = m.length := dets_len
  obtain ⟨O, hO⟩ : ∃ O, dets m right m.length = O := ⟨_, rfl⟩
  have e3 : detA m < 0 → solveR m right = (negd O m.length, -detA m, true, ()) := fun h => by
    unfold solveR; rw [if_neg hd, if_pos h, hO]
  have e4 : 0 ≤ detA m → solveR m right = (O, detA m, true, ()) := fun h => by
    unfold solveR; rw [if_neg hd, if_neg (by omega), hO]
  rw [hO] at el ho
  show vc cfS (par cfS) [fun _ => negAnn (dets m right m.length)] TL 0 ([sI 20 m.length, sI 19 m.length, sI 7 (detA m), .slot 8 (.one (.o 60008 (dets m right m.length).length)), .row 60008 3 I64 (dets m right m.length)] ++ stS m right) _
  rw [hO]
  repeat' (intro hzz; (try (rename Two => hq; cases hq)); (try dsimp only at hzz); (try simp only [resTy, argTy, eqD, inR, big, wantOf, zB] at hzz); (try simp only [resTy, argTy, eqD, inR, big, wantOf, zB, getD_i] at hzz); (try (revert hzz; intro _)))
  all_goals try (rename Unit => hq; clear hq)
  all_goals try ((with_reducible refine Held.mk ?_); (with_reducible (first | refine Frz.mk ?_ | refine And.intro (Frz.mk ?_) ?_ | refine And.intro ?_ (Frz.mk ?_))); repeat' first | exact True.intro | (change _ = _; with_reducible rfl) | refine And.intro ?_ ?_ | (with_reducible refine Frz.mk ?_))
  all_goals try (refine Held.mk ?_; (try dsimp only at *); (try simp only [resTy, argTy, eqD, inR, big, wantOf, zB] at *); (try simp only [resTy, argTy, eqD, inR, big, wantOf, zB, getD_i] at *))
  all_goals try omega
  · rename_i h
    refine GHeld.mk ?_
    refine Exists.intro (0 : Nat) ?_
    refine And.intro (Leaf.mk ?_) ?_
    · repeat' first | exact True.intro | refine And.intro ?_ ?_
      all_goals try ((change _ = _ <;> try dsimp only) <;> try with_reducible rfl)
      all_goals try omega
      all_goals (first | rfl | exact negd_zero)
    exact Nat.zero_le _
  · rename_i h k hk hg
    rw [negd_len]; omega
  · rename_i h k hk hg
    rw [negd_get (by omega)]
    have := ho k (by omega)
    omega
  · rename_i h k hk hg
    rw [negd_len]; omega
  · rename_i h k hk hg
    refine GHeld.mk ?_
    refine Exists.intro (k + 1) ?_
    refine And.intro (Leaf.mk ?_) ?_
    · repeat' first | exact True.intro | refine And.intro ?_ ?_
      all_goals try ((change _ = _ <;> try dsimp only) <;> try with_reducible rfl)
      all_goals try omega
      all_goals (first | rfl | exact negd_step (by omega) | (rw [List.length_set, negd_len]))
    exact ⟨by show k + 1 ≤ O.length; omega, by show O.length - (k + 1) < O.length - k; omega⟩
  all_goals try (exact negd_len.symm)
  · rename_i h k hk hg
    rw [e3 h, show m.length = k by omega]; exact ⟨rfl, rfl, rfl⟩
  · rename_i h
    rw [e4 h]; exact ⟨rfl, rfl, rfl⟩
end Go.Eng.Ar

namespace Go.Eng.Ar
open Go.Eng Go.Proofs
set_option linter.all false
set_option maxRecDepth 100000
set_option maxHeartbeats 4000000
theorem r12_eq : r12 = .region 12 ops12.toArray false := rfl
theorem pieceV {anns : List (St → LoopAnn)} {x y : Code} {st0 target : St} {a : Act} {M : Nat → Prop} {bs : List Nat} {w0 w : World} {Q : Exit → Act → World → Prop} {X : Prop} (hR : RelS (EH M bs w0 true) 75 st0 a w) (hd : dstOk 75 x = true) (hnr : noRange x = true) (hnl : nloops x = 0)
    (hvc : vc cfS (par cfS) anns (.seq x y) 0 st0 (fun e st => match e with | .normal => Goal (∃ s : Unit, ent st target ∧ X) | .ret => False | _ => False))
    (hQ : ∀ st a' w', vc cfS (par cfS) anns y 0 st (fun e st => match e with | .normal => Goal (∃ s : Unit, ent st target ∧ X) | .ret => False | _ => False) → RelS (EH M bs w0 true) 75 st a' w' → Q .normal a' w') : x.wpIn (Fw none) 0 Tryz.prog Q a w := by
  refine wpIn_mono (vc_sound cS_ok (par_sound mixed cS_ok) x 0 st0 _ a w (EH M bs w0 true) none rfl rfl (.inr hnr) hd hvc hR) ?_
  rintro e a' w' ⟨⟨xe, st', h1, h2, h3⟩, hag⟩
  subst h1
  cases xe with
  | normal =>
    simp only [forceN_eq, hnl] at h2
    exact hQ st' a' w' h2 h3
  | exit id => exact h2.elim
  | ret => exact h2.elim
theorem pieceW {anns : List (St → LoopAnn)} {x : Code} {st0 : St} {V : St → Prop} {a : Act} {M : Nat → Prop} {bs : List Nat} {w0 w : World} {Q : Exit → Act → World → Prop} (hR : RelS (EH M bs w0 true) 75 st0 a w) (hd : dstOk 75 x = true) (hnr : noRange x = true)
    (hvc : vc cfS (par cfS) anns x 0 st0 (fun e st => match e with | .normal => V st | _ => False))
    (hQ : ∀ st a' w', V st → RelS (EH M bs w0 true) 75 st a' w' → Q .normal a' w') : x.wpIn (Fw none) 0 Tryz.prog Q a w := by
  refine wpIn_mono (vc_sound cS_ok (par_sound mixed cS_ok) x 0 st0 _ a w (EH M bs w0 true) none rfl rfl (.inr hnr) hd hvc hR) ?_
  rintro e a' w' ⟨⟨xe, st', h1, h2, h3⟩, hag⟩
  subst h1
  cases xe with
  | normal => exact hQ st' a' w' h2 h3
  | exit id => exact h2.elim
  | ret => exact h2.elim
theorem lpieceH {ops : Array Oper} {l : List Oper} {st0 target : St} {a : Act} {M : Nat → Prop} {bs : List Nat} {w0 w : World} {Q : Exit → Act → World → Prop} (hR : RelS (EH M bs w0 true) 75 st0 a w)
    (hsub : ∀ o ∈ l, o ∈ ops.toList) (hdst : ∀ o ∈ ops.toList, ∀ t, o.dst = some t → t < 75)
    (hvc : runOps cfS ops l st0 (fun st => Goal (∃ s : Unit, ent st target ∧ True)))
    (hQ : ∀ a' w', RelS (EH M bs w0 true) 75 target a' w' → Q .normal a' w') : wpListIn (Fw none) 0 Tryz.prog ops Q l a w := by
  refine list_mono ?_ l a w (runOps_sound (E := EH M bs w0 true) (c := cfS) (ro := none) (q := 0) cS_ok (ops := ops) (Q := fun e a' w' => e = .normal ∧ RelS (EH M bs w0 true) 75 target a' w') hdst l hsub st0 _ a w hvc hR ?_)
  · rintro e a' w' ⟨rfl, h1⟩
    exact hQ a' w' h1
  · intro st' a' w' h1 h2
    obtain ⟨_, h4, _⟩ := h1.out
    exact ⟨rfl, ent_sound h4 h2⟩
theorem hSolve : Ok 180 sSolve := by
  refine ⟨fn_hand (c := cfS) cS_ok Tryz.func180 body180 rfl (by decide) (by decide) (by decide) rfl ?_, Tryz.f180, Tryz.func180, by kernel_rfl, by kernel_rfl⟩
  rintro ⟨(m : List (List Int)), (right : List Int), _⟩ ⟨⟨N, hN, hs⟩, (hrl : right.length = m.length), (hrb : ∀ i, i < m.length → -2000 ≤ vI right i ∧ vI right i ≤ 2000)⟩ M bs w0 a hd hR
  have hml : m.length = N := hs.1
  have hdet : pDetA m := ⟨N, hN, hs⟩
  have hrow : ∀ i, i < m.length → (rowN m i).length = N := fun i hi => (hs.2 _ (row_of hs (by omega))).1
  have hR : RelS (EH M bs w0 true) 75 (stS m right) a w0 := nd_on hR hd
  refine wpIn_seq (pieceR (X := True) (R := fun _ => False) hR (by kernel_rfl) (by kernel_rfl) (vR0 m right) (fun a1 w1 _ hR1 => ?_) (fun _ _ _ h => h.elim))
  refine wpIn_seq (pieceR (X := True) (R := fun _ => False) hR1 (by kernel_rfl) (by kernel_rfl) (vR1 m right hdet) (fun a2 w2 _ hR2 => ?_) (fun _ _ _ h => h.elim))
  refine wpIn_seq (pieceR (R := retVC cfS Tryz.f180.results.toList sSolve.res (solveR m right)) hR2 (by kernel_rfl) (by kernel_rfl) (vR2 m right) (fun a3 w3 hne hR3 => ?_) (fun st a' w' h h2 => ⟨.ret, st, rfl, h, (nd_off h2).1⟩))
  have noR : ∀ (st : St) (a' : Act) (w' : World), False → RelS (EH M bs w0 true) 75 st a' w' → False := fun _ _ _ h _ => h
  refine wpIn_seq (pieceV (X := True) hR3 (by kernel_rfl) (by kernel_rfl) (by kernel_rfl) (vR45 m right) (fun st4 a4 w4 hv4 hR4 => ?_))
  refine wpIn_seq (wpIn_seq (pieceR (X := True) (R := fun _ => False) hR4 (by kernel_rfl) (by kernel_rfl) hv4 (fun a5 w5 _ hR5 => ?_) (fun _ _ _ h => h.elim)))
  refine wpIn_block (wp_loop_rel (fun n a w => ∃ k, k ≤ m.length ∧ n = m.length - k ∧ RelS (EH M bs w0 true) 75 (hdO m right k) a w) ⟨0, Nat.zero_le _, rfl, hR5⟩ ?_)
  rintro n a w ⟨k, hk, rfl, hR⟩
  refine wpIn_seq (pieceR (X := True) (R := fun _ => False) hR (by kernel_rfl) (by kernel_rfl) (vR6 m right k) (fun a1 w1 _ hR1 => ?_) (fun _ _ _ h => h.elim))
  have hb := slotB hR1 (by decide)
  have hR1 := rel_tail hR1
  by_cases hlt : k < m.length
  · rw [decide_eq_true (by omega)] at hb
    refine wpIn_seq (wpIn_cond_true hb (wpIn_skip ?_))
    change Code.wpIn (Fw none) 0 Tryz.prog _ _ a1 w1
    refine wpIn_seq (wpIn_block (wpIn_seq (pieceV (X := True) hR1 (by kernel_rfl) (by kernel_rfl) (by kernel_rfl) (vR789 m right k (by omega)) (fun st2 a2 w2 hv2 hR2 => ?_))))
    refine wpIn_seq (pieceV (X := True) hR2 (by kernel_rfl) (by kernel_rfl) (by kernel_rfl) hv2 (fun st3 a3 w3 hv3 hR3 => ?_))
    refine wpIn_seq (wpIn_seq (pieceR (X := True) (R := fun _ => False) hR3 (by kernel_rfl) (by kernel_rfl) hv3 (fun a4 w4 _ hR4 => ?_) (fun _ _ _ h => h.elim)))
    refine wpIn_block (wp_loop_rel (fun n a w => ∃ i, i ≤ m.length ∧ n = m.length - i ∧ RelS (EH M bs w0 true) 75 (hdI m right k i) a w) ⟨0, Nat.zero_le _, rfl, hR4⟩ ?_)
    rintro n a w ⟨i, hi, rfl, hR⟩
    refine wpIn_seq (pieceR (X := True) (R := fun _ => False) hR (by kernel_rfl) (by kernel_rfl) (vR10 m right k i) (fun a1 w1 _ hR1 => ?_) (fun _ _ _ h => h.elim))
    have hb := slotB hR1 (by decide)
    have hR1 := rel_tail hR1
    by_cases hit : i < m.length
    · rw [decide_eq_true (by omega)] at hb
      refine wpIn_seq (wpIn_cond_true hb (wpIn_skip ?_))
      change Code.wpIn (Fw none) 0 Tryz.prog _ _ a1 w1
      refine wpIn_seq (wpIn_block (wpIn_seq (pieceW hR1 (by kernel_rfl) (by kernel_rfl) (vR11 m right k i hit (by rw [hrow i hit]; exact hN)) (fun st2 a2 w2 hv2 hR2 => ?_))))
      refine wpIn_seq ?_
      rw [r12_eq]
      refine wpIn_region_list ?_
      change wpListIn (Fw none) 0 Tryz.prog _ _ (ops12.take 4 ++ ops12.drop 4) a2 w2
      refine list_app _ _ _ (lpieceH hR2 ?_ ?_ hv2 fun a3 w3 hR3 => ?_)
      · exact fun o ho => by
          change o ∈ ops12
          exact List.mem_of_mem_take ho
      · intro o ho t ht
        change o ∈ ops12 at ho
        have hall : (ops12.all fun o => match o.dst with | some t => Nat.blt t 75 | none => true) = true := by kernel_rfl
        have := List.all_eq_true.1 hall o ho
        rw [ht] at this
        exact Nat.le_of_ble_eq_true this
      · have hn := nest (Q := fun e a w => e = .normal ∧ RelS (EH M bs w0 true) 75 (stB 60010 m (chk m right k (i + 1)) right (dets m right k) (detA m) i k m.length) a w) hR3 hit chk_len (by omega) (by rw [hrow i hit]; omega) (fun a' w' h => by
          rw [chk_step hit] at h
          exact ⟨rfl, h⟩)
        refine list_mono ?_ _ _ _ hn
        rintro e a4 w4 h
        cases e with
        | normal =>
          refine wpIn_mono h ?_
          rintro e a5 w5 ⟨rfl, hR4⟩
          change Code.wpIn (Fw none) 0 Tryz.prog R14 _ a5 w5
          refine pieceR (X := True) (R := fun _ => False) hR4 (by kernel_rfl) (by kernel_rfl) (vR14 m right k i hit (by omega)) (fun a5 w5 _ hR5 => ?_) (fun _ _ _ h => h.elim)
          exact ⟨m.length - (i + 1), by omega, i + 1, hit, rfl, hR5⟩
        | _ => exact absurd h.1 (by intro h; cases h)
    · rw [decide_eq_false (by omega)] at hb
      refine wpIn_seq (wpIn_cond_false hb (wpIn_exit ?_))
      have e : i = m.length := by omega
      subst e
      change Code.wpIn (Fw none) 0 Tryz.prog R15 _ a1 w1
      refine pieceR (X := True) (R := fun _ => False) hR1 (by kernel_rfl) (by kernel_rfl) (vR15 m right k 0 (by omega) (by omega) ⟨N, hN, chk_sq hs hrb⟩) (fun a2 w2 _ hR2 => ?_) (fun _ _ _ h => h.elim)
      change Code.wpIn (Fw none) 0 Tryz.prog R16 _ a2 w2
      refine pieceR (X := True) (R := fun _ => False) hR2 (by kernel_rfl) (by kernel_rfl) (vR16 m right k 0 (by omega) (by omega)) (fun a3 w3 _ hR3 => ?_) (fun _ _ _ h => h.elim)
      exact ⟨m.length - (k + 1), by omega, k + 1, hlt, rfl, hR3⟩
  · rw [decide_eq_false (by omega)] at hb
    refine wpIn_seq (wpIn_cond_false hb (wpIn_exit ?_))
    have e : k = m.length := by omega
    subst e
    change Code.wpIn (Fw none) 0 Tryz.prog TL _ a1 w1
    refine wpIn_mono (vc_sound cS_ok (par_sound mixed cS_ok) TL 0 _ _ a1 w1 (EH M bs w0 true) none rfl rfl (.inr (by kernel_rfl)) (by kernel_rfl) (vTL m right (by omega) hne (detA_le hdet) (fun i hi => dets_bd hN hs hrb hi)) hR1) ?_
    rintro e a' w' ⟨⟨xe, st', h1, h2, h3⟩, _⟩
    exact ⟨xe, st', h1, h2, (nd_off h3).1⟩
end Go.Eng.Ar

namespace Go.Eng.Ar
open Go.Eng Go.Proofs
set_option linter.all false
set_option maxRecDepth 100000
set_option maxHeartbeats 8000000
abbrev BndD : Type := BoundT.Den
def lowB (row : List Int) : BndD := (tab (fun j => -vI row j) row.length ++ [1], 0, ())
def highB (cap : Int) (row : List Int) : BndD := (row ++ [0], cap, ())
def openB (n : Nat) (j : Nat) : BndD := (unitL (n + 1 : Int) (j : Int) 1, 1, ())
def shutB (n : Nat) (j : Nat) : BndD := (unitL (n + 1 : Int) (j : Int) (-1), 0, ())
abbrev lowsT (t : List (List Int)) (k : Nat) : List BndD := tab (fun i => lowB (rowN t i)) k
abbrev highsT (t : List (List Int)) (cap : Int) (k : Nat) : List BndD := lowsT t t.length ++ tab (fun i => highB cap (rowN t i)) k
abbrev opensT (t : List (List Int)) (cap : Int) (k : Nat) : List BndD := highsT t cap t.length ++ tab (openB (ncol t)) k
abbrev bndsT (t : List (List Int)) (cap : Int) (k : Nat) : List BndD := opensT t cap (ncol t) ++ tab (shutB (ncol t)) k
@[reducible] def sProg : Spec := { pats := [.dat TaskT], res := [{ t := ProgT }], pre := fun x => goodT x.1.1 x.1.2.1, f := fun x => (((List.length (α := List Int) x.1.1 : Int), (ncol x.1.1 : Int), bndsT x.1.1 x.1.2.1 (ncol x.1.1), ()), ()) }
abbrev cB3 (t : List (List Int)) (xs : List BndD) : St := [cI 3 0 t.length, cI 3 1 (ncol t), .cell 3 2 (.o 60032 xs.length), .row 60032 222 BoundT xs]
def pA1 (t : List (List Int)) : LoopAnn := { σ := Nat, pat := fun k => sI 25 k :: cB3 t (lowsT t k), inv := fun k => k ≤ t.length, meas := fun k => t.length - k }
def pA2 (st : St) : LoopAnn := withL 30 st fun row => { σ := Nat, pat := fun j => sI 32 j :: .slot 29 (.one .u) :: sOwn 6 29 3 (tab (fun j => -vI row j) j), inv := fun j => j ≤ row.length, meas := fun j => row.length - j }
def pA3 (t : List (List Int)) (cap : Int) : LoopAnn := { σ := Nat, pat := fun k => sI 55 k :: cB3 t (highsT t cap k), inv := fun k => k ≤ t.length, meas := fun k => t.length - k }
def pA4 (t : List (List Int)) (cap : Int) : LoopAnn := { σ := Nat, pat := fun k => sI 74 k :: cB3 t (opensT t cap k), inv := fun k => k ≤ ncol t, meas := fun k => ncol t - k }
def pA5 (t : List (List Int)) (cap : Int) : LoopAnn := { σ := Nat, pat := fun k => sI 91 k :: cB3 t (bndsT t cap k), inv := fun k => k ≤ ncol t, meas := fun k => ncol t - k }
theorem h142 : Ok 142 sProg := by
  refine mk (ctr := [(145, sClone), (162, sUnit)]) ⟨h145, h162, trivial⟩ (nt := 107) Tryz.func142 rfl rfl rfl rfl (by kernel_rfl) (by kernel_rfl) (fun x => [fun _ => pA1 x.1.1, pA2, fun _ => pA3 x.1.1 x.1.2.1, fun _ => pA4 x.1.1 x.1.2.1, fun _ => pA5 x.1.1 x.1.2.1]) ?_
  rintro ⟨⟨(t : List (List Int)), (cap : Int), _⟩, _⟩ h
  obtain ⟨(h1 : 0 < t.length), (h2 : t.length ≤ 4), (h3 : 0 < ncol t), (h4 : ncol t ≤ 3), (h5 : ∀ i, i < t.length → (rowN t i).length = ncol t), (h6 : ∀ i j, i < t.length → j < ncol t → 0 ≤ vI (rowN t i) j ∧ vI (rowN t i) j ≤ 100), (h7 : 0 ≤ cap ∧ cap ≤ 1000)⟩ := (h : goodT t cap)
  repeat' (intro hzz; (try (rename Two => hq; cases hq)); (try dsimp only at hzz); (try simp only [resTy, argTy, eqD, inR, big, wantOf, zB] at hzz); (try simp only [resTy, argTy, eqD, inR, big, wantOf, zB, getD_l, getD_i, getD_0, getD_l2, getD_i2, Int.toNat_natCast, tab_len, zero_toNat, List.length_append] at hzz); (try (revert hzz; intro _)))
  all_goals try (rename Unit => hq; clear hq)
  all_goals try ((with_reducible refine Held.mk ?_); (with_reducible (first | refine Frz.mk ?_ | refine And.intro (Frz.mk ?_) ?_ | refine And.intro ?_ (Frz.mk ?_))); repeat' first | exact True.intro | (change _ = _; with_reducible rfl) | refine And.intro ?_ ?_ | (with_reducible refine Frz.mk ?_))
  all_goals try (refine Held.mk ?_; (try dsimp only at *); (try simp only [resTy, argTy, eqD, inR, big, wantOf, zB] at *); (try simp only [resTy, argTy, eqD, inR, big, wantOf, zB, getD_l, getD_i, getD_0, getD_l2, getD_i2, Int.toNat_natCast, tab_len, zero_toNat, List.length_append] at *))
  all_goals try omega
  ·
    refine GHeld.mk ?_
    refine Exists.intro (0 : Nat) ?_
    refine And.intro (Leaf.mk ?_) ?_
    · repeat' first | exact True.intro | refine And.intro ?_ ?_
      all_goals try ((change _ = _ <;> try dsimp only) <;> try with_reducible rfl)
      all_goals try omega
      all_goals (rfl)
    exact Nat.zero_le _
  · rename_i k hk hg
    refine GHeld.mk ?_
    refine Exists.intro (0 : Nat) ?_
    refine And.intro (Leaf.mk ?_) ?_
    · repeat' first | exact True.intro | refine And.intro ?_ ?_
      all_goals try ((change _ = _ <;> try dsimp only) <;> try with_reducible rfl)
      all_goals try omega
      all_goals (rfl)
    exact Nat.zero_le _
  · rename_i k hk hg j hj hl
    have hl0 : (rowN t k).length = ncol t := h5 k (by omega)
    have := h6 k j (by omega) (by have : (rowN t k).length = (t.getD k []).length := rfl; omega)
    show -9223372036854775808 ≤ -vI (rowN t k) j ∧ -vI (rowN t k) j ≤ 9223372036854775807
    omega
  · rename_i k hk hg j hj hl
    have hl0 : (t.getD k []).length = ncol t := h5 k (by omega)
    show j + 1 ≤ 2147483648; omega
  · rename_i k hk hg j hj hl
    have hl0 : (t.getD k []).length = ncol t := h5 k (by omega)
    omega
  · rename_i k hk hg j hj hl
    refine GHeld.mk ?_
    refine Exists.intro (j + 1) ?_
    refine And.intro (Leaf.mk ?_) ?_
    · repeat' first | exact True.intro | refine And.intro ?_ ?_
      all_goals try ((change _ = _ <;> try dsimp only) <;> try with_reducible rfl)
      all_goals try omega
      all_goals (rfl)
    exact ⟨by show j + 1 ≤ (t.getD k []).length; omega, by show (t.getD k []).length - (j + 1) < (t.getD k []).length - j; omega⟩
  · rename_i k hk hg j hj hl
    have hl0 : (t.getD k []).length = ncol t := h5 k (by omega)
    show (tab (fun j => -vI (t.getD k []) j) j).length + 1 ≤ 2147483648
    rw [tab_len]; omega
  · rename_i k hk hg j hj hl
    show k + 1 ≤ 2147483648; omega
  · rename_i k hk hg j hj hl
    have e : j = (t.getD k []).length := by omega
    subst e
    refine GHeld.mk ?_
    refine Exists.intro (k + 1) ?_
    refine And.intro (Leaf.mk ?_) ?_
    · repeat' first | exact True.intro | refine And.intro ?_ ?_
      all_goals try ((change _ = _ <;> try dsimp only) <;> try with_reducible rfl)
      all_goals try omega
      all_goals (rfl)
    exact ⟨by show k + 1 ≤ t.length; omega, by show t.length - (k + 1) < t.length - k; omega⟩
  · rename_i k hk hg
    have e : k = t.length := by omega
    subst e
    refine GHeld.mk ?_
    refine Exists.intro (0 : Nat) ?_
    refine And.intro (Leaf.mk ?_) ?_
    · repeat' first | exact True.intro | refine And.intro ?_ ?_
      all_goals try ((change _ = _ <;> try dsimp only) <;> try with_reducible rfl)
      all_goals try omega
      all_goals (first | rfl | exact (List.append_nil _).symm | (rw [List.length_append, tab_len]; rfl))
    exact Nat.zero_le _
  · rename_i q hq hq2 k hk hg
    have hl0 : (t.getD k []).length = ncol t := h5 k (by omega)
    omega
  · rename_i q hq hq2 k hk hg
    have hl0 : (t.getD k []).length = ncol t := h5 k (by omega)
    show (t.getD k []).length + 1 ≤ 2147483648
    omega
  · rename_i q hq hq2 k hk hg
    show t.length + k + 1 ≤ 2147483648; omega
  · rename_i q hq hq2 k hk hg
    have e : highsT t cap k ++ [highB cap (rowN t k)] = highsT t cap (k + 1) := List.append_assoc _ _ _
    refine GHeld.mk ?_
    refine Exists.intro (k + 1) ?_
    refine And.intro (Leaf.mk ?_) ?_
    · repeat' first | exact True.intro | refine And.intro ?_ ?_
      all_goals try ((change _ = _ <;> try dsimp only) <;> try with_reducible rfl)
      all_goals try omega
      all_goals (first | rfl | exact e.symm | exact e | exact congrArg List.length e.symm | exact congrArg List.length e)
    exact ⟨by show k + 1 ≤ t.length; omega, by show t.length - (k + 1) < t.length - k; omega⟩
  · rename_i q hq hq2 k hk hg
    have e : k = t.length := by omega
    subst e
    have e : highsT t cap t.length = opensT t cap 0 := (List.append_nil _).symm
    refine GHeld.mk ?_
    refine Exists.intro (0 : Nat) ?_
    refine And.intro (Leaf.mk ?_) ?_
    · repeat' first | exact True.intro | refine And.intro ?_ ?_
      all_goals try ((change _ = _ <;> try dsimp only) <;> try with_reducible rfl)
      all_goals try omega
      all_goals (first | rfl | exact e.symm | exact e | exact congrArg List.length e.symm | exact congrArg List.length e)
    exact Nat.zero_le _
  · show (0 : Int) ≤ (ncol t : Int) + 1; omega
  · show (ncol t : Int) + 1 ≤ 1000; omega
  · rename_i q1 q2 q3 p1 p2 p3 k hk hg
    show (0 : Int) ≤ (k : Int); omega
  · rename_i q1 q2 q3 p1 p2 p3 k hk hg
    show (k : Int) < (ncol t : Int) + 1; omega
  · rename_i q1 q2 q3 p1 p2 p3 k hk hg
    show t.length + t.length + k + 1 ≤ 2147483648; omega
  · rename_i q1 q2 q3 p1 p2 p3 k hk hg
    have e : opensT t cap k ++ [openB (ncol t) k] = opensT t cap (k + 1) := List.append_assoc _ _ _
    refine GHeld.mk ?_
    refine Exists.intro (k + 1) ?_
    refine And.intro (Leaf.mk ?_) ?_
    · repeat' first | exact True.intro | refine And.intro ?_ ?_
      all_goals try ((change _ = _ <;> try dsimp only) <;> try with_reducible rfl)
      all_goals try omega
      all_goals (first | rfl | exact e.symm | exact e | exact congrArg List.length e.symm | exact congrArg List.length e)
    exact ⟨by show k + 1 ≤ ncol t; omega, by show ncol t - (k + 1) < ncol t - k; omega⟩
  · rename_i q1 q2 q3 p1 p2 p3 k hk hg
    have e : k = ncol t := by omega
    subst e
    have e : opensT t cap (ncol t) = bndsT t cap 0 := (List.append_nil _).symm
    refine GHeld.mk ?_
    refine Exists.intro (0 : Nat) ?_
    refine And.intro (Leaf.mk ?_) ?_
    · repeat' first | exact True.intro | refine And.intro ?_ ?_
      all_goals try ((change _ = _ <;> try dsimp only) <;> try with_reducible rfl)
      all_goals try omega
      all_goals (first | rfl | exact e.symm | exact e | exact congrArg List.length e.symm | exact congrArg List.length e)
    exact Nat.zero_le _
  · show (0 : Int) ≤ (ncol t : Int) + 1; omega
  · show (ncol t : Int) + 1 ≤ 1000; omega
  · rename_i r1 r2 r3 q1 q2 q3 p1 p2 p3 k hk hg
    show (0 : Int) ≤ (k : Int); omega
  · rename_i r1 r2 r3 q1 q2 q3 p1 p2 p3 k hk hg
    show (k : Int) < (ncol t : Int) + 1; omega
  · rename_i r1 r2 r3 q1 q2 q3 p1 p2 p3 k hk hg
    show t.length + t.length + ncol t + k + 1 ≤ 2147483648; omega
  · rename_i r1 r2 r3 q1 q2 q3 p1 p2 p3 k hk hg
    have e : bndsT t cap k ++ [shutB (ncol t) k] = bndsT t cap (k + 1) := List.append_assoc _ _ _
    refine GHeld.mk ?_
    refine Exists.intro (k + 1) ?_
    refine And.intro (Leaf.mk ?_) ?_
    · repeat' first | exact True.intro | refine And.intro ?_ ?_
      all_goals try ((change _ = _ <;> try dsimp only) <;> try with_reducible rfl)
      all_goals try omega
      all_goals (first | rfl | exact e.symm | exact e | exact congrArg List.length e.symm | exact congrArg List.length e)
    exact ⟨by show k + 1 ≤ ncol t; omega, by show ncol t - (k + 1) < ncol t - k; omega⟩
  · rename_i r1 r2 r3 q1 q2 q3 p1 p2 p3 k hk hg
    rw [show k = ncol t by omega]
end Go.Eng.Ar

namespace Go.Eng.Ar
open Go.Eng Go.Proofs
set_option linter.all false
set_option maxRecDepth 100000
set_option maxHeartbeats 8000000
def trM (m : List (List Int)) : List (List Int) := tab (fun j => tab (fun i => vI (rowN m i) j) m.length) m.length
theorem len1 {α : Type} {l : List α} (h : l.length = 1) : ∃ a, l = [a] := by
  match l, h with
  | [a], _ => exact ⟨a, rfl⟩
theorem len2 {α : Type} {l : List α} (h : l.length = 2) : ∃ a b, l = [a, b] := by
  match l, h with
  | [a, b], _ => exact ⟨a, b, rfl⟩
theorem len3 {α : Type} {l : List α} (h : l.length = 3) : ∃ a b c, l = [a, b, c] := by
  match l, h with
  | [a, b, c], _ => exact ⟨a, b, c, rfl⟩
theorem len4 {α : Type} {l : List α} (h : l.length = 4) : ∃ a b c d, l = [a, b, c, d] := by
  match l, h with
  | [a, b, c, d], _ => exact ⟨a, b, c, d, rfl⟩
theorem tr1 (a : Int) : detN 1 (trM [[a]]) = detN 1 [[a]] := rfl
theorem tr2 (a b c d : Int) : detN 2 (trM [[a, b], [c, d]]) = detN 2 [[a, b], [c, d]] := by
  show detN 2 [[a, c], [b, d]] = detN 2 [[a, b], [c, d]]
  simp [detN, sumD, dropRow, dropCol]; grind
theorem tr3 (a b c d e f g h i : Int) : detN 3 (trM [[a, b, c], [d, e, f], [g, h, i]]) = detN 3 [[a, b, c], [d, e, f], [g, h, i]] := by
  show detN 3 [[a, d, g], [b, e, h], [c, f, i]] = detN 3 [[a, b, c], [d, e, f], [g, h, i]]
  simp [detN, sumD, dropRow, dropCol]; grind
theorem tr4 (a b c d e f g h i j k l m n o p : Int) : detN 4 (trM [[a, b, c, d], [e, f, g, h], [i, j, k, l], [m, n, o, p]]) = detN 4 [[a, b, c, d], [e, f, g, h], [i, j, k, l], [m, n, o, p]] := by
  show detN 4 [[a, e, i, m], [b, f, j, n], [c, g, k, o], [d, h, l, p]] = detN 4 [[a, b, c, d], [e, f, g, h], [i, j, k, l], [m, n, o, p]]
  simp [detN, sumD, dropRow, dropCol]; grind
theorem tr_len {m : List (List Int)} : (trM m).length = m.length := tab_len _ _
theorem tr_det {N : Nat} (hN : N ≤ 4) {m : List (List Int)} (h : sqMat N m) : detA (trM m) = detA m := by
  obtain ⟨h1, h2⟩ := h
  unfold detA
  rw [tr_len]
  match N, hN with
  | 0, _ => rw [List.length_eq_zero_iff.1 h1]; rfl
  | 1, _ =>
    obtain ⟨r, rfl⟩ := len1 h1
    obtain ⟨a, rfl⟩ := len1 (h2 r (by simp)).1
    exact tr1 _
  | 2, _ =>
    obtain ⟨r, s, rfl⟩ := len2 h1
    obtain ⟨a, b, rfl⟩ := len2 (h2 r (by simp)).1
    obtain ⟨c, d, rfl⟩ := len2 (h2 s (by simp)).1
    exact tr2 _ _ _ _
  | 3, _ =>
    obtain ⟨r, s, t, rfl⟩ := len3 h1
    obtain ⟨a, b, c, rfl⟩ := len3 (h2 r (by simp)).1
    obtain ⟨d, e, f, rfl⟩ := len3 (h2 s (by simp)).1
    obtain ⟨g, h, i, rfl⟩ := len3 (h2 t (by simp)).1
    exact tr3 _ _ _ _ _ _ _ _ _
  | 4, _ =>
    obtain ⟨r, s, t, u, rfl⟩ := len4 h1
    obtain ⟨a, b, c, d, rfl⟩ := len4 (h2 r (by simp)).1
    obtain ⟨e, f, g, h, rfl⟩ := len4 (h2 s (by simp)).1
    obtain ⟨i, j, k, l, rfl⟩ := len4 (h2 t (by simp)).1
    obtain ⟨m, n, o, p, rfl⟩ := len4 (h2 u (by simp)).1
    exact tr4 _ _ _ _ _ _ _ _ _ _ _ _ _ _ _ _
theorem mem_vI {l : List Int} {x : Int} (h : x ∈ l) : ∃ i, i < l.length ∧ x = vI l i := by
  obtain ⟨i, hi, e⟩ := List.getElem_of_mem h
  exact ⟨i, hi, by simp [vI, List.getD, List.getElem?_eq_getElem hi, e]⟩
theorem vI_mem {l : List Int} {i : Nat} (h : i < l.length) : vI l i ∈ l := by
  have : vI l i = l[i] := by simp [vI, List.getD, List.getElem?_eq_getElem h]
  rw [this]; exact List.getElem_mem h
theorem tr_sq {N : Nat} {m : List (List Int)} (h : sqMat N m) : sqMat N (trM m) := by
  have hl : m.length = N := h.1
  refine ⟨by rw [tr_len, hl], fun r hr => ?_⟩
  obtain ⟨j, hj, rfl⟩ := tab_mem hr
  refine ⟨by rw [tab_len, hl], fun x hx => ?_⟩
  obtain ⟨i, hi, rfl⟩ := tab_mem hx
  have hrow := h.2 _ (row_of h (i := i) (by omega))
  exact hrow.2 _ (vI_mem (by rw [hrow.1]; omega))
theorem solve_no {m : List (List Int)} {right : List Int} (h : detA m = 0) : (solveR m right).2.2.1 = false := by
  unfold solveR
  rw [if_pos h]
theorem solve_true {m : List (List Int)} {right : List Int} (h : (solveR m right).2.2.1 = true) : detA m ≠ 0 := fun e => by rw [solve_no e] at h; cases h
theorem solve_len {m : List (List Int)} {right : List Int} (h : detA m ≠ 0) : (solveR m right).1.length = m.length := by
  unfold solveR
  rw [if_neg h]
  split
  · show (negd (dets m right m.length) m.length).length = _
    rw [negd_len, dets_len]
  · exact dets_len
theorem solve_bd {m : List (List Int)} {right : List Int} (hp : pSolve m right) (h : detA m ≠ 0) {i : Nat} (hi : i < m.length) : -400000000000000 ≤ vI (solveR m right).1 i ∧ vI (solveR m right).1 i ≤ 400000000000000 := by
  obtain ⟨⟨N, hN, hs⟩, h1, h2⟩ := hp
  have hb := dets_bd hN hs h2 hi
  unfold solveR
  rw [if_neg h]
  split
  · have e : vI (negd (dets m right m.length) m.length) i = -vI (dets m right m.length) i := by
      have := tab_get (fun j => if j < m.length then -vI (dets m right m.length) j else vI (dets m right m.length) j) 0 (dets m right m.length).length i (by rw [dets_len]; exact hi)
      rw [if_pos hi] at this
      exact this
    show -400000000000000 ≤ vI (negd (dets m right m.length) m.length) i ∧ vI (negd (dets m right m.length) m.length) i ≤ 400000000000000
    rw [e]; omega
  · exact hb
theorem solve_den {m : List (List Int)} {right : List Int} (hp : pSolve m right) (h : detA m ≠ 0) : 0 < (solveR m right).2.1 ∧ (solveR m right).2.1 ≤ 400000000000000 := by
  have hb := detA_le hp.1
  unfold solveR
  rw [if_neg h]
  split
  · show 0 < -detA m ∧ -detA m ≤ 400000000000000
    omega
  · show 0 < detA m ∧ detA m ≤ 400000000000000
    omega
end Go.Eng.Ar

namespace Go.Eng.Ar
open Go.Eng Go.Proofs
set_option linter.all false
set_option maxRecDepth 100000
set_option maxHeartbeats 8000000
abbrev bndZ : BndD := Ty.dflt BoundT
abbrev bdN (b : List BndD) (k : Nat) : BndD := b.getD k bndZ
abbrev bdL (b : List BndD) (l : List Int) (i : Nat) : BndD := b.getD (vI l i).toNat bndZ
abbrev CornD : Type := CornerT.Den
def rowsP (b : List BndD) (l : List Int) (k : Nat) : List (List Int) := tab (fun i => (bdL b l i).1) k
def rhsP (b : List BndD) (l : List Int) (k : Nat) : List Int := tab (fun i => (bdL b l i).2.1) k
def colP (m : List (List Int)) (j i : Nat) : List Int := tab (fun i => vI (rowN m i) j) i
def colsP (m : List (List Int)) (k : Nat) : List (List Int) := tab (fun j => colP m j m.length) k
def wsP (b : Nat) (l y : List Int) : Nat → List Int
  | 0 => repl (b : Int) (0 : Int)
  | i + 1 => (wsP b l y i).set (vI l i).toNat (vI y i)
def okB (b : List BndD) (x : List Int) (den : Int) (k : Nat) : Bool := decide (dotI (bdN b k).1 x ≤ (bdN b k).2.1 * den)
def okAll (b : List BndD) (x : List Int) (den : Int) : Nat → Bool
  | 0 => true
  | k + 1 => okAll b x den k && okB b x den k
abbrev cornZ : CornD := ([], 0, [], 0, ())
def atX (b : List BndD) (l : List Int) : List Int × Int × Bool × Unit := solveR (rowsP b l l.length) (rhsP b l l.length)
def atY (b : List BndD) (l : List Int) : List Int × Int × Bool × Unit := solveR (trM (rowsP b l l.length)) (unitL (l.length : Int) ((l.length : Int) - 1) 1)
def atR (b : List BndD) (l : List Int) : CornD × Bool × Unit :=
  if (atX b l).2.2.1 = false then (cornZ, false, ())
  else if okAll b (atX b l).1 (atX b l).2.1 b.length = false then (cornZ, false, ())
  else if mn (atY b l).1 (l.length - 1) < 0 then (cornZ, false, ())
  else (((atX b l).1, (atX b l).2.1, wsP b.length l (atY b l).1 l.length, (atY b l).2.1, ()), true, ())
structure goodA (b : List BndD) (l : List Int) : Prop where
  pos : 0 < l.length
  le : l.length ≤ 4
  ble : b.length ≤ 100
  idx : ∀ i, i < l.length → 0 ≤ vI l i ∧ (vI l i).toNat < b.length
  len : ∀ k, k < b.length → (bdN b k).1.length = l.length
  vals : ∀ k j, k < b.length → j < l.length → -1000 ≤ vI (bdN b k).1 j ∧ vI (bdN b k).1 j ≤ 1000
  most : ∀ k, k < b.length → (0 : Int) ≤ (bdN b k).2.1 ∧ (bdN b k).2.1 ≤ (1000 : Int)
theorem ws_len {b : Nat} {l y : List Int} : ∀ i, (wsP b l y i).length = b
  | 0 => by simp [wsP, repl_len]
  | i + 1 => by simp [wsP, ws_len i]
theorem rows_len {b l k} : (rowsP b l k).length = k := tab_len _ _
theorem rows_row {b : List BndD} {l : List Int} {k i : Nat} (h : i < k) : rowN (rowsP b l k) i = (bdL b l i).1 := tab_get (fun i => (bdL b l i).1) [] k i h
theorem rows_sq {b : List BndD} {l : List Int} (h : goodA b l) : sqMat l.length (rowsP b l l.length) := by
  refine ⟨rows_len, fun r hr => ?_⟩
  obtain ⟨i, hi, rfl⟩ := tab_mem hr
  have h1 := h.idx i hi
  have h2 : (bdL b l i).1.length = l.length := h.len _ h1.2
  refine ⟨h2, fun x hx => ?_⟩
  obtain ⟨j, hj, rfl⟩ := mem_vI hx
  have := h.vals _ j h1.2 (by rw [← h2]; exact hj)
  have e : vI (bdL b l i).1 j = vI (bdN b (vI l i).toNat).1 j := rfl
  rw [e]; omega
theorem rhs_len {b l k} : (rhsP b l k).length = k := tab_len _ _
theorem rhs_get {b : List BndD} {l : List Int} {k i : Nat} (h : i < k) : vI (rhsP b l k) i = (bdL b l i).2.1 := tab_get (fun i => (bdL b l i).2.1) 0 k i h
theorem pX {b : List BndD} {l : List Int} (h : goodA b l) : pSolve (rowsP b l l.length) (rhsP b l l.length) := by
  refine ⟨⟨l.length, h.le, rows_sq h⟩, by rw [rhs_len, rows_len], fun i hi => ?_⟩
  rw [rows_len] at hi
  rw [rhs_get hi]
  have h1 := h.idx i hi
  have h2 : 0 ≤ (bdL b l i).2.1 ∧ (bdL b l i).2.1 ≤ 1000 := h.most _ h1.2
  generalize (bdL b l i).2.1 = z at h2
  have h3 : (0 : Int) ≤ z := h2.1
  have h4 : z ≤ (1000 : Int) := h2.2
  exact ⟨Int.le_trans (by decide) h3, Int.le_trans h4 (by decide)⟩
theorem unit_len {n k v : Int} : (unitL n k v).length = n.toNat := by
  unfold unitL; rw [List.length_set, repl_len]
theorem unit_get {n : Nat} {k : Nat} {v : Int} {i : Nat} (hi : i < n) : vI (unitL (n : Int) (k : Int) v) i = if i = k then v else 0 := by
  have e : unitL (n : Int) (k : Int) v = tab (fun j => if j = k then v else 0) n := by
    have e0 : repl (n : Int) (0 : Int) = tab (fun _ => (0 : Int)) n := by
      rw [repl_eq]; symm
      exact tab_eq 0 (by simp) fun i hi => by simp [List.getD, hi]
    unfold unitL
    rw [e0, show ((k : Int)).toNat = k from rfl, tab_set]
  rw [e]
  exact tab_get (fun j => if j = k then v else 0) 0 n i hi
theorem pY {b : List BndD} {l : List Int} (h : goodA b l) : pSolve (trM (rowsP b l l.length)) (unitL (l.length : Int) ((l.length : Int) - 1) 1) := by
  have hl : (trM (rowsP b l l.length)).length = l.length := by rw [tr_len, rows_len]
  refine ⟨⟨l.length, h.le, tr_sq (rows_sq h)⟩, by rw [unit_len, hl]; rfl, fun i hi => ?_⟩
  rw [hl] at hi
  have hp := h.pos
  rw [show (l.length : Int) - 1 = ((l.length - 1 : Nat) : Int) by omega, unit_get hi]
  split <;> omega
theorem okAll_no {b : List BndD} {x : List Int} {d : Int} {k : Nat} (h : okB b x d k = false) : ∀ n, k < n → okAll b x d n = false
  | 0, hk => absurd hk (Nat.not_lt_zero _)
  | n + 1, hk => by
    simp only [okAll]
    by_cases e : k = n
    · subst e; rw [h, Bool.and_false]
    · rw [okAll_no h n (by omega), Bool.false_and]
theorem at_1 {b : List BndD} {l : List Int} (h : (atX b l).2.2.1 = false) : atR b l = (cornZ, false, ()) := if_pos h
theorem at_2 {b : List BndD} {l : List Int} (h : (atX b l).2.2.1 = true) (h2 : okAll b (atX b l).1 (atX b l).2.1 b.length = false) : atR b l = (cornZ, false, ()) := by
  unfold atR; rw [if_neg (by rw [h]; decide), if_pos h2]
theorem at_3 {b : List BndD} {l : List Int} (h : (atX b l).2.2.1 = true) (h2 : okAll b (atX b l).1 (atX b l).2.1 b.length = true) (h3 : mn (atY b l).1 (l.length - 1) < 0) : atR b l = (cornZ, false, ()) := by
  unfold atR; rw [if_neg (by rw [h]; decide), if_neg (by rw [h2]; decide), if_pos h3]
theorem at_4 {b : List BndD} {l : List Int} (h : (atX b l).2.2.1 = true) (h2 : okAll b (atX b l).1 (atX b l).2.1 b.length = true) (h3 : ¬ mn (atY b l).1 (l.length - 1) < 0) : atR b l = (((atX b l).1, (atX b l).2.1, wsP b.length l (atY b l).1 l.length, (atY b l).2.1, ()), true, ()) := by
  unfold atR; rw [if_neg (by rw [h]; decide), if_neg (by rw [h2]; decide), if_neg h3]
theorem x_det {b : List BndD} {l : List Int} (h : (atX b l).2.2.1 = true) : detA (rowsP b l l.length) ≠ 0 := solve_true h
theorem x_len {b : List BndD} {l : List Int} (h : (atX b l).2.2.1 = true) : (atX b l).1.length = l.length := (solve_len (x_det h)).trans rows_len
theorem y_det {b : List BndD} {l : List Int} (hg : goodA b l) (h : (atX b l).2.2.1 = true) : detA (trM (rowsP b l l.length)) ≠ 0 := by
  rw [tr_det hg.le (rows_sq hg)]; exact x_det h
theorem y_len {b : List BndD} {l : List Int} (hg : goodA b l) (h : (atX b l).2.2.1 = true) : (atY b l).1.length = l.length := (solve_len (y_det hg h)).trans (by rw [tr_len, rows_len])
theorem y_eq {b : List BndD} {l : List Int} : solveR (colsP (rowsP b l l.length) (rowsP b l l.length).length) (unitL ((rowsP b l l.length).length : Int) (((rowsP b l l.length).length : Int) - 1) 1) = atY b l := by
  show solveR (trM (rowsP b l l.length)) _ = atY b l
  rw [rows_len]; rfl
theorem y_eq2 {b : List BndD} {l : List Int} : solveR (colsP (rowsP b l l.length) l.length) (unitL (l.length : Int) ((l.length : Int) - 1) 1) = atY b l := by
  have := @y_eq b l
  rw [rows_len] at this; exact this
theorem p_dot {b : List BndD} {l : List Int} (hg : goodA b l) (h : (atX b l).2.2.1 = true) {k : Nat} (hk : k < b.length) : pDot (bdN b k).1 (atX b l).1 := by
  have e := hg.len k hk
  have hl := hg.le
  refine ⟨by rw [e, x_len h]; exact Nat.le_refl _, by rw [e]; omega, fun i hi => ?_⟩
  rw [e] at hi
  have h1 := hg.vals k i hk hi
  have h2 := solve_bd (pX hg) (x_det h) (i := i) (by rw [rows_len]; exact hi)
  have h3 := mul_bd h1.1 h1.2 h2.1 h2.2
  exact ⟨Int.le_trans (by decide) h3.1, Int.le_trans h3.2 (by decide)⟩
theorem p_most {b : List BndD} {l : List Int} (hg : goodA b l) (h : (atX b l).2.2.1 = true) {k : Nat} (hk : k < b.length) : -9223372036854775808 ≤ (bdN b k).2.1 * (atX b l).2.1 ∧ (bdN b k).2.1 * (atX b l).2.1 ≤ 9223372036854775807 := by
  have h1 := hg.most k hk
  have h2 := solve_den (pX hg) (x_det h)
  have h3 := mul_bd (x := (bdN b k).2.1) (d := (atX b l).2.1) (X := 1000) (B := 400000000000000) (Int.le_trans (by decide) h1.1) h1.2 (Int.le_trans (by decide) (Int.le_of_lt h2.1)) h2.2
  exact ⟨Int.le_trans (by decide) h3.1, Int.le_trans h3.2 (by decide)⟩
@[reducible] def sAt : Spec := { pats := [.dat ProgT, .dat (.sl I64)], res := [{ t := CornerT }, { t := .bool }], pre := fun x => goodA x.1.2.2.1 x.2.1, f := fun x => atR x.1.2.2.1 x.2.1 }
def aA1 (b : List BndD) (l : List Int) : LoopAnn := { σ := Nat, pat := fun k => sI 28 k :: (sOwn2 6 60006 76 (rowsP b l k) ++ sOwn 8 60008 3 (rhsP b l k)), inv := fun k => k ≤ l.length, meas := fun k => l.length - k }
def aA2 (b : List BndD) (l : List Int) : LoopAnn := { σ := Nat, pat := fun k => [sI 64 k], inv := fun k => k ≤ b.length ∧ okAll b (atX b l).1 (atX b l).2.1 k = true, meas := fun k => b.length - k }
def aA3 (b : List BndD) (l : List Int) : LoopAnn := { σ := Nat, pat := fun k => sI 81 k :: sOwn2 7 60007 76 (colsP (rowsP b l l.length) k), inv := fun k => k ≤ l.length, meas := fun k => l.length - k }
def aA4 (b : List BndD) (l : List Int) (st : St) : LoopAnn := withI 81 st fun j => { σ := Nat, pat := fun i => sI 86 i :: sOwn 17 60017 3 (colP (rowsP b l l.length) j.toNat i), inv := fun i => i ≤ l.length, meas := fun i => l.length - i }
def aA5 (b : List BndD) (l : List Int) : LoopAnn := { σ := Nat, pat := fun k => [sI 129 k, .cell 23 0 (.d (.sl I64) (atX b l).1), cI 23 1 (atX b l).2.1, cI 23 3 (atY b l).2.1, .cell 23 2 (.o 124 (b.length)), .row 124 3 I64 (wsP b.length l (atY b l).1 k)], inv := fun k => k ≤ l.length, meas := fun k => l.length - k }
theorem h164 : Ok 164 sAt := by
  refine mk (ctr := [(105, sDot), (108, sMin), (162, sUnit), (180, sSolve)]) ⟨h105, h108, h162, hSolve, trivial⟩ (nt := 144) Tryz.func164 rfl rfl rfl rfl (by kernel_rfl) (by kernel_rfl) (fun x => [fun _ => aA1 x.1.2.2.1 x.2.1, fun _ => aA2 x.1.2.2.1 x.2.1, fun _ => aA3 x.1.2.2.1 x.2.1, aA4 x.1.2.2.1 x.2.1, fun _ => aA5 x.1.2.2.1 x.2.1]) ?_
  rintro ⟨⟨(s : Int), (n : Int), (b : List BndD), _⟩, (l : List Int), _⟩ (h : goodA b l)
  repeat' (intro hzz; (try (rename Two => hq; cases hq)); (try dsimp only at hzz); (try simp only [resTy, argTy, eqD, inR, big, wantOf, zB] at hzz); (try simp only [resTy, argTy, eqD, inR, big, wantOf, zB, getD_l, getD_i, getD_0, getD_l2, getD_i2, Int.toNat_natCast, tab_len, zero_toNat, List.length_append, rows_len, rhs_len] at hzz); (try (revert hzz; intro _)))
  all_goals try (rename Unit => hq; clear hq)
  all_goals try ((with_reducible refine Held.mk ?_); (with_reducible (first | refine Frz.mk ?_ | refine And.intro (Frz.mk ?_) ?_ | refine And.intro ?_ (Frz.mk ?_))); repeat' first | exact True.intro | (change _ = _; with_reducible rfl) | refine And.intro ?_ ?_ | (with_reducible refine Frz.mk ?_))
  all_goals try (refine Held.mk ?_; (try dsimp only at *); (try simp only [resTy, argTy, eqD, inR, big, wantOf, zB] at *); (try simp only [resTy, argTy, eqD, inR, big, wantOf, zB, getD_l, getD_i, getD_0, getD_l2, getD_i2, Int.toNat_natCast, tab_len, zero_toNat, List.length_append, rows_len, rhs_len] at *))
  all_goals try omega
  all_goals have hg0 : goodA b l := by assumption
  all_goals have hp := hg0.pos
  all_goals have hl := hg0.le
  all_goals have hbl := hg0.ble
  ·
    refine GHeld.mk ?_
    refine Exists.intro (0 : Nat) ?_
    refine And.intro (Leaf.mk ?_) ?_
    · repeat' first | exact True.intro | refine And.intro ?_ ?_
      all_goals try ((change _ = _ <;> try dsimp only) <;> try with_reducible rfl)
      all_goals try omega
      all_goals (rfl)
    exact Nat.zero_le _
  · rename_i k hk hg
    have h1 := hg0.idx k (by omega)
    exact ⟨h1.1, by have h2 := h1.2; show vI l k < (b.length : Int); omega⟩
  · rename_i k hk hg
    show k + 1 ≤ 2147483648; omega
  · rename_i k hk hg
    have h1 := hg0.idx k (by omega)
    exact ⟨h1.1, by have h2 := h1.2; show vI l k < (b.length : Int); omega⟩
  · rename_i k hk hg
    show k + 1 ≤ 2147483648; omega
  · omega
  · rename_i k hk hg
    refine GHeld.mk ?_
    refine Exists.intro (k + 1) ?_
    refine And.intro (Leaf.mk ?_) ?_
    · repeat' first | exact True.intro | refine And.intro ?_ ?_
      all_goals try ((change _ = _ <;> try dsimp only) <;> try with_reducible rfl)
      all_goals try omega
      all_goals (rfl)
    exact ⟨by show k + 1 ≤ l.length; omega, by show l.length - (k + 1) < l.length - k; omega⟩
  · rename_i k hk hg
    rw [show k = l.length by omega]
    exact pX hg0
  · rename_i k hk hg hx
    rw [show k = l.length by omega] at hx
    rw [at_1 hx]; exact ⟨⟨rfl, rfl, rfl, rfl⟩, rfl⟩
  · rename_i k hk hg hx
    refine GHeld.mk ?_
    refine Exists.intro (0 : Nat) ?_
    refine And.intro (Leaf.mk ?_) ?_
    · repeat' first | exact True.intro | refine And.intro ?_ ?_
      all_goals try ((change _ = _ <;> try dsimp only) <;> try with_reducible rfl)
      all_goals try omega
      all_goals (rfl)
    exact ⟨Nat.zero_le _, rfl⟩
  · rename_i q hq hq2 hx k hk hg
    rw [show q = l.length by omega] at hx ⊢
    exact p_dot hg0 hx (by omega)
  · rename_i q hq hq2 hx k hk hg
    rw [show q = l.length by omega] at hx ⊢
    exact p_most hg0 hx (by omega)
  · rename_i q hq hq2 hx k hk hg hn
    rw [show q = l.length by omega] at hx hn
    have ho : okB b (atX b l).1 (atX b l).2.1 k = false := decide_eq_false (Int.not_le.2 hn)
    rw [at_2 hx (okAll_no ho _ (by omega))]; exact ⟨⟨rfl, rfl, rfl, rfl⟩, rfl⟩
  · omega
  · rename_i q hq hq2 hx k hk hg hn
    rw [show q = l.length by omega] at hx hn
    have ho : okB b (atX b l).1 (atX b l).2.1 k = true := decide_eq_true hn
    refine GHeld.mk ?_
    refine Exists.intro (k + 1) ?_
    refine And.intro (Leaf.mk ?_) ?_
    · repeat' first | exact True.intro | refine And.intro ?_ ?_
      all_goals try ((change _ = _ <;> try dsimp only) <;> try with_reducible rfl)
      all_goals try omega
      all_goals (rfl)
    exact ⟨⟨by show k + 1 ≤ b.length; omega, by show (okAll b (atX b l).1 (atX b l).2.1 k && okB b (atX b l).1 (atX b l).2.1 k) = true; rw [hk.2, ho]; rfl⟩, by show b.length - (k + 1) < b.length - k; omega⟩
  · rename_i q hq hq2 hx k hk hg
    refine GHeld.mk ?_
    refine Exists.intro (0 : Nat) ?_
    refine And.intro (Leaf.mk ?_) ?_
    · repeat' first | exact True.intro | refine And.intro ?_ ?_
      all_goals try ((change _ = _ <;> try dsimp only) <;> try with_reducible rfl)
      all_goals try omega
      all_goals (rfl)
    exact Nat.zero_le _
  · rename_i q hq hq2 hx k hk hg j hj hgj
    refine GHeld.mk ?_
    refine Exists.intro (0 : Nat) ?_
    refine And.intro (Leaf.mk ?_) ?_
    · repeat' first | exact True.intro | refine And.intro ?_ ?_
      all_goals try ((change _ = _ <;> try dsimp only) <;> try with_reducible rfl)
      all_goals try omega
      all_goals (rfl)
    exact Nat.zero_le _
  · rename_i q hq hq2 hx k hk hg j hj hgj i hi hgi
    have e : q = l.length := by omega
    subst e
    have h1 : (rowN (rowsP b l l.length) i).length = l.length := by
      rw [rows_row (by omega)]
      exact hg0.len _ (hg0.idx i (by omega)).2
    show 0 ≤ (j : Int) ∧ (j : Int) < ((rowN (rowsP b l l.length) i).length : Int)
    omega
  · rename_i q hq hq2 hx k hk hg j hj hgj i hi hgi
    rw [show (colP (rowsP b l l.length) j i).length = i from tab_len _ _]
    show i + 1 ≤ 2147483648; omega
  · omega
  · rename_i q hq hq2 hx k hk hg j hj hgj i hi hgi
    have e : q = l.length := by omega
    subst e
    refine GHeld.mk ?_
    refine Exists.intro (i + 1) ?_
    refine And.intro (Leaf.mk ?_) ?_
    · repeat' first | exact True.intro | refine And.intro ?_ ?_
      all_goals try ((change _ = _ <;> try dsimp only) <;> try with_reducible rfl)
      all_goals try omega
      all_goals (rfl)
    exact ⟨by show i + 1 ≤ l.length; omega, by show l.length - (i + 1) < l.length - i; omega⟩
  · rename_i q hq hq2 hx k hk hg j hj hgj i hi hgi
    rw [show (colsP (rowsP b l l.length) j).length = j from tab_len _ _]
    show j + 1 ≤ 2147483648; omega
  · omega
  · rename_i q hq hq2 hx k hk hg j hj hgj i hi hgi
    have e : i = (rowsP b l l.length).length := by rw [rows_len]; omega
    subst e
    refine GHeld.mk ?_
    refine Exists.intro (j + 1) ?_
    refine And.intro (Leaf.mk ?_) ?_
    · repeat' first | exact True.intro | refine And.intro ?_ ?_
      all_goals try ((change _ = _ <;> try dsimp only) <;> try with_reducible rfl)
      all_goals try omega
      all_goals (rfl)
    exact ⟨by show j + 1 ≤ l.length; omega, by show l.length - (j + 1) < l.length - j; omega⟩
  · omega
  · rename_i q hq hq2 hx k hk hg j hj hgj
    show pUnit (q : Int) ((q : Int) - 1)
    exact ⟨by omega, by omega, by omega, by omega⟩
  · rename_i q hq hq2 hx k hk hg j hj hgj
    have e : q = l.length := by omega
    subst e
    rw [show j = (rowsP b l l.length).length by rw [rows_len]; omega]
    exact pY hg0
  · rename_i q hq hq2 hx k hk hg j hj hgj
    have e : q = l.length := by omega
    subst e
    rw [show j = (rowsP b l l.length).length by rw [rows_len]; omega]
    have h1 := y_len hg0 hx
    show pMx (atY b l).1.length
    rw [h1]
    exact ⟨hp, (show (l.length : Int) ≤ 4611686018427387904 by omega)⟩
  · rename_i q hq hq2 hx k hk hg j hj hgj hn
    have e : q = l.length := by omega
    subst e
    rw [show j = (rowsP b l l.length).length by rw [rows_len]; omega] at hn
    have h1 := y_len hg0 hx
    have hn : mn (atY b l).1 ((atY b l).1.length - 1) < 0 := hn
    rw [h1] at hn
    have ho := hk.2
    rw [show k = b.length by have := hk.1; omega] at ho
    rw [at_3 hx ho hn]; exact ⟨⟨rfl, rfl, rfl, rfl⟩, rfl⟩
  · show 0 ≤ (b.length : Int) ∧ (b.length : Int) ≤ ((2147483648 : Nat) : Int)
    omega
  · rename_i q hq hq2 hx k hk hg j hj hgj hn
    have e : q = l.length := by omega
    subst e
    have e : j = (rowsP b l l.length).length := by rw [rows_len]; omega
    subst e
    refine GHeld.mk ?_
    refine Exists.intro (0 : Nat) ?_
    refine And.intro (Leaf.mk ?_) ?_
    · repeat' first | exact True.intro | refine And.intro ?_ ?_
      all_goals try ((change _ = _ <;> try dsimp only) <;> try with_reducible rfl)
      all_goals try omega
      all_goals (first | rfl | exact repl_len _ _ | exact (repl_len _ _).symm | exact congrArg (fun z => z.2.1) y_eq | exact congrArg (fun z => z.2.1) y_eq2 | exact (congrArg (fun z => z.2.1) y_eq).symm)
    exact Nat.zero_le _
  · rename_i q hq hq2 hx k hk hg j hj hgj hn i hi hgi
    have e : q = l.length := by omega
    subst e
    have e : j = l.length := by omega
    subst e
    have h1 := y_len hg0 hx
    rw [← y_eq2] at h1
    show 0 ≤ (i : Int) ∧ (i : Int) < ((solveR (colsP (rowsP b l l.length) l.length) (unitL (l.length : Int) ((l.length : Int) - 1) 1)).1.length : Int)
    rw [h1]; omega
  · rename_i q hq hq2 hx k hk hg j hj hgj hn i hi hgi
    have h1 := hg0.idx i (by omega)
    exact ⟨h1.1, by have h2 := h1.2; show vI l i < (b.length : Int); omega⟩
  · rename_i q hq hq2 hx k hk hg j hj hgj hn i hi hgi
    have h1 := hg0.idx i (by omega)
    rw [ws_len]
    exact ⟨h1.1, by have h2 := h1.2; show vI l i < (b.length : Int); omega⟩
  · omega
  · rename_i q hq hq2 hx k hk hg j hj hgj hn i hi hgi
    have e : q = l.length := by omega
    subst e
    have e : j = l.length := by omega
    subst e
    have e : (wsP b.length l (atY b l).1 i).set (vI l i).toNat (vI (solveR (colsP (rowsP b l l.length) l.length) (unitL (l.length : Int) ((l.length : Int) - 1) 1)).1 i) = wsP b.length l (atY b l).1 (i + 1) := by rw [y_eq2]; rfl
    have e3 : (wsP b.length l (atY b l).1 i).set (vI l i).toNat (vI (solveR (colsP (rowsP b l l.length) l.length) (unitL ((rowsP b l l.length).length : Int) (((rowsP b l l.length).length : Int) - 1) 1)).1 i) = wsP b.length l (atY b l).1 (i + 1) := by rw [rows_len]; exact e
    refine GHeld.mk ?_
    refine Exists.intro (i + 1) ?_
    refine And.intro (Leaf.mk ?_) ?_
    · repeat' first | exact True.intro | refine And.intro ?_ ?_
      all_goals try ((change _ = _ <;> try dsimp only) <;> try with_reducible rfl)
      all_goals try omega
      all_goals (first | rfl | exact e | exact e.symm | exact e3 | exact e3.symm)
    exact ⟨by show i + 1 ≤ l.length; omega, by show l.length - (i + 1) < l.length - i; omega⟩
  all_goals try first | exact (ws_len _).symm | exact ws_len _ | exact (repl_len _ _).trans ((Int.toNat_natCast _).trans (ws_len _).symm)
  · rename_i q hq hq2 hx k hk hg j hj hgj hn i hi hgi
    have e : q = l.length := by omega
    subst e
    have e : j = l.length := by omega
    subst e
    have h1 := y_len hg0 hx
    have hn : ¬ mn (solveR (colsP (rowsP b l l.length) l.length) (unitL (l.length : Int) ((l.length : Int) - 1) 1)).1 ((solveR (colsP (rowsP b l l.length) l.length) (unitL (l.length : Int) ((l.length : Int) - 1) 1)).1.length - 1) < 0 := by
      exact Int.not_lt.2 hn
    rw [y_eq2, h1] at hn
    have ho := hk.2
    rw [show k = b.length by have := hk.1; omega] at ho
    rw [at_4 hx ho hn, show i = l.length by omega]; exact ⟨⟨rfl, rfl, rfl, rfl⟩, rfl⟩
end Go.Eng.Ar

namespace Go.Eng.Ar
open Go.Eng Go.Proofs
set_option linter.all false
set_option maxRecDepth 100000
set_option maxHeartbeats 1000000
theorem asR (a : Act) (w : World) (o : Oper) (x : Operand) (ho : o.op = .assign x) {v : Value} (hx : a.eval x = v) : (execOp a.eval o).run Tryz.prog w = .ok (.value v) w := by
  simp [execOp, ho, hx]
theorem agg202 (w : World) : (isAgg 202).run Tryz.prog w = .ok false w := by
  simp [isAgg, run_underlying Tryz.underlying202]
theorem agg234 (w : World) : (isAgg 234).run Tryz.prog w = .ok false w := by
  simp [isAgg, run_underlying Tryz.underlying234]
theorem ldF {t : Nat} (hag : ∀ w, (isAgg t).run Tryz.prog w = .ok false w) (a : Act) (w : World) (o : Oper) (x : Operand) (ho : o.op = .load t x) {b el : Nat} {cur : Array Value} {f : Nat × Nat} {v : Value} (hx : a.eval x = .pointer (some ⟨b, 0, none⟩)) (hb : w.heap[b]? = some (.cells cur el f)) (hv : cur[0]? = some v) :
    (execOp a.eval o).run Tryz.prog w = .ok (.value v) w := by
  have hl : (loadVar t ⟨b, 0, none⟩).run Tryz.prog w = .ok v w := by
    have hc : w.cell? ⟨b, 0, none⟩ = some v := by rw [cell_of hb]; exact hv
    simp [loadVar, hag, hc]
  simp [execOp, ho, hx, Instr.loadAt, Instr.sureAddr, hl]
theorem lnR {t el : Nat} (hd' : Tryz.prog.underlying t = some (.slice el)) (a : Act) (w : World) (o : Oper) (x : Operand) (ho : o.op = .call { callee := .builtin .len, args := #[x], argTypes := #[t] }) {ad : Option Addr} {n c : Nat} (hx : a.eval x = .slice ad n c) : (execOp a.eval o).run Tryz.prog w = .ok (.value (.int .i64 n)) w := by
  simp [execOp, ho, hx, resolve, Deferred.ofValue, invoke, builtin, Builtin.len_, run_underlying hd', goInt]
theorem eqR (a : Act) (w : World) (o : Oper) (x y : Operand) (ho : o.op = .binOp .eql 3 x y 3) {m n : Int} (hx : a.eval x = .int .i64 m) (hy : a.eval y = .int .i64 n) : (execOp a.eval o).run Tryz.prog w = .ok (.value (.bool (decide (m = n)))) w := by
  simp [execOp, ho, hx, hy, eqGuard, binOp, Op.intCmp]; rfl
theorem ltR (a : Act) (w : World) (o : Oper) (x y : Operand) (ho : o.op = .binOp .lss 3 x y 3) {m n : Int} (hx : a.eval x = .int .i64 m) (hy : a.eval y = .int .i64 n) : (execOp a.eval o).run Tryz.prog w = .ok (.value (.bool (decide (m < n)))) w := by
  simp [execOp, ho, hx, hy, eqGuard, binOp, Op.intCmp]
theorem adR (a : Act) (w : World) (o : Oper) (x y : Operand) (ho : o.op = .binOp .add 3 x y 3) {m n : Int} (hx : a.eval x = .int .i64 m) (hy : a.eval y = .int .i64 n) (hr : -9223372036854775808 ≤ m + n ∧ m + n ≤ 9223372036854775807) : (execOp a.eval o).run Tryz.prog w = .ok (.value (.int .i64 (m + n))) w := by
  simp [execOp, ho, hx, hy, eqGuard, binOp, Op.intArith, wrap_i64 hr]
theorem suR (a : Act) (w : World) (o : Oper) (x y : Operand) (ho : o.op = .binOp .sub 3 x y 3) {m n : Int} (hx : a.eval x = .int .i64 m) (hy : a.eval y = .int .i64 n) (hr : -9223372036854775808 ≤ m - n ∧ m - n ≤ 9223372036854775807) : (execOp a.eval o).run Tryz.prog w = .ok (.value (.int .i64 (m - n))) w := by
  simp [execOp, ho, hx, hy, eqGuard, binOp, Op.intArith, wrap_i64 hr]
theorem ntR (a : Act) (w : World) (o : Oper) (x : Operand) (ho : o.op = .unOp .not 4 x) {v : Bool} (hx : a.eval x = .bool v) : (execOp a.eval o).run Tryz.prog w = .ok (.value (.bool !v)) w := by
  simp [execOp, ho, hx, Op.unary]
theorem bsR (a : Act) (w : World) (o : Oper) (x : Operand) (ho : o.op = .buildSlice 76 1 #[(0, x)]) {n : Int} (hx : a.eval x = .int .i64 n) : (execOp a.eval o).run Tryz.prog w = .ok (.value (.slice (some ⟨w.heap.size, 0, none⟩) 1 1)) (w.alloc (.cells #[.int .i64 n] 3 (0, 0))) := by
  have hS := run_sizeOf row3 w
  have hs : i3.size = 1 := rfl
  have hf : Instr.fill (fun i => some (i, 1)) (Array.map (fun x => (Value.int IntKind.i64 0).cells[x % (Value.int IntKind.i64 0).cells.size]!) (Array.range 1)) [(0, Value.int IntKind.i64 n)] = some #[.int .i64 n] := by
    have e : Array.range 1 = #[0] := rfl
    rw [e]
    simp [Instr.fill, Value.cells]
  simp [execOp, ho, hx, Instr.buildSlice, run_underlying Tryz.underlying76, hS, hs, hf, newRow]
theorem slR (a : Act) (w : World) (o : Oper) (x y : Operand) (ho : o.op = .slice 76 x none (some y) none) {b n c m : Nat} (hx : a.eval x = .slice (some ⟨b, 0, none⟩) n c) (hy : a.eval y = .int .i64 (m : Int)) (hm : m ≤ c) : (execOp a.eval o).run Tryz.prog w = .ok (.value (.slice (some ⟨b, 0, none⟩) m c)) w := by
  have hS := run_sizeOf row3 w
  have hs : i3.size = 1 := rfl
  have hb : (Instr.sliceBounds true n c none (some (.int .i64 (m : Int))) none).run Tryz.prog w = .ok (0, m, c) w := by
    have b1 := run_sliceBound (P := Tryz.prog) .i64 (n := (m : Int)) (y := c) .sliceAcap w (by omega) (by omega)
    simp [Instr.sliceBounds, b1]
  simp [execOp, ho, hx, hy, Instr.sliceAt, Instr.slice, run_underlying Tryz.underlying76, hS, hs, hb]
  intro _; rw [add_none]
/-! ### A growing list of numbers -/
def rowI (xs : List Int) (c : Nat) (cur : Array Value) : Prop := cur.size = c ∧ xs.length ≤ c ∧ c ≤ maxLen ∧ ∀ (i : Nat) (x : Int), xs[i]? = some x → cur[i]? = some (.int .i64 x)
theorem rowI_in {V : View} {xs : List Int} {c : Nat} {cur : Array Value} (h : rowI xs c cur) : RowIn V I64 xs c cur := by
  refine ⟨by show cur.size = c * 1; rw [h.1, Nat.mul_one], h.2.1, h.2.2.1, fun i x hx => ?_⟩
  have h1 := h.2.2.2 i x hx
  have h2 : i < cur.toList.length := by have := (Array.getElem?_eq_some_iff.1 h1).1; simpa using this
  show (cur.toList.drop (i * 1)).take 1 = [.int .i64 x]
  rw [Nat.mul_one, List.drop_eq_getElem_cons h2]
  have h3 : cur.toList[i] = .int .i64 x := by
    have := (Array.getElem?_eq_some_iff.1 h1).2
    simpa using this
  simp [h3]
theorem in_rowI {V : View} {xs : List Int} {c : Nat} {cur : Array Value} (h : RowIn V I64 xs c cur) : rowI xs c cur := by
  refine ⟨by have : cur.size = c * 1 := h.1; omega, h.2.1, h.2.2.1, fun i x hx => ?_⟩
  have h1 : (cur.toList.drop (i * 1)).take 1 = [.int .i64 x] := h.2.2.2 i x hx
  have h2 := congrArg (fun l => l[0]?) h1
  simpa [List.getElem?_take, List.getElem?_drop] using h2
def LD (B : Nat) (w : World) (v : Value) (xs : List Int) : Prop :=
  (xs = [] ∧ v = .slice none 0 0) ∨ ∃ ls c cur, B ≤ ls ∧ w.heap[ls]? = some (.cells cur 3 (0, 0)) ∧ v = .slice (some ⟨ls, 0, none⟩) xs.length c ∧ rowI xs c cur
theorem ld_len {B : Nat} {w : World} {v : Value} {xs : List Int} (h : LD B w v xs) : ∃ ad c, v = .slice ad xs.length c := by
  rcases h with ⟨rfl, rfl⟩ | ⟨ls, c, cur, _, _, rfl, _⟩
  · exact ⟨none, 0, rfl⟩
  · exact ⟨_, c, rfl⟩
theorem ld_mono {B : Nat} {w w' : World} {v : Value} {xs : List Int} (h : LD B w v xs) (hk : ∀ b, B ≤ b → b < w.heap.size → w'.heap[b]? = w.heap[b]?) : LD B w' v xs := by
  rcases h with h | ⟨ls, c, cur, h1, h2, h3, h4⟩
  · exact .inl h
  · exact .inr ⟨ls, c, cur, h1, (hk ls h1 (lt_of_heap h2)).trans h2, h3, h4⟩
theorem ld_cut {B : Nat} {w : World} {v : Value} {xs : List Int} {n : Int} (h : LD B w v (xs ++ [n])) : ∃ ls c, v = .slice (some ⟨ls, 0, none⟩) (xs.length + 1) c ∧ xs.length ≤ c ∧ LD B w (.slice (some ⟨ls, 0, none⟩) xs.length c) xs := by
  rcases h with ⟨h, _⟩ | ⟨ls, c, cur, h1, h2, h3, h4⟩
  · simp at h
  · have hl : xs.length + 1 ≤ c := by simpa using h4.2.1
    refine ⟨ls, c, by simpa using h3, by omega, .inr ⟨ls, c, cur, h1, h2, rfl, h4.1, by omega, h4.2.2.1, fun i x hx => ?_⟩⟩
    have hi : i < xs.length := (List.getElem?_eq_some_iff.1 hx).1
    exact h4.2.2.2 i x (by rw [List.getElem?_append_left hi]; exact hx)
structure Bel (B : Nat) (w w' : World) : Prop where
  os : w'.os = w.os
  tape : w'.tape = w.tape
  output : w'.output = w.output
  size : w.heap.size ≤ w'.heap.size
  keep : ∀ b, b < B → b < w.heap.size → w'.heap[b]? = w.heap[b]?
theorem Bel.refl (B : Nat) (w : World) : Bel B w w := ⟨rfl, rfl, rfl, Nat.le_refl _, fun _ _ _ => rfl⟩
theorem Bel.trans {B : Nat} {w w' w'' : World} (h : Bel B w w') (k : Bel B w' w'') : Bel B w w'' :=
  ⟨k.os.trans h.os, k.tape.trans h.tape, k.output.trans h.output, Nat.le_trans h.size k.size, fun b hb hs => (k.keep b hb (Nat.lt_of_lt_of_le hs h.size)).trans (h.keep b hb hs)⟩
theorem Bel.le {B B' : Nat} {w w' : World} (h : Bel B w w') (hb : B' ≤ B) : Bel B' w w' := ⟨h.os, h.tape, h.output, h.size, fun b hb' => h.keep b (Nat.lt_of_lt_of_le hb' hb)⟩
theorem bel_alloc {B : Nat} {w : World} {o : Obj} : Bel B w (w.alloc o) := by
  refine ⟨rfl, rfl, rfl, ?_, fun b _ hs => ?_⟩
  · show w.heap.size ≤ (w.heap.push o).size
    rw [Array.size_push]; exact Nat.le_succ _
  · show (w.heap.push o)[b]? = w.heap[b]?
    rw [Array.getElem?_push, if_neg (Nat.ne_of_lt hs)]
theorem bel_setRow {B g : Nat} {w : World} {c : Array Value} (h : B ≤ g) : Bel B w (w.setRow g c) := by
  refine ⟨rfl, rfl, rfl, by simp [World.setRow], fun b hb _ => ?_⟩
  exact setRow_other w g b c (by omega)
theorem apR (a : Act) (w : World) (o : Oper) (x y : Operand) (ho : o.op = .call { callee := .builtin .append, args := #[x, y], argTypes := #[76, 76] }) {B : Nat} {v : Value} {xs : List Int} {n : Int} {b1 : Nat} (hx : a.eval x = v) (hv : LD B w v xs) (hl : xs.length + 1 ≤ 1000) (hy : a.eval y = .slice (some ⟨b1, 0, none⟩) 1 1) (hb1 : w.heap[b1]? = some (.cells #[.int .i64 n] 3 (0, 0))) (hB : B ≤ w.heap.size) :
    ∃ v' w', (execOp a.eval o).run Tryz.prog w = .ok (.value v') w' ∧ LD B w' v' (xs ++ [n]) ∧ Bel B w w' := by
  obtain ⟨E, hE⟩ : ∃ E : Env, E = { P := Tryz.prog, M := fun _ => False, mu := fun _ => False, w0 := w, OB := OB, x := { mw := fun _ => True } } := ⟨_, rfl⟩
  have hP : E.P = Tryz.prog := by rw [hE]
  have hlow : ∀ b, E.low b := fun b => by rw [hE]; exact .inr trivial
  have main : ∀ (k : Option Nat) (η : Eta), ((v = .slice none 0 0 ∧ xs = []) ∨ ∃ kk b c cur, k = some kk ∧ η kk = some (b, c) ∧ E.low b ∧ w.heap[b]? = some (.cells cur 3 (0, 0)) ∧ v = .slice (some ⟨b, 0, none⟩) xs.length c ∧ RowIn (vw E η w) I64 xs c cur) →
      (∀ kk b c, k = some kk → η kk = some (b, c) → B ≤ b) → ∃ v' w', (execOp a.eval o).run Tryz.prog w = .ok (.value v') w' ∧ LD B w' v' (xs ++ [n]) ∧ Bel B w w' := by
    intro k η hb hBk
    obtain ⟨v', w', hr, hA⟩ := append_run (E := E) (η := η) (w := w) (t := 76) (ty := o.type) (el := 3) (ei := i3) (by rw [hP]; exact Tryz.underlying76) (by rw [hP]; exact row3) (e := I64) rfl (by decide) (by decide) (xs := xs) (ys := [n]) (by show xs.length + 1 ≤ 2147483648; omega) (k := k) (v1 := v) (ad2 := some ⟨b1, 0, none⟩) (c2 := 1) (fun _ => ⟨_, rfl⟩)
      (fun ad' h => by
        cases h
        refine ⟨[.int .i64 n], rfl, fun j u hj => ?_, fun u hu => ?_, fun i z hz => ?_⟩
        · have : j = 0 := by have := (List.getElem?_eq_some_iff.1 hj).1; simpa using this
          subst this
          rw [add_none, cell_of hb1]; simpa using hj
        · have : u = .int .i64 n := by simpa using hu
          rw [this]; rfl
        · have : i = 0 := by have := (List.getElem?_eq_some_iff.1 hz).1; simpa using this
          subst this
          have : n = z := by simpa using hz
          subst this
          rfl) hb
    have hexec : (execOp a.eval o).run Tryz.prog w = .ok (.value v') w' := by
      rw [hP] at hr
      simp only [List.length_cons, List.length_nil] at hr
      simp [execOp, ho, resolve, invoke, builtin, hx, hy, hr]
    refine ⟨v', w', hexec, ?_⟩
    rcases hA with ⟨h, _⟩ | ⟨c, cur, wd, rfl, rfl, q1, q2, q3, q4, q5⟩ | ⟨kk, b, c, cur, cur', q1, q2, q3, q4, rfl, rfl, q5⟩
    · simp at h
    · refine ⟨.inr ⟨w.heap.size, c, cur, hB, ?_, rfl, in_rowI q5⟩, ⟨q2, q3, q4, ?_, fun b hb hs => ?_⟩⟩
      · show (wd.heap.push (.cells cur 3))[w.heap.size]? = _
        rw [q1]; simp
      · show w.heap.size ≤ (wd.heap.push _).size
        rw [Array.size_push, q1]; exact Nat.le_succ _
      · show (wd.heap.push _)[b]? = w.heap[b]?
        rw [q1, Array.getElem?_push, if_neg (Nat.ne_of_lt hs)]
    · exact ⟨.inr ⟨b, c, cur', hBk kk b c q1 q2, setRow_heap w b cur cur' 3 (0, 0) q4, rfl, in_rowI q5⟩, bel_setRow (hBk kk b c q1 q2)⟩
  rcases hv with ⟨h1, h2⟩ | ⟨ls, c, cur, h1, h2, h3, h4⟩
  · exact main none (fun _ => none) (.inl ⟨h2, h1⟩) (fun kk b c h => by cases h)
  · exact main (some 0) (fun _ => some (ls, c)) (.inr ⟨0, ls, c, cur, rfl, rfl, hlow ls, h2, h3, rowI_in h4⟩) (fun kk b c _ h => by cases h; exact h1)
end Go.Eng.Ar

