/- Contract of det, for square matrices of at most 4 rows. Conditions: small numbers. -/
import Derived.Test.YtacgcendcdiodaaDoorL10
namespace Go.Eng.Lp
open Go.Eng Go.Proofs
set_option linter.all false
set_option maxRecDepth 100000
set_option maxHeartbeats 8000000

def sumD (f : List (List Int) → Int) (rows : List (List Int)) : Int → Nat → List Int → Int
  | _, _, [] => 0
  | sign, k, x :: r => sign * x * f (dropRow 0 k 0 rows) + sumD f rows (-sign) (k + 1) r
def detN : Nat → List (List Int) → Int
  | 0, _ => 1
  | n + 1, rows => sumD (detN n) rows 1 0 (rows.getD 0 [])

/-- N rows of N numbers, of at most 2000 in size. -/
def sqMat (N : Nat) (rows : List (List Int)) : Prop := rows.length = N ∧ ∀ r ∈ rows, r.length = N ∧ ∀ x ∈ r, -2000 ≤ x ∧ x ≤ 2000

def detB : Nat → Int
  | 0 => 1
  | n + 1 => (n + 1) * (2000 * detB n)

theorem dropRow_succ (c : Int) : ∀ (t : List (List Int)) (i : Nat), dropRow 0 c (i + 1) t = t.map (dropCol c 0)
  | [], _ => rfl
  | r :: t, i => by
    have h : ¬ ((i + 1 : Nat) : Int) = 0 := by omega
    simp only [dropRow, if_neg h, List.map_cons, dropRow_succ c t (i + 1)]

theorem dropCol_len (c : Nat) : ∀ (row : List Int) (k : Nat), (dropCol c k row).length = if k ≤ c ∧ c < k + row.length then row.length - 1 else row.length
  | [], k => by simp [dropCol]
  | n :: r, k => by
    have ih := dropCol_len c r (k + 1)
    simp only [dropCol, List.length_cons]
    by_cases h : (k : Int) = c
    · rw [if_pos h, ih, if_neg (by omega), if_pos (by omega)]
      rfl
    · rw [if_neg h, List.length_cons, ih]
      by_cases h2 : k + 1 ≤ c ∧ c < k + 1 + r.length
      · rw [if_pos h2, if_pos (by omega)]
        omega
      · rw [if_neg h2, if_neg (by omega)]

theorem dropCol_mem (c : Int) : ∀ (row : List Int) (k : Nat) (x : Int), x ∈ dropCol c k row → x ∈ row
  | [], _, _, h => by simp [dropCol] at h
  | n :: r, k, x, h => by
    simp only [dropCol] at h
    split at h
    · exact List.mem_cons_of_mem _ (dropCol_mem c r _ x h)
    · rcases List.mem_cons.1 h with rfl | h
      · exact List.mem_cons_self
      · exact List.mem_cons_of_mem _ (dropCol_mem c r _ x h)

theorem sq_drop {N k : Nat} {rows : List (List Int)} (h : sqMat (N + 1) rows) (hk : k < N + 1) : sqMat N (dropRow 0 k 0 rows) := by
  obtain ⟨h1, h2⟩ := h
  cases rows with
  | nil => simp at h1
  | cons r t =>
    have e : dropRow 0 k 0 (r :: t) = t.map (dropCol k 0) := by
      simp only [dropRow, Int.natCast_zero, if_true]
      exact dropRow_succ k t 0
    rw [e]
    refine ⟨by simp at h1 ⊢; omega, fun q hq => ?_⟩
    obtain ⟨p, hp, rfl⟩ := List.mem_map.1 hq
    obtain ⟨h3, h4⟩ := h2 p (List.mem_cons_of_mem _ hp)
    exact ⟨by rw [dropCol_len, if_pos (by omega)]; omega, fun x hx => h4 x (dropCol_mem _ _ _ _ hx)⟩

theorem mul_bd {x d X B : Int} (h1 : -X ≤ x) (h2 : x ≤ X) (h3 : -B ≤ d) (h4 : d ≤ B) : -(X * B) ≤ x * d ∧ x * d ≤ X * B := by
  have e : (x * d).natAbs = x.natAbs * d.natAbs := Int.natAbs_mul x d
  have hX : (X.toNat : Int) = X := Int.toNat_of_nonneg (by omega)
  have hB : (B.toNat : Int) = B := Int.toNat_of_nonneg (by omega)
  have h5 : x.natAbs * d.natAbs ≤ X.toNat * B.toNat := Nat.mul_le_mul (by omega) (by omega)
  have h6 : ((X.toNat * B.toNat : Nat) : Int) = X * B := by rw [Int.natCast_mul, hX, hB]
  omega

theorem sumD_le {f : List (List Int) → Int} {rows : List (List Int)} {N : Nat} {B : Int} (hf : ∀ k : Nat, k < N → -B ≤ f (dropRow 0 k 0 rows) ∧ f (dropRow 0 k 0 rows) ≤ B) :
    ∀ (l : List Int) (sign : Int) (k : Nat), (sign = 1 ∨ sign = -1) → k + l.length ≤ N → (∀ x ∈ l, -2000 ≤ x ∧ x ≤ 2000) → -(l.length * (2000 * B)) ≤ sumD f rows sign k l ∧ sumD f rows sign k l ≤ l.length * (2000 * B)
  | [], _, _, _, _, _ => by simp [sumD]
  | x :: r, sign, k, hs, hk, hx => by
    simp only [List.length_cons] at hk
    have ih := sumD_le hf r (-sign) (k + 1) (by omega) (by omega) (fun y hy => hx y (List.mem_cons_of_mem _ hy))
    have hx0 := hx x List.mem_cons_self
    have hf0 := hf k (by omega)
    have h1 : -2000 ≤ sign * x ∧ sign * x ≤ 2000 := by rcases hs with rfl | rfl <;> omega
    have h2 := mul_bd h1.1 h1.2 hf0.1 hf0.2
    simp only [sumD, List.length_cons]
    have e : (((r.length + 1 : Nat) : Int) * (2000 * B)) = (r.length : Int) * (2000 * B) + 2000 * B := by
      rw [Int.natCast_add, Int.add_mul]; simp
    rw [e]
    generalize (r.length : Int) * (2000 * B) = z at *
    omega

theorem detN_le : ∀ (n : Nat) (rows : List (List Int)), sqMat n rows → -(detB n) ≤ detN n rows ∧ detN n rows ≤ detB n
  | 0, rows, _ => by simp [detN, detB]
  | n + 1, rows, h => by
    have hr : (rows.getD 0 []).length = n + 1 ∧ ∀ x ∈ rows.getD 0 [], -2000 ≤ x ∧ x ≤ 2000 := by
      cases rows with
      | nil => have := h.1; simp at this
      | cons r t => exact h.2 r List.mem_cons_self
    have := sumD_le (f := detN n) (rows := rows) (N := n + 1) (B := detB n) (fun k hk => detN_le n _ (sq_drop h hk)) (rows.getD 0 []) 1 0 (.inl rfl) (by omega) hr.2
    rw [hr.1] at this
    simp only [detN, detB]
    push_cast at this
    exact this

@[reducible] def sDet (N : Nat) : Spec := { pats := [.dat MatT], res := [{ t := I64 }], pre := fun x => sqMat N x.1, f := fun x => (detN N x.1, ()) }
@[reducible] def sNever : Spec := { pats := [.dat MatT], res := [{ t := I64 }], pre := fun x => False, f := fun x => ((0 : Int), ()) }

theorem enters105 : Enters Tryd.prog 51 := ⟨Tryd.f51, Tryd.func51, by kernel_rfl, by kernel_rfl⟩
theorem never105 : Ok 51 sNever := ⟨fun w M x vs bs _ _ h => h.elim, enters105⟩

def detAnn (N : Nat) (rows : List (List Int)) : LoopAnn :=
  { σ := Nat × Int × Int, pat := fun s => [sI 14 s.1, sI 3 s.2.1, sI 4 s.2.2], inv := fun s => s.1 ≤ (rows.getD 0 []).length ∧ (s.2.2 = 1 ∨ s.2.2 = -1) ∧ s.2.1 + sumD (detN N) rows s.2.2 s.1 ((rows.getD 0 []).drop s.1) = detN (N + 1) rows ∧ -(s.1 * (2000 * detB N)) ≤ s.2.1 ∧ s.2.1 ≤ s.1 * (2000 * detB N), meas := fun s => (rows.getD 0 []).length - s.1 }

theorem getD_0 (xs : List (List Int)) : List.getD xs (Int.toNat 0) (Ty.dflt (.sl I64)) = xs.getD 0 [] := rfl

theorem row0 {N : Nat} {rows : List (List Int)} (h : sqMat (N + 1) rows) : (rows.getD 0 []).length = N + 1 ∧ ∀ k : Nat, k < N + 1 → -2000 ≤ (rows.getD 0 []).getD k 0 ∧ (rows.getD 0 []).getD k 0 ≤ 2000 := by
  cases rows with
  | nil => have := h.1; simp at this
  | cons r t =>
    obtain ⟨h1, h2⟩ := h.2 r List.mem_cons_self
    refine ⟨h1, fun k hk => ?_⟩
    have hk' : k < r.length := by omega
    have e : r.getD k 0 = r[k] := by simp [List.getD, List.getElem?_eq_getElem hk']
    change -2000 ≤ r.getD k 0 ∧ r.getD k 0 ≤ 2000
    rw [e]
    exact h2 _ (List.getElem_mem hk')

theorem sumD_step {f : List (List Int) → Int} {rows : List (List Int)} {sign : Int} {row : List Int} {k : Nat} (h : k < row.length) :
    sumD f rows sign k (row.drop k) = sign * row.getD k 0 * f (dropRow 0 k 0 rows) + sumD f rows (-sign) (k + 1) (row.drop (k + 1)) := by
  rw [drop_get h]; rfl

theorem detB_le {n : Nat} (h : n ≤ 4) : detB n ≤ 400000000000000 ∧ 0 ≤ detB n := by
  match n, h with
  | 0, _ => decide
  | 1, _ => decide
  | 2, _ => decide
  | 3, _ => decide
  | 4, _ => decide

abbrev detInv (N : Nat) (rows : List (List Int)) (k : Nat) (sum sign : Int) : Prop := k ≤ (rows.getD 0 []).length ∧ (sign = 1 ∨ sign = -1) ∧ sum + sumD (detN N) rows sign k ((rows.getD 0 []).drop k) = detN (N + 1) rows ∧ -(k * (2000 * detB N)) ≤ sum ∧ sum ≤ k * (2000 * detB N)

theorem dim_of_sq {N : Nat} {rows : List (List Int)} (h : sqMat N rows) (hN : N ≤ 4) : dimMat rows := ⟨by rw [h.1]; exact hN, fun r hr => by rw [(h.2 r hr).1]; exact hN⟩

theorem detRound {N : Nat} (hN : N < 4) {rows : List (List Int)} (hp : sqMat (N + 1) rows) {k : Nat} {sum sign : Int} (hi : detInv N rows k sum sign) (hk : k < (rows.getD 0 []).length) :
    (-9223372036854775808 ≤ sign * (rows.getD 0 []).getD k 0 * detN N (dropRow 0 k 0 rows) ∧ sign * (rows.getD 0 []).getD k 0 * detN N (dropRow 0 k 0 rows) ≤ 9223372036854775807) ∧
    (-9223372036854775808 ≤ sum + sign * (rows.getD 0 []).getD k 0 * detN N (dropRow 0 k 0 rows) ∧ sum + sign * (rows.getD 0 []).getD k 0 * detN N (dropRow 0 k 0 rows) ≤ 9223372036854775807) ∧
    detInv N rows (k + 1) (sum + sign * (rows.getD 0 []).getD k 0 * detN N (dropRow 0 k 0 rows)) (-sign) := by
  obtain ⟨i1, i2, i3, i4, i5⟩ := hi
  have hr := row0 hp
  have hx := hr.2 k (by omega)
  have hd := detN_le N _ (sq_drop hp (k := k) (by omega))
  have hB := detB_le (n := N) (by omega)
  have h1 : -2000 ≤ sign * (rows.getD 0 []).getD k 0 ∧ sign * (rows.getD 0 []).getD k 0 ≤ 2000 := by rcases i2 with rfl | rfl <;> omega
  have h2 := mul_bd h1.1 h1.2 hd.1 hd.2
  have e : (((k + 1 : Nat) : Int) * (2000 * detB N)) = (k : Int) * (2000 * detB N) + 2000 * detB N := by
    rw [Int.natCast_add, Int.add_mul]; simp
  have h3 : (k : Int) * (2000 * detB N) ≤ 4 * (2000 * detB N) := Int.mul_le_mul_of_nonneg_right (by omega) (by omega)
  rw [sumD_step hk] at i3
  refine ⟨by omega, by omega, by omega, by omega, by omega, ?_, ?_⟩
  · rw [e]; omega
  · rw [e]; omega

theorem det_zero : Ok 51 (sDet 0) := by
  refine mk (ctr := [(64, sWithout), (51, sNever)]) ⟨h104, never105, trivial⟩ (nt := 33) Tryd.func51 rfl rfl rfl rfl (by kernel_rfl) (by kernel_rfl) (fun x => [fun _ => detAnn 0 x.1]) ?_
  rintro ⟨(rows : List (List Int)), _⟩ (hp : sqMat 0 rows)
  have hl : rows.length = 0 := hp.1
  repeat' (intro hzz; (try (rename Two => hq; cases hq)); (try dsimp only at hzz); (try simp only [resTy, argTy, eqD, inR, big, wantOf, Bool.not_true, Bool.not_false, Bool.true_eq, decide_eq_true_eq, decide_eq_false_iff_not, Bool.not_eq_true', Bool.not_eq_false', Bool.and_eq_true, Prod.mk.injEq, and_true, true_and, Int.not_lt, Int.not_le, gt_iff_lt, ge_iff_le] at hzz); (try simp only [resTy, argTy, eqD, inR, big, wantOf, Bool.not_true, Bool.not_false, Bool.true_eq, decide_eq_true_eq, decide_eq_false_iff_not, Bool.not_eq_true', Bool.not_eq_false', Bool.and_eq_true, Prod.mk.injEq, and_true, true_and, Int.not_lt, Int.not_le, gt_iff_lt, ge_iff_le, getD_l, getD_i, getD_0] at hzz); (try (revert hzz; intro _)))
  all_goals try (rename Unit => hq; clear hq)
  all_goals try ((with_reducible refine Held.mk ?_); (with_reducible (first | refine Frz.mk ?_ | refine And.intro (Frz.mk ?_) ?_ | refine And.intro ?_ (Frz.mk ?_))); repeat' first | exact True.intro | (change _ = _; with_reducible rfl) | refine And.intro ?_ ?_ | (with_reducible refine Frz.mk ?_))
  all_goals try (refine Held.mk ?_; (try dsimp only at *); (try simp only [resTy, argTy, eqD, inR, big, wantOf, Bool.not_true, Bool.not_false, Bool.true_eq, decide_eq_true_eq, decide_eq_false_iff_not, Bool.not_eq_true', Bool.not_eq_false', Bool.and_eq_true, Prod.mk.injEq, and_true, true_and, Int.not_lt, Int.not_le, gt_iff_lt, ge_iff_le] at *); (try simp only [resTy, argTy, eqD, inR, big, wantOf, Bool.not_true, Bool.not_false, Bool.true_eq, decide_eq_true_eq, decide_eq_false_iff_not, Bool.not_eq_true', Bool.not_eq_false', Bool.and_eq_true, Prod.mk.injEq, and_true, true_and, Int.not_lt, Int.not_le, gt_iff_lt, ge_iff_le, getD_l, getD_i, getD_0] at *))
  all_goals try omega
  · rfl

theorem det_succ {N : Nat} (hN : N < 4) (ih : Ok 51 (sDet N)) : Ok 51 (sDet (N + 1)) := by
  refine mk (ctr := [(64, sWithout), (51, sDet N)]) ⟨h104, ih, trivial⟩ (nt := 33) Tryd.func51 rfl rfl rfl rfl (by kernel_rfl) (by kernel_rfl) (fun x => [fun _ => detAnn N x.1]) ?_
  rintro ⟨(rows : List (List Int)), _⟩ (hp : sqMat (N + 1) rows)
  repeat' (intro hzz; (try (rename Two => hq; cases hq)); (try dsimp only at hzz); (try simp only [resTy, argTy, eqD, inR, big, wantOf, Bool.not_true, Bool.not_false, Bool.true_eq, decide_eq_true_eq, decide_eq_false_iff_not, Bool.not_eq_true', Bool.not_eq_false', Bool.and_eq_true, Prod.mk.injEq, and_true, true_and, Int.not_lt, Int.not_le, gt_iff_lt, ge_iff_le] at hzz); (try simp only [resTy, argTy, eqD, inR, big, wantOf, Bool.not_true, Bool.not_false, Bool.true_eq, decide_eq_true_eq, decide_eq_false_iff_not, Bool.not_eq_true', Bool.not_eq_false', Bool.and_eq_true, Prod.mk.injEq, and_true, true_and, Int.not_lt, Int.not_le, gt_iff_lt, ge_iff_le, getD_l, getD_i, getD_0] at hzz); (try (revert hzz; intro _)))
  all_goals try (rename Unit => hq; clear hq)
  all_goals try ((with_reducible refine Held.mk ?_); (with_reducible (first | refine Frz.mk ?_ | refine And.intro (Frz.mk ?_) ?_ | refine And.intro ?_ (Frz.mk ?_))); repeat' first | exact True.intro | (change _ = _; with_reducible rfl) | refine And.intro ?_ ?_ | (with_reducible refine Frz.mk ?_))
  all_goals try (refine Held.mk ?_; (try dsimp only at *); (try simp only [resTy, argTy, eqD, inR, big, wantOf, Bool.not_true, Bool.not_false, Bool.true_eq, decide_eq_true_eq, decide_eq_false_iff_not, Bool.not_eq_true', Bool.not_eq_false', Bool.and_eq_true, Prod.mk.injEq, and_true, true_and, Int.not_lt, Int.not_le, gt_iff_lt, ge_iff_le] at *); (try simp only [resTy, argTy, eqD, inR, big, wantOf, Bool.not_true, Bool.not_false, Bool.true_eq, decide_eq_true_eq, decide_eq_false_iff_not, Bool.not_eq_true', Bool.not_eq_false', Bool.and_eq_true, Prod.mk.injEq, and_true, true_and, Int.not_lt, Int.not_le, gt_iff_lt, ge_iff_le, getD_l, getD_i, getD_0] at *))
  · have h := hp.1
    omega
  · have h := hp.1
    omega
  ·
    refine GHeld.mk ?_
    refine Exists.intro (0, 0, 1) ?_
    refine And.intro (Leaf.mk ?_) ?_
    · repeat' first | exact True.intro | refine And.intro ?_ ?_
      all_goals try ((change _ = _ <;> try dsimp only) <;> try with_reducible rfl)
      all_goals try omega
    refine ⟨Nat.zero_le _, .inl rfl, ?_, by simp, by simp⟩
    simp [detN]
  · rename_i h0 s hi hg
    exact ⟨Int.natCast_nonneg _, hg⟩
  · rename_i h0 s hi hg
    obtain ⟨k, sum, sign⟩ := s
    dsimp only at *
    have hr := row0 hp
    have hk : k < N + 1 := by omega
    have hx := hr.2 k hk
    have hs : sign = 1 ∨ sign = -1 := hi.2.1
    rcases hs with rfl | rfl <;> omega
  · exact dim_of_sq hp (by omega)
  · rename_i h0 s hi hg
    have hr := row0 hp
    exact sq_drop hp (by omega)
  · rename_i h0 s hi hg
    obtain ⟨k, sum, sign⟩ := s
    have hd := detRound hN hp hi (by dsimp only at hg; omega)
    exact hd.1
  · rename_i h0 s hi hg
    obtain ⟨k, sum, sign⟩ := s
    have hd := detRound hN hp hi (by dsimp only at hg; omega)
    exact hd.2.1
  · rename_i h0 s hi hg
    obtain ⟨k, sum, sign⟩ := s
    have hs : sign = 1 ∨ sign = -1 := hi.2.1
    dsimp only
    omega
  · rename_i h0 s hi hg
    obtain ⟨k, sum, sign⟩ := s
    have hr := row0 hp
    dsimp only at *
    omega
  · rename_i s hi hg
    obtain ⟨k, sum, sign⟩ := s
    all_goals try dsimp only at hg
    all_goals try simp only [resTy, argTy, eqD, inR, big, wantOf, Bool.not_true, Bool.not_false, Bool.true_eq, decide_eq_true_eq, decide_eq_false_iff_not, Bool.not_eq_true', Bool.not_eq_false', Bool.and_eq_true, Prod.mk.injEq, and_true, true_and, Int.not_lt, Int.not_le, gt_iff_lt, ge_iff_le] at hg
    all_goals try simp only [resTy, argTy, eqD, inR, big, wantOf, Bool.not_true, Bool.not_false, Bool.true_eq, decide_eq_true_eq, decide_eq_false_iff_not, Bool.not_eq_true', Bool.not_eq_false', Bool.and_eq_true, Prod.mk.injEq, and_true, true_and, Int.not_lt, Int.not_le, gt_iff_lt, ge_iff_le, getD_l, getD_i, getD_0] at hg
    have hk : k < (rows.getD 0 []).length := by omega
    have hd := detRound hN hp hi hk
    refine GHeld.mk ?_
    refine Exists.intro (k + 1, sum + sign * (rows.getD 0 []).getD k 0 * detN N (dropRow 0 k 0 rows), -sign) ?_
    refine And.intro (Leaf.mk ?_) ?_
    · repeat' first | exact True.intro | refine And.intro ?_ ?_
      all_goals try ((change _ = _ <;> try dsimp only) <;> try with_reducible rfl)
      all_goals try omega
      all_goals (rfl)
    refine ⟨hd.2.2, ?_⟩
    change (rows.getD 0 []).length - (k + 1) < (rows.getD 0 []).length - k
    omega
  · rename_i h0 s hi hg
    obtain ⟨k, sum, sign⟩ := s
    obtain ⟨i1, i2, i3, i4⟩ := hi
    dsimp only at *
    rw [List.drop_eq_nil_of_le (by omega)] at i3
    simpa [sumD] using i3

theorem h105 : ∀ N, N ≤ 4 → Ok 51 (sDet N)
  | 0, _ => det_zero
  | N + 1, h => det_succ (by omega) (h105 N (by omega))

end Go.Eng.Lp
