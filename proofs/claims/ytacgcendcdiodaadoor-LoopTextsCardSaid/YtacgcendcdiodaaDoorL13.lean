/- Contract of Minors. Conditions: none. -/
import Derived.Test.YtacgcendcdiodaaDoorL12
namespace Go.Eng.Lp
open Go.Eng Go.Proofs
set_option linter.all false
set_option maxRecDepth 100000
set_option maxHeartbeats 8000000

/-- Right lines: 1 to 4 rows of as many sizes. -/
structure Lines (rows : List (List Int)) : Prop where
  pos : 0 < rows.length
  le : rows.length ≤ 4
  len : ∀ r ∈ rows, r.length = rows.length
  val : ∀ r ∈ rows, ∀ n ∈ r, 0 ≤ n ∧ n ≤ 2000

theorem clRow_ok : ∀ {row : List Int}, clRow row = 0 → ∀ n ∈ row, 0 ≤ n ∧ n ≤ 2000
  | [], _, n, h => by cases h
  | x :: r, h, n, hn => by
    simp only [clRow] at h
    split at h
    · rename_i hx
      rcases List.mem_cons.1 hn with rfl | hn
      · exact hx
      · exact clRow_ok h n hn
    · omega

theorem clRows_ok {N : Nat} : ∀ {rows : List (List Int)}, clRows N rows = 0 → ∀ r ∈ rows, r.length = N ∧ ∀ n ∈ r, 0 ≤ n ∧ n ≤ 2000
  | [], _, r, h => by cases h
  | x :: t, h, r, hr => by
    simp only [clRows] at h
    split at h
    · rename_i hl
      split at h
      · rename_i hc
        rcases List.mem_cons.1 hr with rfl | hr
        · exact ⟨hl, clRow_ok hc⟩
        · exact clRows_ok h r hr
      · omega
    · omega

theorem lines_of {rows : List (List Int)} (h : fCheckLines rows = 0) : Lines rows := by
  unfold fCheckLines at h
  split at h
  · rename_i hc
    have h1 := count_le hc
    have h2 : 0 < rows.length := by
      simp only [fCountErr] at hc
      split at hc
      · omega
      · omega
    exact ⟨h2, h1, fun r hr => (clRows_ok h r hr).1, fun r hr => (clRows_ok h r hr).2⟩
  · rename_i hc; exact absurd h hc

theorem Lines.small {rows : List (List Int)} (h : Lines rows) : smallMat rows := ⟨h.le, fun r hr => ⟨by rw [h.len r hr]; exact h.le, h.val r hr⟩⟩

theorem rowI_len (i : Int) : ∀ (k : Nat) (r : List Int), (rowI i k r).length = r.length
  | _, [] => rfl
  | k, n :: r => by simp [rowI, rowI_len i (k + 1) r]
theorem matI_len : ∀ (i : Nat) (m : List (List Int)), (matI i m).length = m.length
  | _, [] => rfl
  | i, r :: t => by simp [matI, matI_len (i + 1) t]

theorem rowI_val {i : Int} : ∀ {k : Nat} {r : List Int}, (∀ n ∈ r, 0 ≤ n ∧ n ≤ 2000) → ∀ x ∈ rowI i k r, -2000 ≤ x ∧ x ≤ 2000
  | _, [], _, x, h => by cases h
  | k, n :: r, hr, x, hx => by
    simp only [rowI, List.mem_cons] at hx
    rcases hx with rfl | hx
    · have := hr n List.mem_cons_self
      simp only [cellI]
      split <;> omega
    · exact rowI_val (fun n hn => hr n (List.mem_cons_of_mem _ hn)) x hx

theorem matI_sq {N : Nat} : ∀ {i : Nat} {m : List (List Int)}, (∀ r ∈ m, r.length = N ∧ ∀ n ∈ r, 0 ≤ n ∧ n ≤ 2000) → ∀ r ∈ matI i m, r.length = N ∧ ∀ x ∈ r, -2000 ≤ x ∧ x ≤ 2000
  | _, [], _, r, h => by cases h
  | i, q :: t, hm, r, hr => by
    simp only [matI, List.mem_cons] at hr
    rcases hr with rfl | hr
    · have := hm q List.mem_cons_self
      exact ⟨by rw [rowI_len]; exact this.1, rowI_val this.2⟩
    · exact matI_sq (fun r hr => hm r (List.mem_cons_of_mem _ hr)) r hr

theorem Lines.sq {rows : List (List Int)} (h : Lines rows) : sqMat rows.length (matI 0 rows) :=
  ⟨matI_len 0 rows, matI_sq fun r hr => ⟨h.len r hr, h.val r hr⟩⟩

def fMinors (rows : List (List Int)) : List Int × Int := if fCheckLines rows = 0 then (minorsN (matI 0 rows), 0) else ([], fCheckLines rows)
@[reducible] def sMinors : Spec := { pats := [.dat LinesT], res := [{ t := .sl I64 }, { t := I64 }], pre := fun x => True, f := fun x => ((fMinors x.1.1).1, (fMinors x.1.1).2, ()) }

/-- Minors -/
theorem h41 : Ok 15 sMinors := by
  refine mk (ctr := [(34, sCheckLines), (35, sMatrixOf), (36, sMinorsM)]) ⟨h47, h93, h94, trivial⟩ (nt := 13) Tryd.func15 rfl rfl rfl rfl (by kernel_rfl) (by kernel_rfl) (fun _ => []) ?_
  rintro ⟨⟨(rows : List (List Int)), _⟩, _⟩ _
  repeat' (intro hzz; (try (rename Two => hq; cases hq)); (try dsimp only at hzz); (try simp only [resTy, argTy, eqD, inR, big, wantOf, Bool.not_true, Bool.not_false, Bool.true_eq, decide_eq_true_eq, decide_eq_false_iff_not, Bool.not_eq_true', Bool.not_eq_false', Bool.and_eq_true, Prod.mk.injEq, and_true, true_and, Int.not_lt, Int.not_le, gt_iff_lt, ge_iff_le] at hzz); (try (revert hzz; intro _)))
  all_goals try (rename Unit => hq; clear hq)
  all_goals try ((with_reducible refine Held.mk ?_); (with_reducible (first | refine Frz.mk ?_ | refine And.intro (Frz.mk ?_) ?_ | refine And.intro ?_ (Frz.mk ?_))); repeat' first | exact True.intro | (change _ = _; with_reducible rfl) | refine And.intro ?_ ?_ | (with_reducible refine Frz.mk ?_))
  all_goals try (refine Held.mk ?_; (try dsimp only at *); (try simp only [resTy, argTy, eqD, inR, big, wantOf, Bool.not_true, Bool.not_false, Bool.true_eq, decide_eq_true_eq, decide_eq_false_iff_not, Bool.not_eq_true', Bool.not_eq_false', Bool.and_eq_true, Prod.mk.injEq, and_true, true_and, Int.not_lt, Int.not_le, gt_iff_lt, ge_iff_le] at *))
  · rename_i h
    simp only [fMinors]
    rw [if_neg h]
    exact ⟨rfl, rfl⟩
  · rename_i h
    exact (lines_of h).small
  · rename_i h
    exact ⟨_, (lines_of h).le, (lines_of h).sq⟩
  · rename_i h
    simp only [fMinors]
    rw [if_pos h]
    exact ⟨rfl, rfl⟩

end Go.Eng.Lp
