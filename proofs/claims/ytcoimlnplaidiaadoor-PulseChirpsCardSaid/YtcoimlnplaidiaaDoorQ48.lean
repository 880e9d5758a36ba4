/- Contracts: lists turned: sums with signs, of the program and of the reference. Conditions: each contract's own. -/
import Derived.Test.YtcoimlnplaidiaaDoorQ47
import Derived.Test.YtcoimlnplaidiaaDoorQ18
namespace Go.Eng.Pu
open Go.Eng Go.Proofs
set_option linter.all false
set_option maxRecDepth 100000
set_option maxHeartbeats 8000000

def byP (a : IP) (n : Int) : IP := (a.1 * n, a.2.1 * n, ())
/-- The sign at a distance. -/
def sgA (sg : List Int) (m : Int) : Int := sg.getD (fMod m sg.length).toNat 0
/-- The sum of a list with signs. -/
def trV (ps : List IP) (sg : List Int) (a way : Int) : Nat → IP
  | 0 => (0, 0, ())
  | k + 1 => plusP (trV ps sg a way k) (byP (ps.getD k (0, 0, ())) (sgA sg (way * (a - k))))

def okS (sg : List Int) : Prop := ∀ i : Nat, -1 ≤ sg.getD i 0 ∧ sg.getD i 0 ≤ 1

theorem by_in {n s B : Int} (h1 : -B ≤ n) (h2 : n ≤ B) (h3 : -1 ≤ s) (h4 : s ≤ 1) : -B ≤ n * s ∧ n * s ≤ B := by
  rcases (show s = -1 ∨ s = 0 ∨ s = 1 by omega) with rfl | rfl | rfl
  · rw [Int.mul_neg, Int.mul_one]; omega
  · rw [Int.mul_zero]; omega
  · rw [Int.mul_one]; omega

theorem trV_in {ps : List IP} {sg : List Int} {a way : Int} (h : okL 16777216 ps) (hs : okS sg) : ∀ k : Nat, (-(k * 16777216) ≤ (trV ps sg a way k).1 ∧ (trV ps sg a way k).1 ≤ k * 16777216) ∧ (-(k * 16777216) ≤ (trV ps sg a way k).2.1 ∧ (trV ps sg a way k).2.1 ≤ k * 16777216)
  | 0 => by simp [trV]
  | k + 1 => by
    have ih := trV_in (a := a) (way := way) h hs k
    have hk := h k
    have hsk := hs (fMod (way * (a - k)) sg.length).toNat
    have b1 := by_in hk.1.1 hk.1.2 hsk.1 hsk.2
    have b2 := by_in hk.2.1 hk.2.2 hsk.1 hsk.2
    show (_ ≤ (trV ps sg a way k).1 + (ps.getD k (0, 0, ())).1 * sg.getD (fMod (way * (a - k)) sg.length).toNat 0 ∧ (trV ps sg a way k).1 + (ps.getD k (0, 0, ())).1 * sg.getD (fMod (way * (a - k)) sg.length).toNat 0 ≤ _) ∧ (_ ≤ (trV ps sg a way k).2.1 + (ps.getD k (0, 0, ())).2.1 * sg.getD (fMod (way * (a - k)) sg.length).toNat 0 ∧ (trV ps sg a way k).2.1 + (ps.getD k (0, 0, ())).2.1 * sg.getD (fMod (way * (a - k)) sg.length).toNat 0 ≤ _)
    omega

theorem fMod_in {m n : Int} (h : 0 < n) : 0 ≤ fMod m n ∧ fMod m n < n := ⟨Int.emod_nonneg _ (by omega), Int.emod_lt_of_pos _ h⟩

@[reducible] def sTurned : Spec := { pats := [.dat (.sl PairT), .dat (.sl I64), .dat I64, .dat I64], res := [{ t := PairT }], pre := fun x => List.length (α := IP) x.1 ≤ 1024 ∧ okL 16777216 x.1 ∧ (1 ≤ List.length (α := Int) x.2.1 ∧ List.length (α := Int) x.2.1 ≤ 1024) ∧ okS x.2.1 ∧ (0 ≤ x.2.2.1 ∧ x.2.2.1 ≤ (1024 : Int)) ∧ (x.2.2.2.1 = (1 : Int) ∨ x.2.2.2.1 = (-1 : Int)), f := fun x => (trV x.1 x.2.1 x.2.2.1 x.2.2.2.1 (List.length (α := IP) x.1), ()) }

/-- turned -/
theorem h96n : Ok 48 sTurned := by
  refine mk (ctr := [(68, sMod), (67, sBy), (37, sPlus)]) ⟨h109, h149, h122, trivial⟩ (nt := 36) Tryd.func48 rfl rfl rfl rfl (by kernel_rfl) (by kernel_rfl) (fun x => [fun _ => { σ := Nat, pat := fun k => [sI 14 k, .cell 9 0 (.d I64 (trV x.1 x.2.1 x.2.2.1 x.2.2.2.1 k).1), .cell 9 1 (.d I64 (trV x.1 x.2.1 x.2.2.1 x.2.2.2.1 k).2.1)], inv := fun k => k ≤ List.length (α := IP) x.1, meas := fun k => List.length (α := IP) x.1 - k }]) ?_
  rintro ⟨(ps : List IP), (sg : List Int), (a : Int), (way : Int), _⟩ ⟨(hl : ps.length ≤ 1024), (hp : okL 16777216 ps), ⟨(hs1 : 1 ≤ sg.length), (hs2 : sg.length ≤ 1024)⟩, (hs : okS sg), ⟨(ha : 0 ≤ a), (ha2 : a ≤ 1024)⟩, (hw : way = 1 ∨ way = -1)⟩
  have hwm : ∀ k : Nat, k < 1024 → -2000 ≤ way * (a - k) ∧ way * (a - k) ≤ 2000 := fun k hk => by
    rcases hw with rfl | rfl
    · rw [Int.one_mul]; omega
    · rw [Int.neg_mul, Int.one_mul]; omega
  repeat' (intro hzz; (try (rename Two => hq; cases hq)); (try dsimp only at hzz); (try simp only [resTy, argTy, eqD, inR, big, wantOf, Bool.not_true, Bool.not_false, Bool.true_eq, decide_eq_true_eq, decide_eq_false_iff_not, Bool.not_eq_true', Bool.not_eq_false', Bool.and_eq_true, Prod.mk.injEq, and_true, true_and, Int.not_lt, Int.not_le, gt_iff_lt, ge_iff_le] at hzz); (try simp only [resTy, argTy, eqD, inR, big, wantOf, Bool.not_true, Bool.not_false, Bool.true_eq, decide_eq_true_eq, decide_eq_false_iff_not, Bool.not_eq_true', Bool.not_eq_false', Bool.and_eq_true, Prod.mk.injEq, and_true, true_and, Int.not_lt, Int.not_le, gt_iff_lt, ge_iff_le, getD_p] at hzz); (try (first | contradiction | (exfalso; omega))); (try (revert hzz; intro _)))
  all_goals try (rename Unit => hq; clear hq)
  all_goals try ((with_reducible refine Held.mk ?_); (with_reducible (first | refine Frz.mk ?_ | refine And.intro (Frz.mk ?_) ?_ | refine And.intro ?_ (Frz.mk ?_))); repeat' first | exact True.intro | (change _ = _; with_reducible rfl) | refine And.intro ?_ ?_ | (with_reducible refine Frz.mk ?_))
  all_goals try (refine Held.mk ?_; (try dsimp only at *); (try simp only [resTy, argTy, eqD, inR, big, wantOf, Bool.not_true, Bool.not_false, Bool.true_eq, decide_eq_true_eq, decide_eq_false_iff_not, Bool.not_eq_true', Bool.not_eq_false', Bool.and_eq_true, Prod.mk.injEq, and_true, true_and, Int.not_lt, Int.not_le, gt_iff_lt, ge_iff_le] at *); (try simp only [resTy, argTy, eqD, inR, big, wantOf, Bool.not_true, Bool.not_false, Bool.true_eq, decide_eq_true_eq, decide_eq_false_iff_not, Bool.not_eq_true', Bool.not_eq_false', Bool.and_eq_true, Prod.mk.injEq, and_true, true_and, Int.not_lt, Int.not_le, gt_iff_lt, ge_iff_le, getD_p] at *))
  all_goals try omega
  · 
    refine GHeld.mk ?_
    refine Exists.intro 0 ?_
    refine And.intro (Leaf.mk ?_) ?_
    · repeat' first | exact True.intro | refine And.intro ?_ ?_
      all_goals try ((change _ = _ <;> try dsimp only) <;> try with_reducible rfl)
      all_goals try omega
      all_goals (rfl)
    exact Nat.zero_le _
  · rename_i k hk hlt
    have := hwm k (by omega)
    omega
  · exact ⟨(show (0 : Int) < sg.length by omega), (show (sg.length : Int) ≤ 2000000000000000000 by omega)⟩
  · exact fMod_in (by omega)
  · rename_i k hk hlt
    have hk := hp k
    have hsk := hs (fMod (way * (a - k)) sg.length).toNat
    exact ⟨by unfold okP; omega, by unfold okP; omega, (show okP (sg.getD (fMod (way * (a - k)) sg.length).toNat 0) by unfold okP; omega)⟩
  · rename_i k hk hlt
    have hk2 := hp k
    have hsk := hs (fMod (way * (a - k)) sg.length).toNat
    have b1 := by_in hk2.1.1 hk2.1.2 hsk.1 hsk.2
    have b2 := by_in hk2.2.1 hk2.2.2 hsk.1 hsk.2
    have hv := trV_in (a := a) (way := way) hp hs k
    exact ⟨by unfold okI; omega, by unfold okI; omega, (show okI ((ps.getD k (0, 0, ())).1 * sg.getD (fMod (way * (a - k)) sg.length).toNat 0) by unfold okI; omega), (show okI ((ps.getD k (0, 0, ())).2.1 * sg.getD (fMod (way * (a - k)) sg.length).toNat 0) by unfold okI; omega)⟩
  · rename_i k hk hlt
    refine GHeld.mk ?_
    refine Exists.intro (k + 1) ?_
    refine And.intro (Leaf.mk ?_) ?_
    · repeat' first | exact True.intro | refine And.intro ?_ ?_
      all_goals try ((change _ = _ <;> try dsimp only) <;> try with_reducible rfl)
      all_goals try omega
      all_goals (rfl)
    exact ⟨by show k + 1 ≤ ps.length; omega, by show ps.length - (k + 1) < ps.length - k; omega⟩
  · rename_i k hk hge
    rw [show k = ps.length by omega]
    exact ⟨rfl, rfl⟩

/-! ### The reference's -/

/-- The rows when the loops have come to t and k. -/
def gF (ps : List IP) (sg : List Int) (n : Nat) (t k i : Nat) : IP := if i < t then trV ps sg i 1 n else if i = t then trV ps sg i 1 k else (0, 0, ())
def gB (ps : List IP) (sg : List Int) (t k i : Nat) : IP := if i < k then trV ps sg i (-1) (t + 1) else trV ps sg i (-1) t

theorem gF_zero (ps : List IP) (sg : List Int) (n : Nat) : repl (n : Int) (0, 0, ()) = tab (gF ps sg n 0 0) n := by
  rw [repl_tab]
  refine tab_congr n fun i _ => ?_
  unfold gF
  rw [if_neg (by omega)]
  split <;> rfl
theorem gF_step {ps : List IP} {sg : List Int} {n t k : Nat} (ht : t < n) : (tab (gF ps sg n t k) n).set t (plusP ((tab (gF ps sg n t k) n).getD t (0, 0, ())) (byP (ps.getD k (0, 0, ())) (sgA sg ((t : Int) - k)))) = tab (gF ps sg n t (k + 1)) n := by
  rw [tab_set, tab_get _ _ _ _ ht]
  refine tab_congr n fun i _ => ?_
  unfold gF
  by_cases h : i = t
  · subst h
    rw [if_pos rfl, if_neg (by omega), if_pos rfl, if_neg (by omega), if_pos rfl]
    show _ = plusP (trV ps sg i 1 k) (byP (ps.getD k (0, 0, ())) (sgA sg (1 * ((i : Int) - k))))
    rw [Int.one_mul]
  · rw [if_neg h, if_neg h, if_neg h]
theorem gF_next (ps : List IP) (sg : List Int) (n t : Nat) : tab (gF ps sg n t n) n = tab (gF ps sg n (t + 1) 0) n := tab_congr n fun i _ => by
  unfold gF
  by_cases h : i = t
  · subst h; rw [if_neg (by omega), if_pos rfl, if_pos (by omega)]
  · by_cases h2 : i < t
    · rw [if_pos h2, if_pos (by omega)]
    · rw [if_neg h2, if_neg h, if_neg (by omega)]; split <;> rfl
theorem gF_all (ps : List IP) (sg : List Int) (n : Nat) : tab (gF ps sg n n 0) n = tab (fun i => trV ps sg i 1 n) n := tab_congr n fun i hi => by
  unfold gF; rw [if_pos hi]

theorem gB_zero (ps : List IP) (sg : List Int) (n : Nat) : repl (n : Int) (0, 0, ()) = tab (gB ps sg 0 0) n := by
  rw [repl_tab]
  refine tab_congr n fun i _ => ?_
  unfold gB
  rw [if_neg (by omega)]; rfl
theorem gB_step {ps : List IP} {sg : List Int} {n t k : Nat} (hk : k < n) : (tab (gB ps sg t k) n).set k (plusP ((tab (gB ps sg t k) n).getD k (0, 0, ())) (byP (ps.getD t (0, 0, ())) (sgA sg ((t : Int) - k)))) = tab (gB ps sg t (k + 1)) n := by
  rw [tab_set, tab_get _ _ _ _ hk]
  refine tab_congr n fun i _ => ?_
  unfold gB
  by_cases h : i = k
  · subst h
    rw [if_pos rfl, if_neg (by omega), if_pos (by omega)]
    show _ = plusP (trV ps sg i (-1) t) (byP (ps.getD t (0, 0, ())) (sgA sg (-1 * ((i : Int) - t))))
    rw [show -1 * ((i : Int) - t) = (t : Int) - i by omega]
  · rw [if_neg h]
    by_cases h2 : i < k
    · rw [if_pos h2, if_pos (by omega)]
    · rw [if_neg h2, if_neg (by omega)]
theorem gB_next (ps : List IP) (sg : List Int) (n t : Nat) : tab (gB ps sg t n) n = tab (gB ps sg (t + 1) 0) n := tab_congr n fun i hi => by
  unfold gB; rw [if_pos hi, if_neg (by omega)]
theorem gB_all (ps : List IP) (sg : List Int) (n : Nat) : tab (gB ps sg n 0) n = tab (fun i => trV ps sg i (-1) n) n := tab_congr n fun i hi => by
  unfold gB; rw [if_neg (by omega)]

theorem okL_tab {B : Int} {f : Nat → IP} {n : Nat} (hB : 0 ≤ B) (h : ∀ i, i < n → (-B ≤ (f i).1 ∧ (f i).1 ≤ B) ∧ (-B ≤ (f i).2.1 ∧ (f i).2.1 ≤ B)) : okL B (tab f n) := fun i => by
  by_cases hi : i < n
  · rw [tab_get _ _ _ _ hi]; exact h i hi
  · have : (tab f n).getD i (0, 0, ()) = (0, 0, ()) := by
      simp only [List.getD]
      rw [List.getElem?_eq_none (by rw [tab_len]; omega)]; rfl
    rw [this]
    exact ⟨⟨(show -B ≤ 0 by omega), hB⟩, ⟨(show -B ≤ 0 by omega), hB⟩⟩

theorem gF_ok {ps : List IP} {sg : List Int} {n t k : Nat} (h : okL 16777216 ps) (hs : okS sg) (hn : n ≤ 1024) (hk : k ≤ 1024) : okL 17179869184 (tab (gF ps sg n t k) n) := okL_tab (by omega) fun i _ => by
  unfold gF
  have a := trV_in (a := i) (way := 1) h hs n
  have b := trV_in (a := i) (way := 1) h hs k
  split
  · omega
  · split
    · omega
    · exact ⟨⟨by show (-17179869184 : Int) ≤ 0; omega, by show (0 : Int) ≤ 17179869184; omega⟩, ⟨by show (-17179869184 : Int) ≤ 0; omega, by show (0 : Int) ≤ 17179869184; omega⟩⟩
theorem gB_ok {ps : List IP} {sg : List Int} {n t k : Nat} (h : okL 16777216 ps) (hs : okS sg) (hn : t < 1024) : okL 17179869184 (tab (gB ps sg t k) n) := okL_tab (by omega) fun i _ => by
  unfold gB
  have a := trV_in (a := i) (way := -1) h hs (t + 1)
  have b := trV_in (a := i) (way := -1) h hs t
  split <;> omega

theorem set2_at {xs : List IP} {j : Nat} {v : Int} (h : j < xs.length) : ((xs.set j (setI PairT (xs.getD j (Ty.dflt PairT)) (0 * i3.size) v)).getD j (Ty.dflt PairT)).2.1 = (xs.getD j (0, 0, ())).2.1 :=
  (congrArg (fun z : IP => z.2.1) (getD_set_self (xs := xs) (j := j) (v := setI PairT (xs.getD j (Ty.dflt PairT)) (0 * i3.size) v) (d := (0, 0, ())) h)).trans rfl

theorem lt_repl {α : Type} {n t : Nat} {x : α} (h : t < n) : 0 ≤ (t : Int) ∧ (t : Int) < ((repl (n : Int) x).length : Int) := by
  rw [repl_len]; omega
theorem rep_len {α : Type} (n : Nat) (x : α) : (repl (n : Int) x).length = n := by rw [repl_len]; omega

@[reducible] def sRTurnF : Spec := { pats := [.dat (.sl PairT), .dat (.sl I64), .dat .bool], res := [{ own := some 37, t := .sl PairT }], pre := fun x => (List.length (α := IP) x.1 = List.length (α := Int) x.2.1 ∧ List.length (α := Int) x.2.1 ≤ 1024) ∧ okL 16777216 x.1 ∧ okS x.2.1 ∧ x.2.2.1 = false, f := fun x => (tab (fun i => trV x.1 x.2.1 i 1 (List.length (α := Int) x.2.1)) (List.length (α := Int) x.2.1), ()) }

@[reducible] def sRTurnB : Spec := { pats := [.dat (.sl PairT), .dat (.sl I64), .dat .bool], res := [{ own := some 37, t := .sl PairT }], pre := fun x => (List.length (α := IP) x.1 = List.length (α := Int) x.2.1 ∧ List.length (α := Int) x.2.1 ≤ 1024) ∧ okL 16777216 x.1 ∧ okS x.2.1 ∧ x.2.2.1 = true, f := fun x => (tab (fun i => trV x.1 x.2.1 i (-1) (List.length (α := Int) x.2.1)) (List.length (α := Int) x.2.1), ()) }

end Go.Eng.Pu
