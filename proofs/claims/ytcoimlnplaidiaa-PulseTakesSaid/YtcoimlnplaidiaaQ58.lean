/- Contracts: means of recordings, of the program and of the reference. Conditions: each contract's own. -/
import Derived.Test.YtcoimlnplaidiaaQ53
import Derived.Test.YtcoimlnplaidiaaQ2A
namespace Go.Eng.Pu
open Go.Eng Go.Proofs
set_option linter.all false
set_option maxRecDepth 100000
set_option maxHeartbeats 8000000

abbrev F32L := List Nat

@[reducible] def sSameF : Spec := { pats := [.dat (.sl F32), .dat (.sl F32)], res := [{ t := .bool }], pre := fun x => x.1 = x.2.1 ∧ List.length (α := Nat) x.1 ≤ 2000000000, f := fun _ => (true, ()) }

/-- base.SameFloats -/
theorem h126 : Ok 126 sSameF := by
  refine mk (ctr := []) trivial (nt := 28) Try.func126 rfl rfl rfl rfl (by kernel_rfl) (by kernel_rfl) (fun x => [fun _ => { σ := Nat, pat := fun k => [sI 5 k], inv := fun k => k ≤ List.length (α := Nat) x.1, meas := fun k => List.length (α := Nat) x.1 - k }]) ?_
  rintro ⟨(xs : F32L), (ys : F32L), _⟩ ⟨(h1 : xs = ys), (h2 : xs.length ≤ 2000000000)⟩
  subst h1
  repeat' (intro hzz; (try (rename Two => hq; cases hq)); (try dsimp only at hzz); (try simp only [resTy, argTy, eqD, inR, big, wantOf, Bool.not_true, Bool.not_false, Bool.true_eq, decide_eq_true_eq, decide_eq_false_iff_not, Bool.not_eq_true', Bool.not_eq_false', Bool.and_eq_true, Prod.mk.injEq, and_true, true_and, Int.not_lt, Int.not_le, gt_iff_lt, ge_iff_le] at hzz); (try (first | contradiction | (exfalso; omega))); (try (revert hzz; intro _)))
  all_goals try (rename Unit => hq; clear hq)
  all_goals try ((with_reducible refine Held.mk ?_); (with_reducible (first | refine Frz.mk ?_ | refine And.intro (Frz.mk ?_) ?_ | refine And.intro ?_ (Frz.mk ?_))); repeat' first | exact True.intro | (change _ = _; with_reducible rfl) | refine And.intro ?_ ?_ | (with_reducible refine Frz.mk ?_))
  all_goals try (refine Held.mk ?_; (try dsimp only at *); (try simp only [resTy, argTy, eqD, inR, big, wantOf, Bool.not_true, Bool.not_false, Bool.true_eq, decide_eq_true_eq, decide_eq_false_iff_not, Bool.not_eq_true', Bool.not_eq_false', Bool.and_eq_true, Prod.mk.injEq, and_true, true_and, Int.not_lt, Int.not_le, gt_iff_lt, ge_iff_le] at *))
  all_goals try omega
  · 
    refine GHeld.mk ?_
    refine Exists.intro 0 ?_
    refine And.intro (Leaf.mk ?_) ?_
    · repeat' first | exact True.intro | refine And.intro ?_ ?_
      all_goals try ((change _ = _ <;> try dsimp only) <;> try with_reducible rfl)
      all_goals try omega
      all_goals (rfl)
    exact Nat.zero_le _
  · rename_i k hk hlt _
    refine GHeld.mk ?_
    refine Exists.intro (k + 1) ?_
    refine And.intro (Leaf.mk ?_) ?_
    · repeat' first | exact True.intro | refine And.intro ?_ ?_
      all_goals try ((change _ = _ <;> try dsimp only) <;> try with_reducible rfl)
      all_goals try omega
      all_goals (rfl)
    exact ⟨by show k + 1 ≤ xs.length; omega, by show xs.length - (k + 1) < xs.length - k; omega⟩

abbrev RespT : Ty := .cons I64 (.cons (.sl F32) .nil)
abbrev RespD := Int × F32L × Unit

@[reducible] def sSameResp : Spec := { pats := [.dat RespT, .dat RespT], res := [{ t := .bool }], pre := fun x => x.1 = x.2.1 ∧ List.length (α := Nat) x.1.2.1 ≤ 2000000000, f := fun _ => (true, ()) }

/-- base.SameResponse -/
theorem h57 : Ok 57 sSameResp := by
  refine mk (ctr := [(126, sSameF)]) ⟨h126, trivial⟩ (nt := 17) Try.func57 rfl rfl rfl rfl (by kernel_rfl) (by kernel_rfl) (fun _ => []) ?_
  rintro ⟨⟨(r : Int), (xs : F32L), _⟩, ⟨(q : Int), (ys : F32L), _⟩, _⟩ ⟨h1, (h2 : xs.length ≤ 2000000000)⟩
  cases h1
  repeat' (intro hzz; (try (rename Two => hq; cases hq)); (try dsimp only at hzz); (try simp only [resTy, argTy, eqD, inR, big, wantOf, Bool.not_true, Bool.not_false, Bool.true_eq, decide_eq_true_eq, decide_eq_false_iff_not, Bool.not_eq_true', Bool.not_eq_false', Bool.and_eq_true, Prod.mk.injEq, and_true, true_and, Int.not_lt, Int.not_le, gt_iff_lt, ge_iff_le] at hzz); (try (first | contradiction | (exfalso; omega))); (try (revert hzz; intro _)))
  all_goals try (rename Unit => hq; clear hq)
  all_goals try ((with_reducible refine Held.mk ?_); (with_reducible (first | refine Frz.mk ?_ | refine And.intro (Frz.mk ?_) ?_ | refine And.intro ?_ (Frz.mk ?_))); repeat' first | exact True.intro | (change _ = _; with_reducible rfl) | refine And.intro ?_ ?_ | (with_reducible refine Frz.mk ?_))
  all_goals try (refine Held.mk ?_; (try dsimp only at *); (try simp only [resTy, argTy, eqD, inR, big, wantOf, Bool.not_true, Bool.not_false, Bool.true_eq, decide_eq_true_eq, decide_eq_false_iff_not, Bool.not_eq_true', Bool.not_eq_false', Bool.and_eq_true, Prod.mk.injEq, and_true, true_and, Int.not_lt, Int.not_le, gt_iff_lt, ge_iff_le] at *))
  all_goals try omega

/-- The mean, rounded. -/
def mnI (n b : Int) : Int := (2 * n + b) / (2 * b)

@[reducible] def sMean : Spec := { pats := [.dat I64, .dat I64], res := [{ t := I64 }], pre := fun x => (-1000000000000 ≤ x.1 ∧ x.1 ≤ (1000000000000 : Int)) ∧ ((1 : Int) ≤ x.2.1 ∧ x.2.1 ≤ (1000000 : Int)), f := fun x => (mnI x.1 x.2.1, ()) }

/-- mean -/
theorem h127 : Ok 127 sMean := by
  refine mk (ctr := [(109, sMod)]) ⟨h109, trivial⟩ (nt := 18) Try.func127 rfl rfl rfl rfl (by kernel_rfl) (by kernel_rfl) (fun _ => []) ?_
  rintro ⟨(n : Int), (b : Int), _⟩ ⟨⟨(h1 : -1000000000000 ≤ n), (h2 : n ≤ 1000000000000)⟩, ⟨(h3 : 1 ≤ b), (h4 : b ≤ 1000000)⟩⟩
  have hm := fMod_in (m := 2 * n + b) (n := 2 * b) (by omega)
  have he : 2 * n + b - fMod (2 * n + b) (2 * b) = 2 * b * ((2 * n + b) / (2 * b)) := by
    have := Int.mul_ediv_add_emod (2 * n + b) (2 * b)
    show 2 * n + b - (2 * n + b) % (2 * b) = _
    omega
  have hq : (2 * n + b - fMod (2 * n + b) (2 * b)).tdiv (2 * b) = mnI n b := by
    rw [he, Int.mul_comm, Int.mul_tdiv_cancel _ (by omega)]; rfl
  have hd := Int.natAbs_ediv_le_natAbs (2 * n + b) (2 * b)
  repeat' (intro hzz; (try (rename Two => hq; cases hq)); (try dsimp only at hzz); (try simp only [resTy, argTy, eqD, inR, big, wantOf, Bool.not_true, Bool.not_false, Bool.true_eq, decide_eq_true_eq, decide_eq_false_iff_not, Bool.not_eq_true', Bool.not_eq_false', Bool.and_eq_true, Prod.mk.injEq, and_true, true_and, Int.not_lt, Int.not_le, gt_iff_lt, ge_iff_le] at hzz); (try (first | contradiction | (exfalso; omega))); (try (revert hzz; intro _)))
  all_goals try (rename Unit => hq; clear hq)
  all_goals try ((with_reducible refine Held.mk ?_); (with_reducible (first | refine Frz.mk ?_ | refine And.intro (Frz.mk ?_) ?_ | refine And.intro ?_ (Frz.mk ?_))); repeat' first | exact True.intro | (change _ = _; with_reducible rfl) | refine And.intro ?_ ?_ | (with_reducible refine Frz.mk ?_))
  all_goals try (refine Held.mk ?_; (try dsimp only at *); (try simp only [resTy, argTy, eqD, inR, big, wantOf, Bool.not_true, Bool.not_false, Bool.true_eq, decide_eq_true_eq, decide_eq_false_iff_not, Bool.not_eq_true', Bool.not_eq_false', Bool.and_eq_true, Prod.mk.injEq, and_true, true_and, Int.not_lt, Int.not_le, gt_iff_lt, ge_iff_le] at *))
  all_goals try omega
  all_goals first | exact ⟨(show (0 : Int) < 2 * b by omega), (show 2 * b ≤ (2000000000000000000 : Int) by omega)⟩ | (rw [hq]; unfold mnI; omega) | exact hq | skip

/-! ### Sums of recordings -/

abbrev CLL := List CL
def avV (ls : CLL) (k : Nat) : Nat → IP
  | 0 => (0, 0, ())
  | i + 1 => plusP (avV ls k i) ((lP (ls.getD i [])).getD k (0, 0, ()))
def avN (ls : CLL) : Nat := (ls.getD 0 []).length
def avT (ls : CLL) (i : Nat) : List IP := tab (fun k => avV ls k i) (avN ls)
/-- What the program has when it has come to i. -/
def avP (ls : CLL) (i : Nat) : List IP := if i = 0 then [] else avT ls i
/-- The sums when the loops have come to i and k. -/
def avG (ls : CLL) (i k j : Nat) : IP := if j < k then avV ls j (i + 1) else avV ls j i

theorem avG_set {ls : CLL} {i k n : Nat} (h : k < n) : (tab (avG ls i k) n).set k (plusP ((tab (avG ls i k) n).getD k (0, 0, ())) ((lP (ls.getD i [])).getD k (0, 0, ()))) = tab (avG ls i (k + 1)) n := by
  rw [tab_set, tab_get _ _ _ _ h]
  refine tab_congr n fun j _ => ?_
  unfold avG
  by_cases hj : j = k
  · subst hj; rw [if_pos rfl, if_neg (by omega), if_pos (by omega)]; rfl
  · rw [if_neg hj]
    by_cases h2 : j < k
    · rw [if_pos h2, if_pos (by omega)]
    · rw [if_neg h2, if_neg (by omega)]
theorem avG_zero (ls : CLL) (i n : Nat) : tab (avG ls i 0) n = tab (fun k => avV ls k i) n := tab_congr n fun j _ => by
  unfold avG; rw [if_neg (by omega)]
theorem avG_all (ls : CLL) (i n : Nat) : tab (avG ls i n) n = tab (fun k => avV ls k (i + 1)) n := tab_congr n fun j hj => by
  unfold avG; rw [if_pos hj]

/-- The error of the first recording that is not right. -/
def avF (n : Nat) : CLL → Int
  | [] => 0
  | x :: r => if lE x = 0 then (if x.length = n then avF n r else 13) else lE x
theorem avF_step {ls : CLL} {n i : Nat} (h : i < ls.length) : avF n (ls.drop i) = if lE (ls.getD i []) = 0 then (if (ls.getD i []).length = n then avF n (ls.drop (i + 1)) else 13) else lE (ls.getD i []) := by
  rw [drop_getC (d := []) h]; rfl

/-- The first i recordings are right. -/
def avOk (ls : CLL) (i : Nat) : Prop := i ≤ ls.length ∧ avF (avN ls) (ls.drop i) = avF (avN ls) ls ∧ ∀ j, j < i → lE (ls.getD j []) = 0 ∧ (ls.getD j []).length = avN ls
theorem avOk_zero (ls : CLL) : avOk ls 0 := ⟨Nat.zero_le _, rfl, fun j hj => by omega⟩
theorem avOk_next {ls : CLL} {i : Nat} (h : avOk ls i) (hi : i < ls.length) (h1 : lE (ls.getD i []) = 0) (h2 : (ls.getD i []).length = avN ls) : avOk ls (i + 1) := by
  obtain ⟨a, b, c⟩ := h
  refine ⟨by omega, ?_, fun j hj => ?_⟩
  · rw [avF_step hi, if_pos h1, if_pos h2] at b; exact b
  · by_cases e : j = i
    · rw [e]; exact ⟨h1, h2⟩
    · exact c j (by omega)

def mnP (b : Int) (p : IP) : IP := (mnI p.1 b, mnI p.2.1 b, ())
def avM (ls : CLL) (k : Nat) : IP := mnP ls.length (avV ls k ls.length)
def avL (ls : CLL) : List IP := tab (avM ls) (avN ls)
def avE (ls : CLL) : Int := if ls.length = 0 then 10 else if 32 < ls.length then 8 else if avF (avN ls) ls = 0 then tE (avL ls) else avF (avN ls) ls
def avR (ls : CLL) : CL := if ls.length = 0 then [] else if 32 < ls.length then [] else if avF (avN ls) ls = 0 then tL (avL ls) else []

theorem lP_in (xs : CL) (k : Nat) : inBP 16777216 ((lP xs).getD k (0, 0, ())) := by
  by_cases h : lE xs = 0
  · exact okL_inBP (lP_okL h) k
  · rw [lP_nil h]; show inBP 16777216 (0, 0, ()); exact ⟨by decide, by decide⟩

theorem avV_in (ls : CLL) (k : Nat) : ∀ i : Nat, inBP (i * 16777216) (avV ls k i)
  | 0 => by show (_ ≤ (0 : Int) ∧ (0 : Int) ≤ _) ∧ (_ ≤ (0 : Int) ∧ (0 : Int) ≤ _); omega
  | i + 1 => by
    have := plusP_in (avV_in ls k i) (lP_in (ls.getD i []) k)
    rw [show ((i + 1 : Nat) : Int) * 16777216 = (i : Int) * 16777216 + 16777216 by omega]
    exact this

theorem avV_in2 {ls : CLL} {i : Nat} (hi : i ≤ 33) (k : Nat) : inBP 600000000 (avV ls k i) := inBP_mono (avV_in ls k i) (by omega)

theorem avG_in {ls : CLL} {i k : Nat} (hi : i ≤ 32) (j : Nat) : inBP 600000000 (avG ls i k j) := by
  unfold avG
  split
  · exact avV_in2 (by omega) j
  · exact avV_in2 (by omega) j

/-- The rows when the last loop has come to k. -/
def avH (ls : CLL) (k j : Nat) : IP := if j < k then avM ls j else avV ls j ls.length
theorem avH_set {ls : CLL} {k n : Nat} (h : k < n) : (tab (avH ls k) n).set k (mnP ls.length ((tab (avH ls k) n).getD k (0, 0, ()))) = tab (avH ls (k + 1)) n := by
  rw [tab_set, tab_get _ _ _ _ h]
  refine tab_congr n fun j _ => ?_
  unfold avH
  by_cases hj : j = k
  · subst hj; rw [if_pos rfl, if_neg (by omega), if_pos (by omega)]; rfl
  · rw [if_neg hj]
    by_cases h2 : j < k
    · rw [if_pos h2, if_pos (by omega)]
    · rw [if_neg h2, if_neg (by omega)]
theorem avH_zero (ls : CLL) (n : Nat) : tab (avH ls 0) n = tab (fun k => avV ls k ls.length) n := tab_congr n fun j _ => by
  unfold avH; rw [if_neg (by omega)]
theorem avH_all (ls : CLL) : tab (avH ls (avN ls)) (avN ls) = avL ls := tab_congr _ fun j hj => by
  unfold avH; rw [if_pos hj]

@[reducible] def sAver : Spec := { pats := [.dat (.sl (.sl C64))], res := [{ own := some 136, t := .sl C64 }, { t := I64 }], pre := fun _ => True, f := fun x => (avR x.1, avE x.1, ()) }

theorem tab_in {B : Int} {f : Nat → IP} {n : Nat} (hB : 0 ≤ B) (h : ∀ i, inBP B (f i)) : okL B (tab f n) := okL_tab hB fun i _ => h i
theorem avH_in {ls : CLL} {k : Nat} (hl : ls.length ≤ 32) (j : Nat) : inBP 1300000000 (avH ls k j) := by
  have b := avV_in2 (ls := ls) (i := ls.length) (by omega) j
  have key : ∀ a : Int, -600000000 ≤ a ∧ a ≤ 600000000 → -1300000000 ≤ mnI a ls.length ∧ mnI a ls.length ≤ 1300000000 := fun a ha => by
    have := Int.natAbs_ediv_le_natAbs (2 * a + (ls.length : Int)) (2 * (ls.length : Int))
    unfold mnI; omega
  unfold avH
  split
  · exact ⟨key _ b.1, key _ b.2⟩
  · exact inBP_mono b (by decide)
theorem avP_len {ls : CLL} {i : Nat} (h : i ≠ 0) : (avP ls i).length = avN ls := by unfold avP; rw [if_neg h]; exact tab_len _ _
theorem avP_one {ls : CLL} (h : lE (ls.getD 0 []) = 0) : lP (ls.getD 0 []) = avP ls (0 + 1) := by
  unfold avP
  rw [if_neg (by omega)]
  have hl := lP_len h
  have e : lP (ls.getD 0 []) = tab (prF (ls.getD 0 [])) (avN ls) := by unfold lP; rw [if_pos h]; rfl
  rw [e]
  refine tab_congr _ fun k hk => ?_
  show _ = plusP (0, 0, ()) ((lP (ls.getD 0 [])).getD k (0, 0, ()))
  rw [plusP_zero', e, tab_get _ _ _ _ hk]

/-- Averaged -/
theorem h58 : Ok 58 sAver := by
  refine mk (ctr := [(91, sRecd), (122, sPlus), (127, sMean), (93, sTold)]) ⟨h91n, h122, h127, h93n, trivial⟩ (nt := 91) Try.func58 rfl rfl rfl rfl (by kernel_rfl) (by kernel_rfl) (fun x => [fun _ => { σ := Nat, pat := fun i => [sI 23 i] ++ rOwn 4 60004 139 PairT (avP x.1 i), inv := fun i => avOk x.1 i, meas := fun i => List.length (α := CL) x.1 - i }, fun st => withI 23 st fun i => { σ := Nat, pat := fun k => [sI 49 k] ++ rOwn 4 60004 139 PairT (tab (avG x.1 i.toNat k) (avN x.1)), inv := fun k => k ≤ avN x.1, meas := fun k => avN x.1 - k }, fun _ => { σ := Nat, pat := fun k => [sI 67 k] ++ rOwn 4 60004 139 PairT (tab (avH x.1 k) (avN x.1)), inv := fun k => k ≤ avN x.1, meas := fun k => avN x.1 - k }]) ?_
  rintro ⟨(ls : CLL), _⟩ _
  by_cases h0 : ls.length = 0
  · have u : avE ls = 10 := by unfold avE; rw [if_pos h0]
    have v : avR ls = [] := by unfold avR; rw [if_pos h0]
    repeat' (intro hzz; (try (rename Two => hq; cases hq)); (try dsimp only at hzz); (try simp only [resTy, argTy, eqD, inR, big, wantOf, Bool.not_true, Bool.not_false, Bool.true_eq, decide_eq_true_eq, decide_eq_false_iff_not, Bool.not_eq_true', Bool.not_eq_false', Bool.and_eq_true, Prod.mk.injEq, and_true, true_and, Int.not_lt, Int.not_le, gt_iff_lt, ge_iff_le] at hzz); (try simp only [resTy, argTy, eqD, inR, big, wantOf, Bool.not_true, Bool.not_false, Bool.true_eq, decide_eq_true_eq, decide_eq_false_iff_not, Bool.not_eq_true', Bool.not_eq_false', Bool.and_eq_true, Prod.mk.injEq, and_true, true_and, Int.not_lt, Int.not_le, gt_iff_lt, ge_iff_le, u, v] at hzz); (try (first | contradiction | (exfalso; omega))); (try (revert hzz; intro _)))
    all_goals try (rename Unit => hq; clear hq)
    all_goals try ((with_reducible refine Held.mk ?_); (with_reducible (first | refine Frz.mk ?_ | refine And.intro (Frz.mk ?_) ?_ | refine And.intro ?_ (Frz.mk ?_))); repeat' first | exact True.intro | (change _ = _; with_reducible rfl) | refine And.intro ?_ ?_ | (with_reducible refine Frz.mk ?_))
    all_goals try (refine Held.mk ?_; (try dsimp only at *); (try simp only [resTy, argTy, eqD, inR, big, wantOf, Bool.not_true, Bool.not_false, Bool.true_eq, decide_eq_true_eq, decide_eq_false_iff_not, Bool.not_eq_true', Bool.not_eq_false', Bool.and_eq_true, Prod.mk.injEq, and_true, true_and, Int.not_lt, Int.not_le, gt_iff_lt, ge_iff_le] at *); (try simp only [resTy, argTy, eqD, inR, big, wantOf, Bool.not_true, Bool.not_false, Bool.true_eq, decide_eq_true_eq, decide_eq_false_iff_not, Bool.not_eq_true', Bool.not_eq_false', Bool.and_eq_true, Prod.mk.injEq, and_true, true_and, Int.not_lt, Int.not_le, gt_iff_lt, ge_iff_le, u, v] at *))
    all_goals try omega
  · by_cases h32 : 32 < ls.length
    · have u : avE ls = 8 := by unfold avE; rw [if_neg h0, if_pos h32]
      have v : avR ls = [] := by unfold avR; rw [if_neg h0, if_pos h32]
      repeat' (intro hzz; (try (rename Two => hq; cases hq)); (try dsimp only at hzz); (try simp only [resTy, argTy, eqD, inR, big, wantOf, Bool.not_true, Bool.not_false, Bool.true_eq, decide_eq_true_eq, decide_eq_false_iff_not, Bool.not_eq_true', Bool.not_eq_false', Bool.and_eq_true, Prod.mk.injEq, and_true, true_and, Int.not_lt, Int.not_le, gt_iff_lt, ge_iff_le] at hzz); (try simp only [resTy, argTy, eqD, inR, big, wantOf, Bool.not_true, Bool.not_false, Bool.true_eq, decide_eq_true_eq, decide_eq_false_iff_not, Bool.not_eq_true', Bool.not_eq_false', Bool.and_eq_true, Prod.mk.injEq, and_true, true_and, Int.not_lt, Int.not_le, gt_iff_lt, ge_iff_le, u, v] at hzz); (try (first | contradiction | (exfalso; omega))); (try (revert hzz; intro _)))
      all_goals try (rename Unit => hq; clear hq)
      all_goals try ((with_reducible refine Held.mk ?_); (with_reducible (first | refine Frz.mk ?_ | refine And.intro (Frz.mk ?_) ?_ | refine And.intro ?_ (Frz.mk ?_))); repeat' first | exact True.intro | (change _ = _; with_reducible rfl) | refine And.intro ?_ ?_ | (with_reducible refine Frz.mk ?_))
      all_goals try (refine Held.mk ?_; (try dsimp only at *); (try simp only [resTy, argTy, eqD, inR, big, wantOf, Bool.not_true, Bool.not_false, Bool.true_eq, decide_eq_true_eq, decide_eq_false_iff_not, Bool.not_eq_true', Bool.not_eq_false', Bool.and_eq_true, Prod.mk.injEq, and_true, true_and, Int.not_lt, Int.not_le, gt_iff_lt, ge_iff_le] at *); (try simp only [resTy, argTy, eqD, inR, big, wantOf, Bool.not_true, Bool.not_false, Bool.true_eq, decide_eq_true_eq, decide_eq_false_iff_not, Bool.not_eq_true', Bool.not_eq_false', Bool.and_eq_true, Prod.mk.injEq, and_true, true_and, Int.not_lt, Int.not_le, gt_iff_lt, ge_iff_le, u, v] at *))
      all_goals try omega
    · have u : avE ls = if avF (avN ls) ls = 0 then tE (avL ls) else avF (avN ls) ls := by unfold avE; rw [if_neg h0, if_neg h32]
      have v : avR ls = if avF (avN ls) ls = 0 then tL (avL ls) else [] := by unfold avR; rw [if_neg h0, if_neg h32]
      repeat' (intro hzz; (try (rename Two => hq; cases hq)); (try dsimp only at hzz); (try simp only [resTy, argTy, eqD, inR, big, wantOf, Bool.not_true, Bool.not_false, Bool.true_eq, decide_eq_true_eq, decide_eq_false_iff_not, Bool.not_eq_true', Bool.not_eq_false', Bool.and_eq_true, Prod.mk.injEq, and_true, true_and, Int.not_lt, Int.not_le, gt_iff_lt, ge_iff_le] at hzz); (try simp only [resTy, argTy, eqD, inR, big, wantOf, Bool.not_true, Bool.not_false, Bool.true_eq, decide_eq_true_eq, decide_eq_false_iff_not, Bool.not_eq_true', Bool.not_eq_false', Bool.and_eq_true, Prod.mk.injEq, and_true, true_and, Int.not_lt, Int.not_le, gt_iff_lt, ge_iff_le, tab_len] at hzz); (try (first | contradiction | (exfalso; omega))); (try (revert hzz; intro _)))
      all_goals try (rename Unit => hq; clear hq)
      all_goals try ((with_reducible refine Held.mk ?_); (with_reducible (first | refine Frz.mk ?_ | refine And.intro (Frz.mk ?_) ?_ | refine And.intro ?_ (Frz.mk ?_))); repeat' first | exact True.intro | (change _ = _; with_reducible rfl) | refine And.intro ?_ ?_ | (with_reducible refine Frz.mk ?_))
      all_goals try (refine Held.mk ?_; (try dsimp only at *); (try simp only [resTy, argTy, eqD, inR, big, wantOf, Bool.not_true, Bool.not_false, Bool.true_eq, decide_eq_true_eq, decide_eq_false_iff_not, Bool.not_eq_true', Bool.not_eq_false', Bool.and_eq_true, Prod.mk.injEq, and_true, true_and, Int.not_lt, Int.not_le, gt_iff_lt, ge_iff_le] at *); (try simp only [resTy, argTy, eqD, inR, big, wantOf, Bool.not_true, Bool.not_false, Bool.true_eq, decide_eq_true_eq, decide_eq_false_iff_not, Bool.not_eq_true', Bool.not_eq_false', Bool.and_eq_true, Prod.mk.injEq, and_true, true_and, Int.not_lt, Int.not_le, gt_iff_lt, ge_iff_le, tab_len] at *))
      all_goals try omega
      · 
        refine GHeld.mk ?_
        refine Exists.intro 0 ?_
        refine And.intro (Leaf.mk ?_) ?_
        · repeat' first | exact True.intro | refine And.intro ?_ ?_
          all_goals try ((change _ = _ <;> try dsimp only) <;> try with_reducible rfl)
          all_goals try omega
          all_goals (rfl)
        exact avOk_zero ls
      · rename_i i hi hlt he
        have he : ¬ lE (ls.getD i []) = 0 := he
        have e := hi.2.1
        rw [avF_step (by omega), if_neg he] at e
        rw [u, v, ← e, if_neg he, if_neg he]; exact ⟨rfl, rfl⟩
      · rename_i i hi hlt he hz
        obtain rfl : i = 0 := by omega
        have he : lE (ls.getD 0 []) = 0 := he
        have e : lP (ls.getD 0 []) = avP ls (0 + 1) := avP_one he
        refine GHeld.mk ?_
        refine Exists.intro (0 + 1) ?_
        refine And.intro (Leaf.mk ?_) ?_
        · repeat' first | exact True.intro | refine And.intro ?_ ?_
          all_goals try ((change _ = _ <;> try dsimp only) <;> try with_reducible rfl)
          all_goals try omega
          all_goals (first | exact e | exact congrArg List.length e | rfl)
        exact ⟨avOk_next hi (show 0 < ls.length by omega) he rfl, by show ls.length - (0 + 1) < ls.length - 0; omega⟩
      · rename_i i hi hlt he hne hll
        have hp := avP_len (ls := ls) (i := i) (by omega)
        have hl := lP_len (show lE (ls.getD i []) = 0 from he)
        have hll : ¬ ((lP (ls.getD i [])).length : Int) = ((avP ls i).length : Int) := hll
        have e := hi.2.1
        rw [avF_step (by omega), if_pos (show lE (ls.getD i []) = 0 from he), if_neg (by omega)] at e
        rw [u, v, ← e]; exact ⟨rfl, rfl⟩
      · rename_i i hi hlt he hne hll
        have e : avP ls i = tab (avG ls i 0) (avN ls) := by
          rw [avG_zero]; unfold avP; rw [if_neg (by omega)]; rfl
        refine GHeld.mk ?_
        refine Exists.intro 0 ?_
        refine And.intro (Leaf.mk ?_) ?_
        · repeat' first | exact True.intro | refine And.intro ?_ ?_
          all_goals try ((change _ = _ <;> try dsimp only) <;> try with_reducible rfl)
          all_goals try omega
          all_goals (first | exact e | exact congrArg List.length e | rfl)
        exact Nat.zero_le _
      · rename_i i hi hlt he hne hll k hk hlk
        have hp := avP_len (ls := ls) (i := i) (by omega)
        have hl := lP_len (show lE (ls.getD i []) = 0 from he)
        have hb := (lE_ok (show lE (ls.getD i []) = 0 from he)).2.1
        have hll : ((lP (ls.getD i [])).length : Int) = ((avP ls i).length : Int) := hll
        have hlk : (k : Int) < ((lP (ls.getD i [])).length : Int) := hlk
        omega
      · rename_i i hi hlt he hne hll k hk hlk
        have hp := avP_len (ls := ls) (i := i) (by omega)
        have hl := lP_len (show lE (ls.getD i []) = 0 from he)
        have hb := (lE_ok (show lE (ls.getD i []) = 0 from he)).2.1
        have hll : ((lP (ls.getD i [])).length : Int) = ((avP ls i).length : Int) := hll
        have hlk : (k : Int) < ((lP (ls.getD i [])).length : Int) := hlk
        omega
      · rename_i i hi hlt he hne hll k hk hlk
        have b1 := (tab_in (B := 600000000) (n := avN ls) (by decide) (fun j => avG_in (ls := ls) (i := i) (k := k) (by omega) j)) k
        have b2 := lP_in (ls.getD i []) k
        exact ⟨okI_le b1.1 (by decide), okI_le b1.2 (by decide), okI_le b2.1 (by decide), okI_le b2.2 (by decide)⟩
      · rename_i i hi hlt he hne hll k hk hlk
        have hp := avP_len (ls := ls) (i := i) (by omega)
        have hl := lP_len (show lE (ls.getD i []) = 0 from he)
        have hb := (lE_ok (show lE (ls.getD i []) = 0 from he)).2.1
        have hll : ((lP (ls.getD i [])).length : Int) = ((avP ls i).length : Int) := hll
        have hlk : (k : Int) < ((lP (ls.getD i [])).length : Int) := hlk
        omega
      · rename_i i hi hlt he hne hll k hk hlk
        have hp := avP_len (ls := ls) (i := i) (by omega)
        have hl := lP_len (show lE (ls.getD i []) = 0 from he)
        have hb := (lE_ok (show lE (ls.getD i []) = 0 from he)).2.1
        have hll : ((lP (ls.getD i [])).length : Int) = ((avP ls i).length : Int) := hll
        have hlk : (k : Int) < ((lP (ls.getD i [])).length : Int) := hlk
        omega
      · rename_i i hi hlt he hne hll k hk hlk
        have hp := avP_len (ls := ls) (i := i) (by omega)
        have hl := lP_len (show lE (ls.getD i []) = 0 from he)
        have hb := (lE_ok (show lE (ls.getD i []) = 0 from he)).2.1
        have hll : ((lP (ls.getD i [])).length : Int) = ((avP ls i).length : Int) := hll
        have hlk : (k : Int) < ((lP (ls.getD i [])).length : Int) := hlk
        omega
      · rename_i i hi hlt he hne hll k hk hlk
        have hp := avP_len (ls := ls) (i := i) (by omega)
        have hl := lP_len (show lE (ls.getD i []) = 0 from he)
        have hb := (lE_ok (show lE (ls.getD i []) = 0 from he)).2.1
        have hll : ((lP (ls.getD i [])).length : Int) = ((avP ls i).length : Int) := hll
        have hlk : (k : Int) < ((lP (ls.getD i [])).length : Int) := hlk
        have e := avG_set (ls := ls) (i := i) (k := k) (n := avN ls) (by omega)
        refine GHeld.mk ?_
        refine Exists.intro (k + 1) ?_
        refine And.intro (Leaf.mk ?_) ?_
        · repeat' first | exact True.intro | refine And.intro ?_ ?_
          all_goals try ((change _ = _ <;> try dsimp only) <;> try with_reducible rfl)
          all_goals try omega
          all_goals (first | exact e | exact (tab_len _ _).trans (tab_len _ _).symm | rfl)
        exact ⟨by show k + 1 ≤ avN ls; omega, by show avN ls - (k + 1) < avN ls - k; omega⟩
      · rename_i i hi hlt he hne hll k hk hge
        have hp := avP_len (ls := ls) (i := i) (by omega)
        have hl := lP_len (show lE (ls.getD i []) = 0 from he)
        have hb := (lE_ok (show lE (ls.getD i []) = 0 from he)).2.1
        have hll : ((lP (ls.getD i [])).length : Int) = ((avP ls i).length : Int) := hll
        have hge : ((lP (ls.getD i [])).length : Int) ≤ (k : Int) := hge
        have e : tab (avG ls i k) (avN ls) = avP ls (i + 1) := by
          rw [show k = avN ls by omega, avG_all]; unfold avP; rw [if_neg (by omega)]; rfl
        refine GHeld.mk ?_
        refine Exists.intro (i + 1) ?_
        refine And.intro (Leaf.mk ?_) ?_
        · repeat' first | exact True.intro | refine And.intro ?_ ?_
          all_goals try ((change _ = _ <;> try dsimp only) <;> try with_reducible rfl)
          all_goals try omega
          all_goals (first | exact e | exact congrArg List.length e | rfl)
        exact ⟨avOk_next hi (show i < ls.length by omega) he (show (ls.getD i []).length = avN ls by omega), by show ls.length - (i + 1) < ls.length - i; omega⟩
      · rename_i c hc hge
        have hcl : c = ls.length := by have := hc.1; omega
        have e : avP ls c = tab (avH ls 0) (avN ls) := by
          rw [avH_zero, hcl]; unfold avP; rw [if_neg (by omega)]; rfl
        refine GHeld.mk ?_
        refine Exists.intro 0 ?_
        refine And.intro (Leaf.mk ?_) ?_
        · repeat' first | exact True.intro | refine And.intro ?_ ?_
          all_goals try ((change _ = _ <;> try dsimp only) <;> try with_reducible rfl)
          all_goals try omega
          all_goals (first | exact e | exact congrArg List.length e | rfl)
        exact Nat.zero_le _
      · rename_i c hc hge k hk hlk
        have hcl : c = ls.length := by have := hc.1; omega
        have hp := avP_len (ls := ls) (i := c) (by omega)
        have hb := (lE_ok (hc.2.2 0 (by omega)).1).2.1
        have hb : avN ls ≤ 1024 := hb
        omega
      · rename_i c hc hge k hk hlk
        have b1 := (tab_in (B := 1300000000) (n := avN ls) (by decide) (fun j => avH_in (ls := ls) (k := k) (by omega) j)) k
        exact ⟨⟨Int.le_trans (by decide) b1.1.1, Int.le_trans b1.1.2 (by decide)⟩, (show (1 : Int) ≤ (ls.length : Int) by omega), (show (ls.length : Int) ≤ 1000000 by omega)⟩
      · rename_i c hc hge k hk hlk
        have b1 := (tab_in (B := 1300000000) (n := avN ls) (by decide) (fun j => avH_in (ls := ls) (k := k) (by omega) j)) k
        exact ⟨⟨Int.le_trans (by decide) b1.2.1, Int.le_trans b1.2.2 (by decide)⟩, (show (1 : Int) ≤ (ls.length : Int) by omega), (show (ls.length : Int) ≤ 1000000 by omega)⟩
      · rename_i c hc hge k hk hlk
        have hcl : c = ls.length := by have := hc.1; omega
        have hp := avP_len (ls := ls) (i := c) (by omega)
        have hb := (lE_ok (hc.2.2 0 (by omega)).1).2.1
        have hb : avN ls ≤ 1024 := hb
        omega
      · rename_i c hc hge k hk hlk
        have hcl : c = ls.length := by have := hc.1; omega
        have hp := avP_len (ls := ls) (i := c) (by omega)
        have hb := (lE_ok (hc.2.2 0 (by omega)).1).2.1
        have hb : avN ls ≤ 1024 := hb
        omega
      · rename_i c hc hge k hk hlk
        have hcl : c = ls.length := by have := hc.1; omega
        have hp := avP_len (ls := ls) (i := c) (by omega)
        have hb := (lE_ok (hc.2.2 0 (by omega)).1).2.1
        have hb : avN ls ≤ 1024 := hb
        omega
      · rename_i c hc hge k hk hlk
        have hcl : c = ls.length := by have := hc.1; omega
        have hp := avP_len (ls := ls) (i := c) (by omega)
        have hb := (lE_ok (hc.2.2 0 (by omega)).1).2.1
        have hb : avN ls ≤ 1024 := hb
        have hlk : (k : Int) < ((avP ls c).length : Int) := hlk
        have e := avH_set (ls := ls) (k := k) (n := avN ls) (by omega)
        refine GHeld.mk ?_
        refine Exists.intro (k + 1) ?_
        refine And.intro (Leaf.mk ?_) ?_
        · repeat' first | exact True.intro | refine And.intro ?_ ?_
          all_goals try ((change _ = _ <;> try dsimp only) <;> try with_reducible rfl)
          all_goals try omega
          all_goals (first | exact e | exact (tab_len _ _).trans (tab_len _ _).symm | rfl)
        exact ⟨by show k + 1 ≤ avN ls; omega, by show avN ls - (k + 1) < avN ls - k; omega⟩
      · rename_i c hc hge k hk hlk
        have hcl : c = ls.length := by have := hc.1; omega
        have hp := avP_len (ls := ls) (i := c) (by omega)
        have hb := (lE_ok (hc.2.2 0 (by omega)).1).2.1
        have hb : avN ls ≤ 1024 := hb
        exact hp.trans (tab_len _ _).symm
      · rename_i c hc hge k hk hlk
        have hcl : c = ls.length := by have := hc.1; omega
        have hp := avP_len (ls := ls) (i := c) (by omega)
        have hb := (lE_ok (hc.2.2 0 (by omega)).1).2.1
        have hb : avN ls ≤ 1024 := hb
        omega
      · rename_i c hc hge k hk hlk
        have hcl : c = ls.length := by have := hc.1; omega
        have hp := avP_len (ls := ls) (i := c) (by omega)
        have hb := (lE_ok (hc.2.2 0 (by omega)).1).2.1
        have hb : avN ls ≤ 1024 := hb
        have e : avF (avN ls) ls = 0 := by
          rw [← hc.2.1, hcl, List.drop_eq_nil_of_le (Nat.le_refl _)]; rfl
        rw [u, v, e, show k = avN ls by omega, avH_all]; exact ⟨rfl, rfl⟩

end Go.Eng.Pu
