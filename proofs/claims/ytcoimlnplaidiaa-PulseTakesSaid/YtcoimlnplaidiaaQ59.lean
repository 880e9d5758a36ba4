/- Contracts: means of recordings, the reference's. Conditions: each contract's own. -/
import Derived.Test.YtcoimlnplaidiaaQ58
namespace Go.Eng.Pu
open Go.Eng Go.Proofs
set_option linter.all false
set_option maxRecDepth 100000
set_option maxHeartbeats 8000000

/-- ref.Averaged -/
theorem h59 : Ok 59 sAver := by
  refine mk (ctr := [(76, sListE), (99, sPairs), (124, sFloor), (97, sToldR)]) ⟨h76n, h99n, h124, h97n, trivial⟩ (nt := 128) Try.func59 rfl rfl rfl rfl (by kernel_rfl) (by kernel_rfl) (fun x => [fun _ => { σ := Nat, pat := fun i => [sI 4 i], inv := fun i => avOk x.1 i, meas := fun i => List.length (α := CL) x.1 - i }, fun _ => { σ := Nat, pat := fun i => [sI 7 i, .row 46 158 PairT (avT x.1 i)], inv := fun i => i ≤ List.length (α := CL) x.1, meas := fun i => List.length (α := CL) x.1 - i }, fun st => withI 7 st fun i => { σ := Nat, pat := fun k => [sI 9 k, .row 46 158 PairT (tab (avG x.1 i.toNat k) (avN x.1))], inv := fun k => k ≤ avN x.1, meas := fun k => avN x.1 - k }, fun _ => { σ := Nat, pat := fun k => [sI 11 k, .row 46 158 PairT (tab (avH x.1 k) (avN x.1))], inv := fun k => k ≤ avN x.1, meas := fun k => avN x.1 - k }]) ?_
  rintro ⟨(ls : CLL), _⟩ _
  by_cases h0 : ls.length = 0
  · have u : avE ls = 10 := by unfold avE; rw [if_pos h0]
    have v : avR ls = [] := by unfold avR; rw [if_pos h0]
    repeat' (intro hzz; (try (rename Two => hq; cases hq)); (try dsimp only at hzz); (try simp only [resTy, argTy, eqD, inR, big, wantOf, Bool.not_true, Bool.not_false, Bool.true_eq, decide_eq_true_eq, decide_eq_false_iff_not, Bool.not_eq_true', Bool.not_eq_false', Bool.and_eq_true, Prod.mk.injEq, and_true, true_and, Int.not_lt, Int.not_le, gt_iff_lt, ge_iff_le] at hzz); (try simp only [resTy, argTy, eqD, inR, big, wantOf, Bool.not_true, Bool.not_false, Bool.true_eq, decide_eq_true_eq, decide_eq_false_iff_not, Bool.not_eq_true', Bool.not_eq_false', Bool.and_eq_true, Prod.mk.injEq, and_true, true_and, Int.not_lt, Int.not_le, gt_iff_lt, ge_iff_le, u, v] at hzz); (try (first | contradiction | (exfalso; omega))); (try (revert hzz; intro _)))
    all_goals try (rename Unit => hq; clear hq)
    all_goals try ((with_reducible refine Held.mk ?_); (with_reducible (first | refine Frz.mk ?_ | refine And.intro (Frz.mk ?_) ?_ | refine And.intro ?_ (Frz.mk ?_))); repeat' first | exact True.intro | (change _ = _; with_reducible rfl) | refine And.intro ?_ ?_ | (with_reducible refine Frz.mk ?_))
    all_goals try (refine Held.mk ?_; (try dsimp only at *); (try simp only [resTy, argTy, eqD, inR, big, wantOf, Bool.not_true, Bool.not_false, Bool.true_eq, decide_eq_true_eq, decide_eq_false_iff_not, Bool.not_eq_true', Bool.not_eq_false', Bool.and_eq_true, Prod.mk.injEq, and_true, true_and, Int.not_lt, Int.not_le, gt_iff_lt, ge_iff_le] at *); (try simp only [resTy, argTy, eqD, inR, big, wantOf, Bool.not_true, Bool.not_false, Bool.true_eq, decide_eq_true_eq, decide_eq_false_iff_not, Bool.not_eq_true', Bool.not_eq_false', Bool.and_eq_true, Prod.mk.injEq, and_true, true_and, Int.not_lt, Int.not_le, gt_iff_lt, ge_iff_le, u, v] at *))
    all_goals try omega
  · by_cases h32 : 32 < ls.length
    · have u : avE ls = 8 := by unfold avE; rw [if_neg h0, if_pos h32]
      have v : avR ls = [] := by unfold avR; rw [if_neg h0, if_pos h32]
      repeat' (intro hzz; (try (rename Two => hq; cases hq)); (try dsimp only at hzz); (try simp only [resTy, argTy, eqD, inR, big, wantOf, Bool.not_true, Bool.not_false, Bool.true_eq, decide_eq_true_eq, decide_eq_false_iff_not, Bool.not_eq_true', Bool.not_eq_false', Bool.and_eq_true, Prod.mk.injEq, and_true, true_and, Int.not_lt, Int.not_le, gt_iff_lt, ge_iff_le] at hzz); (try simp only [resTy, argTy, eqD, inR, big, wantOf, Bool.not_true, Bool.not_false, Bool.true_eq, decide_eq_true_eq, decide_eq_false_iff_not, Bool.not_eq_true', Bool.not_eq_false', Bool.and_eq_true, Prod.mk.injEq, and_true, true_and, Int.not_lt, Int.not_le, gt_iff_lt, ge_iff_le, u, v] at hzz); (try (first | contradiction | (exfalso; omega))); (try (revert hzz; intro _)))
      all_goals try (rename Unit => hq; clear hq)
      all_goals try ((with_reducible refine Held.mk ?_); (with_reducible (first | refine Frz.mk ?_ | refine And.intro (Frz.mk ?_) ?_ | refine And.intro ?_ (Frz.mk ?_))); repeat' first | exact True.intro | (change _ = _; with_reducible rfl) | refine And.intro ?_ ?_ | (with_reducible refine Frz.mk ?_))
      all_goals try (refine Held.mk ?_; (try dsimp only at *); (try simp only [resTy, argTy, eqD, inR, big, wantOf, Bool.not_true, Bool.not_false, Bool.true_eq, decide_eq_true_eq, decide_eq_false_iff_not, Bool.not_eq_true', Bool.not_eq_false', Bool.and_eq_true, Prod.mk.injEq, and_true, true_and, Int.not_lt, Int.not_le, gt_iff_lt, ge_iff_le] at *); (try simp only [resTy, argTy, eqD, inR, big, wantOf, Bool.not_true, Bool.not_false, Bool.true_eq, decide_eq_true_eq, decide_eq_false_iff_not, Bool.not_eq_true', Bool.not_eq_false', Bool.and_eq_true, Prod.mk.injEq, and_true, true_and, Int.not_lt, Int.not_le, gt_iff_lt, ge_iff_le, u, v] at *))
      all_goals try omega
    · have u : avE ls = if avF (avN ls) ls = 0 then tE (avL ls) else avF (avN ls) ls := by unfold avE; rw [if_neg h0, if_neg h32]
      have v : avR ls = if avF (avN ls) ls = 0 then tL (avL ls) else [] := by unfold avR; rw [if_neg h0, if_neg h32]
      have hfin : ∀ c : Nat, avOk ls c → (ls.length : Int) ≤ c → avN ls ≤ 1024 ∧ ∀ i, i < ls.length → lE (ls.getD i []) = 0 ∧ (lP (ls.getD i [])).length = avN ls := fun c hc hge => by
        refine ⟨(lE_ok (hc.2.2 0 (by omega)).1).2.1, fun i hi => ?_⟩
        have := hc.2.2 i (by omega)
        exact ⟨this.1, (lP_len this.1).trans this.2⟩
      have hrl : (repl ((avN ls : Nat) : Int) ((0 : Int), (0 : Int), ())).length = avN ls := rep_len _ _
      have hM : ∀ k : Nat, k < avN ls → 0 ≤ (k : Int) ∧ (k : Int) < ((repl ((avN ls : Nat) : Int) ((0 : Int), (0 : Int), ())).length : Int) := fun k hk => ⟨by omega, by omega⟩
      repeat' (intro hzz; (try (rename Two => hq; cases hq)); (try dsimp only at hzz); (try simp only [resTy, argTy, eqD, inR, big, wantOf, Bool.not_true, Bool.not_false, Bool.true_eq, decide_eq_true_eq, decide_eq_false_iff_not, Bool.not_eq_true', Bool.not_eq_false', Bool.and_eq_true, Prod.mk.injEq, and_true, true_and, Int.not_lt, Int.not_le, gt_iff_lt, ge_iff_le] at hzz); (try simp only [resTy, argTy, eqD, inR, big, wantOf, Bool.not_true, Bool.not_false, Bool.true_eq, decide_eq_true_eq, decide_eq_false_iff_not, Bool.not_eq_true', Bool.not_eq_false', Bool.and_eq_true, Prod.mk.injEq, and_true, true_and, Int.not_lt, Int.not_le, gt_iff_lt, ge_iff_le, tab_len] at hzz); (try (first | contradiction | (exfalso; omega))); (try (revert hzz; intro _)))
      all_goals try (rename Unit => hq; clear hq)
      all_goals try ((with_reducible refine Held.mk ?_); (with_reducible (first | refine Frz.mk ?_ | refine And.intro (Frz.mk ?_) ?_ | refine And.intro ?_ (Frz.mk ?_))); repeat' first | exact True.intro | (change _ = _; with_reducible rfl) | refine And.intro ?_ ?_ | (with_reducible refine Frz.mk ?_))
      all_goals try (refine Held.mk ?_; (try dsimp only at *); (try simp only [resTy, argTy, eqD, inR, big, wantOf, Bool.not_true, Bool.not_false, Bool.true_eq, decide_eq_true_eq, decide_eq_false_iff_not, Bool.not_eq_true', Bool.not_eq_false', Bool.and_eq_true, Prod.mk.injEq, and_true, true_and, Int.not_lt, Int.not_le, gt_iff_lt, ge_iff_le] at *); (try simp only [resTy, argTy, eqD, inR, big, wantOf, Bool.not_true, Bool.not_false, Bool.true_eq, decide_eq_true_eq, decide_eq_false_iff_not, Bool.not_eq_true', Bool.not_eq_false', Bool.and_eq_true, Prod.mk.injEq, and_true, true_and, Int.not_lt, Int.not_le, gt_iff_lt, ge_iff_le, tab_len] at *))
      all_goals try omega
      · 
        refine GHeld.mk ?_
        refine Exists.intro 0 ?_
        refine And.intro (Leaf.mk ?_) ?_
        · repeat' first | exact True.intro | refine And.intro ?_ ?_
          all_goals try ((change _ = _ <;> try dsimp only) <;> try with_reducible rfl)
          all_goals try omega
          all_goals (rfl)
        exact avOk_zero ls
      · rename_i i hi hlt he
        have he : ¬ lE (ls.getD i []) = 0 := he
        have e := hi.2.1
        rw [avF_step (by omega), if_neg he] at e
        rw [u, v, ← e, if_neg he, if_neg he]; exact ⟨rfl, rfl⟩
      · rename_i i hi hlt he hll
        have e := hi.2.1
        have hll : ¬ ((ls.getD i []).length : Int) = (avN ls : Int) := hll
        rw [avF_step (by omega), if_pos (show lE (ls.getD i []) = 0 from he), if_neg (by omega)] at e
        rw [u, v, ← e]; exact ⟨rfl, rfl⟩
      · rename_i i hi hlt he hll
        have hll : ((ls.getD i []).length : Int) = (avN ls : Int) := hll
        refine GHeld.mk ?_
        refine Exists.intro (i + 1) ?_
        refine And.intro (Leaf.mk ?_) ?_
        · repeat' first | exact True.intro | refine And.intro ?_ ?_
          all_goals try ((change _ = _ <;> try dsimp only) <;> try with_reducible rfl)
          all_goals try omega
          all_goals (rfl)
        exact ⟨avOk_next hi (show i < ls.length by omega) he (show (ls.getD i []).length = avN ls by omega), by show ls.length - (i + 1) < ls.length - i; omega⟩
      · rename_i c hc hge
        have q := hfin _ hc hge
        exact ⟨(show (0 : Int) ≤ (avN ls : Int) by omega), (show (avN ls : Int) ≤ 2147483648 by omega)⟩
      · rename_i c hc hge
        have e : repl ((avN ls : Nat) : Int) ((0 : Int), (0 : Int), ()) = avT ls 0 := by
          rw [repl_tab]; rfl
        refine GHeld.mk ?_
        refine Exists.intro 0 ?_
        refine And.intro (Leaf.mk ?_) ?_
        · repeat' first | exact True.intro | refine And.intro ?_ ?_
          all_goals try ((change _ = _ <;> try dsimp only) <;> try with_reducible rfl)
          all_goals try omega
          all_goals (first | exact e | exact congrArg List.length e | rfl)
        exact Nat.zero_le _
      · rename_i c hc hge i hi hlt
        exact ((hfin _ hc hge).2 i (by omega)).1
      · rename_i c hc hge i hi hlt
        have e : avT ls i = tab (avG ls i 0) (avN ls) := (avG_zero _ _ _).symm
        refine GHeld.mk ?_
        refine Exists.intro 0 ?_
        refine And.intro (Leaf.mk ?_) ?_
        · repeat' first | exact True.intro | refine And.intro ?_ ?_
          all_goals try ((change _ = _ <;> try dsimp only) <;> try with_reducible rfl)
          all_goals try omega
          all_goals (first | exact e | exact congrArg List.length e | rfl)
        exact Nat.zero_le _
      · rename_i c hc hge i hi hlt k hk hlk
        have q := hfin _ hc hge
        have q2 := (q.2 i (by omega)).2
        have hlk : (k : Int) < ((lP (ls.getD i [])).length : Int) := hlk
        exact hM k (by omega)
      · rename_i c hc hge i hi hlt k hk hlk
        have q := hfin _ hc hge
        have q2 := (q.2 i (by omega)).2
        have hlk : (k : Int) < ((lP (ls.getD i [])).length : Int) := hlk
        omega
      · rename_i c hc hge i hi hlt k hk hlk
        have b1 := (tab_in (B := 600000000) (n := avN ls) (by decide) (fun j => avG_in (ls := ls) (i := i) (k := k) (by omega) j)) k
        have b2 := lP_in (ls.getD i []) k
        exact add_ok b1.1 b2.1
      · rename_i c hc hge i hi hlt k hk hlk
        have q := hfin _ hc hge
        have q2 := (q.2 i (by omega)).2
        have hlk : (k : Int) < ((lP (ls.getD i [])).length : Int) := hlk
        exact hM k (by omega)
      · rename_i c hc hge i hi hlt k hk hlk
        have q := hfin _ hc hge
        have q2 := (q.2 i (by omega)).2
        have hlk : (k : Int) < ((lP (ls.getD i [])).length : Int) := hlk
        omega
      · rename_i c hc hge i hi hlt k hk hlk
        have b1 := (tab_in (B := 600000000) (n := avN ls) (by decide) (fun j => avG_in (ls := ls) (i := i) (k := k) (by omega) j)) k
        have b2 := lP_in (ls.getD i []) k
        exact add_ok b1.2 b2.2
      · rename_i c hc hge i hi hlt k hk hlk
        have q := hfin _ hc hge
        have q2 := (q.2 i (by omega)).2
        have hlk : (k : Int) < ((lP (ls.getD i [])).length : Int) := hlk
        exact hM k (by omega)
      · rename_i c hc hge i hi hlt k hk hlk
        have q := hfin _ hc hge
        have q2 := (q.2 i (by omega)).2
        have hlk : (k : Int) < ((lP (ls.getD i [])).length : Int) := hlk
        omega
      · rename_i c hc hge i hi hlt k hk hlk
        have q := hfin _ hc hge
        have q2 := (q.2 i (by omega)).2
        have hlk : (k : Int) < ((lP (ls.getD i [])).length : Int) := hlk
        omega
      · rename_i c hc hge i hi hlt k hk hlk
        have q := hfin _ hc hge
        have q2 := (q.2 i (by omega)).2
        have hlk : (k : Int) < ((lP (ls.getD i [])).length : Int) := hlk
        have e := avG_set (ls := ls) (i := i) (k := k) (n := avN ls) (by omega)
        refine GHeld.mk ?_
        refine Exists.intro (k + 1) ?_
        refine And.intro (Leaf.mk ?_) ?_
        · repeat' first | exact True.intro | refine And.intro ?_ ?_
          all_goals try ((change _ = _ <;> try dsimp only) <;> try with_reducible rfl)
          all_goals try omega
          all_goals (first | exact e | exact (tab_len _ _).trans (tab_len _ _).symm | rfl)
        exact ⟨by show k + 1 ≤ avN ls; omega, by show avN ls - (k + 1) < avN ls - k; omega⟩
      · rename_i c hc hge i hi hlt k hk hkg
        have q := hfin _ hc hge
        have q2 := (q.2 i (by omega)).2
        have hkg : ((lP (ls.getD i [])).length : Int) ≤ (k : Int) := hkg
        have e : tab (avG ls i k) (avN ls) = avT ls (i + 1) := by
          rw [show k = avN ls by omega, avG_all]; rfl
        refine GHeld.mk ?_
        refine Exists.intro (i + 1) ?_
        refine And.intro (Leaf.mk ?_) ?_
        · repeat' first | exact True.intro | refine And.intro ?_ ?_
          all_goals try ((change _ = _ <;> try dsimp only) <;> try with_reducible rfl)
          all_goals try omega
          all_goals (first | exact e | exact congrArg List.length e | rfl)
        exact ⟨by show i + 1 ≤ ls.length; omega, by show ls.length - (i + 1) < ls.length - i; omega⟩
      · rename_i c hc hge d hd hdg
        have e : avT ls d = tab (avH ls 0) (avN ls) := by
          rw [avH_zero, show d = ls.length by omega]; rfl
        refine GHeld.mk ?_
        refine Exists.intro 0 ?_
        refine And.intro (Leaf.mk ?_) ?_
        · repeat' first | exact True.intro | refine And.intro ?_ ?_
          all_goals try ((change _ = _ <;> try dsimp only) <;> try with_reducible rfl)
          all_goals try omega
          all_goals (first | exact e | exact congrArg List.length e | rfl)
        exact Nat.zero_le _
      · rename_i c hc hge d hd hdg k hk hlk
        have q := hfin _ hc hge
        have hlk : (k : Int) < (avN ls : Int) := by have h9 : (k : Int) < ((repl ((avN ls : Nat) : Int) ((0 : Int), (0 : Int), ())).length : Int) := hlk; omega
        omega
      · rename_i c hc hge d hd hdg k hk hlk
        have q := hfin _ hc hge
        have b := (tab_in (B := 1300000000) (n := avN ls) (by decide) (fun j => avH_in (ls := ls) (k := k) (by omega) j)) k
        have b := b.1
        show -9223372036854775808 ≤ 2 * ((tab (avH ls k) (avN ls)).getD k (0, 0, ())).1 ∧ 2 * ((tab (avH ls k) (avN ls)).getD k (0, 0, ())).1 ≤ 9223372036854775807
        omega
      · rename_i c hc hge d hd hdg k hk hlk
        have q := hfin _ hc hge
        have b := (tab_in (B := 1300000000) (n := avN ls) (by decide) (fun j => avH_in (ls := ls) (k := k) (by omega) j)) k
        have b := b.1
        show -9223372036854775808 ≤ 2 * ((tab (avH ls k) (avN ls)).getD k (0, 0, ())).1 + (ls.length : Int) ∧ 2 * ((tab (avH ls k) (avN ls)).getD k (0, 0, ())).1 + (ls.length : Int) ≤ 9223372036854775807
        omega
      · rename_i c hc hge d hd hdg k hk hlk
        have q := hfin _ hc hge
        have b := (tab_in (B := 1300000000) (n := avN ls) (by decide) (fun j => avH_in (ls := ls) (k := k) (by omega) j)) k
        have b := b.1
        show (0 : Int) < 2 * (ls.length : Int) ∧ -9000000000000000000 ≤ 2 * ((tab (avH ls k) (avN ls)).getD k (0, 0, ())).1 + (ls.length : Int) ∧ 2 * ((tab (avH ls k) (avN ls)).getD k (0, 0, ())).1 + (ls.length : Int) ≤ 9000000000000000000
        omega
      · rename_i c hc hge d hd hdg k hk hlk
        have q := hfin _ hc hge
        have hlk : (k : Int) < (avN ls : Int) := by have h9 : (k : Int) < ((repl ((avN ls : Nat) : Int) ((0 : Int), (0 : Int), ())).length : Int) := hlk; omega
        omega
      · rename_i c hc hge d hd hdg k hk hlk
        have q := hfin _ hc hge
        have b := (tab_in (B := 1300000000) (n := avN ls) (by decide) (fun j => avH_in (ls := ls) (k := k) (by omega) j)) k
        have b := b.2
        show -9223372036854775808 ≤ 2 * ((tab (avH ls k) (avN ls)).getD k (0, 0, ())).2.1 ∧ 2 * ((tab (avH ls k) (avN ls)).getD k (0, 0, ())).2.1 ≤ 9223372036854775807
        omega
      · rename_i c hc hge d hd hdg k hk hlk
        have q := hfin _ hc hge
        have b := (tab_in (B := 1300000000) (n := avN ls) (by decide) (fun j => avH_in (ls := ls) (k := k) (by omega) j)) k
        have b := b.2
        show -9223372036854775808 ≤ 2 * ((tab (avH ls k) (avN ls)).getD k (0, 0, ())).2.1 + (ls.length : Int) ∧ 2 * ((tab (avH ls k) (avN ls)).getD k (0, 0, ())).2.1 + (ls.length : Int) ≤ 9223372036854775807
        omega
      · rename_i c hc hge d hd hdg k hk hlk
        have q := hfin _ hc hge
        have b := (tab_in (B := 1300000000) (n := avN ls) (by decide) (fun j => avH_in (ls := ls) (k := k) (by omega) j)) k
        have b := b.2
        show (0 : Int) < 2 * (ls.length : Int) ∧ -9000000000000000000 ≤ 2 * ((tab (avH ls k) (avN ls)).getD k (0, 0, ())).2.1 + (ls.length : Int) ∧ 2 * ((tab (avH ls k) (avN ls)).getD k (0, 0, ())).2.1 + (ls.length : Int) ≤ 9000000000000000000
        omega
      · rename_i c hc hge d hd hdg k hk hlk
        have q := hfin _ hc hge
        have hlk : (k : Int) < (avN ls : Int) := by have h9 : (k : Int) < ((repl ((avN ls : Nat) : Int) ((0 : Int), (0 : Int), ())).length : Int) := hlk; omega
        omega
      · rename_i c hc hge d hd hdg k hk hlk
        have q := hfin _ hc hge
        have hlk : (k : Int) < (avN ls : Int) := by have h9 : (k : Int) < ((repl ((avN ls : Nat) : Int) ((0 : Int), (0 : Int), ())).length : Int) := hlk; omega
        omega
      · rename_i c hc hge d hd hdg k hk hlk
        have q := hfin _ hc hge
        have hlk : (k : Int) < (avN ls : Int) := by have h9 : (k : Int) < ((repl ((avN ls : Nat) : Int) ((0 : Int), (0 : Int), ())).length : Int) := hlk; omega
        have e := avH_set (ls := ls) (k := k) (n := avN ls) (by omega)
        refine GHeld.mk ?_
        refine Exists.intro (k + 1) ?_
        refine And.intro (Leaf.mk ?_) ?_
        · repeat' first | exact True.intro | refine And.intro ?_ ?_
          all_goals try ((change _ = _ <;> try dsimp only) <;> try with_reducible rfl)
          all_goals try omega
          all_goals (first | exact e | exact (tab_len _ _).trans (tab_len _ _).symm | rfl)
        exact ⟨by show k + 1 ≤ avN ls; omega, by show avN ls - (k + 1) < avN ls - k; omega⟩
      · exact hrl.trans (tab_len _ _).symm
      · exact hrl.trans (tab_len _ _).symm
      · exact hrl.trans (tab_len _ _).symm
      · exact hrl.trans (tab_len _ _).symm
      · rename_i c hc hge d hd hdg k hk hkg
        have q := hfin _ hc hge
        exact ⟨(show avN ls ≤ 2000000000 by omega), okL_mono (tab_in (B := 1300000000) (n := avN ls) (by decide) (fun j => avH_in (ls := ls) (k := k) (by omega) j)) (by decide)⟩
      · rename_i c hc hge d hd hdg k hk hkg
        have hkg : (avN ls : Int) ≤ (k : Int) := by have h9 : ((repl ((avN ls : Nat) : Int) ((0 : Int), (0 : Int), ())).length : Int) ≤ (k : Int) := hkg; omega
        have hcl : c = ls.length := by have h1 := hc.1; have h2 : (ls.length : Int) ≤ (c : Int) := hge; omega
        have e : avF (avN ls) ls = 0 := by
          rw [← hc.2.1, hcl, List.drop_eq_nil_of_le (Nat.le_refl _)]; rfl
        rw [u, v, e, show k = avN ls by omega, avH_all]; exact ⟨rfl, rfl⟩

end Go.Eng.Pu
