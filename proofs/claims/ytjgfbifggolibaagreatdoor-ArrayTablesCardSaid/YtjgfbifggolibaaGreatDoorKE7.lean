/- Texts A20 A21 W5, as far as they are used. Conditions: each lemma's own. -/
import Derived.Test.YtjgfbifggolibaaGreatDoorKE6
namespace Go.Eng.Ar
open Go.Eng Go.Proofs
set_option linter.all false
set_option maxRecDepth 100000
set_option maxHeartbeats 8000000
def intsB (a b : List Int) : Bool := decide (a = b)
def listsB (a b : List (List Int)) : Bool := decide (a = b)
@[reducible] def sInts : Spec := { pats := [.dat (.sl I64), .dat (.sl I64)], res := [{ t := .bool }], pre := fun x => pLen (List.length (α := Int) x.1) ∧ pLen (List.length (α := Int) x.2.1), f := fun x => (intsB x.1 x.2.1, ()) }
theorem dropL_ne {α : Type} {a b : List α} (h : a.length ≠ b.length) : a ≠ b := fun e => h (by rw [e])
theorem h101 : Ok 101 sInts := by
  refine mk (ctr := []) trivial (nt := 26) Tryz.func101 rfl rfl rfl rfl (by kernel_rfl) (by kernel_rfl) (fun x => [fun _ => { σ := Nat, pat := fun i => [sI 5 i], inv := fun i => i ≤ List.length (α := Int) x.1 ∧ intsB (List.drop (α := Int) i x.1) (List.drop (α := Int) i x.2.1) = intsB x.1 x.2.1, meas := fun i => List.length (α := Int) x.1 - i }]) ?_
  rintro ⟨(a : List Int), (b : List Int), _⟩ ⟨(hp : pLen a.length), (hq : pLen b.length)⟩
  have hp' := hp.out
  have hq' := hq.out
  repeat' (intro hzz; (try (rename Two => hq; cases hq)); (try dsimp only at hzz); (try simp only [resTy, argTy, eqD, inR, big, wantOf, Bool.not_true, Bool.not_false, Bool.true_eq, decide_eq_true_eq, decide_eq_false_iff_not, Bool.not_eq_true', Bool.not_eq_false', Bool.and_eq_true, Prod.mk.injEq, and_true, true_and, Int.not_lt, Int.not_le, gt_iff_lt, ge_iff_le] at hzz); (try simp only [resTy, argTy, eqD, inR, big, wantOf, Bool.not_true, Bool.not_false, Bool.true_eq, decide_eq_true_eq, decide_eq_false_iff_not, Bool.not_eq_true', Bool.not_eq_false', Bool.and_eq_true, Prod.mk.injEq, and_true, true_and, Int.not_lt, Int.not_le, gt_iff_lt, ge_iff_le, getD_i, Int.toNat_natCast] at hzz); (try (revert hzz; intro _)))
  all_goals try (rename Unit => hq; clear hq)
  all_goals try ((with_reducible refine Held.mk ?_); (with_reducible (first | refine Frz.mk ?_ | refine And.intro (Frz.mk ?_) ?_ | refine And.intro ?_ (Frz.mk ?_))); repeat' first | exact True.intro | (change _ = _; with_reducible rfl) | refine And.intro ?_ ?_ | (with_reducible refine Frz.mk ?_))
  all_goals try (refine Held.mk ?_; (try dsimp only at *); (try simp only [resTy, argTy, eqD, inR, big, wantOf, Bool.not_true, Bool.not_false, Bool.true_eq, decide_eq_true_eq, decide_eq_false_iff_not, Bool.not_eq_true', Bool.not_eq_false', Bool.and_eq_true, Prod.mk.injEq, and_true, true_and, Int.not_lt, Int.not_le, gt_iff_lt, ge_iff_le] at *); (try simp only [resTy, argTy, eqD, inR, big, wantOf, Bool.not_true, Bool.not_false, Bool.true_eq, decide_eq_true_eq, decide_eq_false_iff_not, Bool.not_eq_true', Bool.not_eq_false', Bool.and_eq_true, Prod.mk.injEq, and_true, true_and, Int.not_lt, Int.not_le, gt_iff_lt, ge_iff_le, getD_i, Int.toNat_natCast] at *))
  all_goals try omega
  · rename_i h
    exact (decide_eq_false (dropL_ne (fun e => h (by rw [e])))).symm
  · rename_i h
    refine GHeld.mk ?_
    refine Exists.intro (0 : Nat) ?_
    refine And.intro (Leaf.mk ?_) ?_
    · repeat' first | exact True.intro | refine And.intro ?_ ?_
      all_goals try ((change _ = _ <;> try dsimp only) <;> try with_reducible rfl)
      all_goals try omega
      all_goals (rfl)
    exact ⟨Nat.zero_le _, rfl⟩
  · rename_i h k hk hlt hn
    have e := hk.2
    rw [drop_get (xs := a) (by omega), drop_get (xs := b) (by omega)] at e
    exact (decide_eq_false (fun q => hn (List.cons.inj q).1)).symm.trans e
  · rename_i h k hk hlt hn
    have e := hk.2
    rw [drop_get (xs := a) (by omega), drop_get (xs := b) (by omega)] at e
    refine GHeld.mk ?_
    refine Exists.intro (k + 1) ?_
    refine And.intro (Leaf.mk ?_) ?_
    · repeat' first | exact True.intro | refine And.intro ?_ ?_
      all_goals try ((change _ = _ <;> try dsimp only) <;> try with_reducible rfl)
      all_goals try omega
      all_goals (rfl)
    have hn : a.getD k 0 = b.getD k 0 := hn
    rw [hn] at e
    refine ⟨⟨(show k + 1 ≤ a.length by omega), Eq.trans ?_ e⟩, (show a.length - (k + 1) < a.length - k by omega)⟩
    show decide _ = decide _
    congr 1
    exact propext ⟨fun q => by rw [q], fun q => (List.cons.inj q).2⟩
  · rename_i h k hk hlt
    have e := hk.2
    rw [List.drop_eq_nil_of_le (by omega), List.drop_eq_nil_of_le (show b.length ≤ k by omega)] at e
    exact e.symm
@[reducible] def sLists : Spec := { pats := [.dat (.sl (.sl I64)), .dat (.sl (.sl I64))], res := [{ t := .bool }], pre := fun x => pLen (List.length (α := List Int) x.1) ∧ pLen (List.length (α := List Int) x.2.1) ∧ ∀ i, pLen (rowN x.1 i).length ∧ pLen (rowN x.2.1 i).length, f := fun x => (listsB x.1 x.2.1, ()) }
theorem h39 : Ok 39 sLists := by
  refine mk (ctr := [(101, sInts)]) ⟨h101, trivial⟩ (nt := 27) Tryz.func39 rfl rfl rfl rfl (by kernel_rfl) (by kernel_rfl) (fun x => [fun _ => { σ := Nat, pat := fun i => [sI 5 i], inv := fun i => i ≤ List.length (α := List Int) x.1 ∧ listsB (List.drop (α := List Int) i x.1) (List.drop (α := List Int) i x.2.1) = listsB x.1 x.2.1, meas := fun i => List.length (α := List Int) x.1 - i }]) ?_
  rintro ⟨(a : List (List Int)), (b : List (List Int)), _⟩ ⟨(hp : pLen a.length), (hq : pLen b.length), (hr : ∀ i, pLen (rowN a i).length ∧ pLen (rowN b i).length)⟩
  have hp' := hp.out
  have hq' := hq.out
  repeat' (intro hzz; (try (rename Two => hq; cases hq)); (try dsimp only at hzz); (try simp only [resTy, argTy, eqD, inR, big, wantOf, Bool.not_true, Bool.not_false, Bool.true_eq, decide_eq_true_eq, decide_eq_false_iff_not, Bool.not_eq_true', Bool.not_eq_false', Bool.and_eq_true, Prod.mk.injEq, and_true, true_and, Int.not_lt, Int.not_le, gt_iff_lt, ge_iff_le] at hzz); (try simp only [resTy, argTy, eqD, inR, big, wantOf, Bool.not_true, Bool.not_false, Bool.true_eq, decide_eq_true_eq, decide_eq_false_iff_not, Bool.not_eq_true', Bool.not_eq_false', Bool.and_eq_true, Prod.mk.injEq, and_true, true_and, Int.not_lt, Int.not_le, gt_iff_lt, ge_iff_le, getD_l, getD_i, Int.toNat_natCast] at hzz); (try (revert hzz; intro _)))
  all_goals try (rename Unit => hq; clear hq)
  all_goals try ((with_reducible refine Held.mk ?_); (with_reducible (first | refine Frz.mk ?_ | refine And.intro (Frz.mk ?_) ?_ | refine And.intro ?_ (Frz.mk ?_))); repeat' first | exact True.intro | (change _ = _; with_reducible rfl) | refine And.intro ?_ ?_ | (with_reducible refine Frz.mk ?_))
  all_goals try (refine Held.mk ?_; (try dsimp only at *); (try simp only [resTy, argTy, eqD, inR, big, wantOf, Bool.not_true, Bool.not_false, Bool.true_eq, decide_eq_true_eq, decide_eq_false_iff_not, Bool.not_eq_true', Bool.not_eq_false', Bool.and_eq_true, Prod.mk.injEq, and_true, true_and, Int.not_lt, Int.not_le, gt_iff_lt, ge_iff_le] at *); (try simp only [resTy, argTy, eqD, inR, big, wantOf, Bool.not_true, Bool.not_false, Bool.true_eq, decide_eq_true_eq, decide_eq_false_iff_not, Bool.not_eq_true', Bool.not_eq_false', Bool.and_eq_true, Prod.mk.injEq, and_true, true_and, Int.not_lt, Int.not_le, gt_iff_lt, ge_iff_le, getD_l, getD_i, Int.toNat_natCast] at *))
  all_goals try omega
  · rename_i h
    exact (decide_eq_false (dropL_ne (fun e => h (by rw [e])))).symm
  · rename_i h
    refine GHeld.mk ?_
    refine Exists.intro (0 : Nat) ?_
    refine And.intro (Leaf.mk ?_) ?_
    · repeat' first | exact True.intro | refine And.intro ?_ ?_
      all_goals try ((change _ = _ <;> try dsimp only) <;> try with_reducible rfl)
      all_goals try omega
      all_goals (rfl)
    exact ⟨Nat.zero_le _, rfl⟩
  · rename_i h k hk hlt
    exact hr k
  · rename_i h k hk hlt hn
    have e := hk.2
    rw [drop_getL (xs := a) (by omega), drop_getL (xs := b) (by omega)] at e
    have hn : ¬ a.getD k [] = b.getD k [] := of_decide_eq_false (show decide (a.getD k [] = b.getD k []) = false from hn)
    exact (decide_eq_false (fun q => hn (List.cons.inj q).1)).symm.trans e
  · rename_i h k hk hlt hn
    have e := hk.2
    rw [drop_getL (xs := a) (by omega), drop_getL (xs := b) (by omega)] at e
    refine GHeld.mk ?_
    refine Exists.intro (k + 1) ?_
    refine And.intro (Leaf.mk ?_) ?_
    · repeat' first | exact True.intro | refine And.intro ?_ ?_
      all_goals try ((change _ = _ <;> try dsimp only) <;> try with_reducible rfl)
      all_goals try omega
      all_goals (rfl)
    have hn : a.getD k [] = b.getD k [] := of_decide_eq_true (show decide (a.getD k [] = b.getD k []) = true from hn)
    rw [hn] at e
    refine ⟨⟨(show k + 1 ≤ a.length by omega), Eq.trans ?_ e⟩, (show a.length - (k + 1) < a.length - k by omega)⟩
    show decide _ = decide _
    congr 1
    exact propext ⟨fun q => by rw [q], fun q => (List.cons.inj q).2⟩
  · rename_i h k hk hlt
    have e := hk.2
    rw [List.drop_eq_nil_of_le (by omega), List.drop_eq_nil_of_le (show b.length ≤ k by omega)] at e
    exact e.symm
abbrev plN (l : List PlaceD) (i : Nat) : PlaceD := l.getD i (Ty.dflt PlaceT)
@[reducible] def sCopyP : Spec := { pats := [.dat (.sl PlaceT)], res := [{ t := .sl PlaceT }], pre := fun x => pTen (List.length (α := PlaceD) x.1), f := fun x => (x.1, ()) }
theorem h37 : Ok 37 sCopyP := by
  refine mk (ctr := []) trivial (nt := 6) Tryz.func37 rfl rfl rfl rfl (by kernel_rfl) (by kernel_rfl) (fun _ => []) ?_
  rintro ⟨(l : List PlaceD), _⟩ (hp : l.length ≤ 1000)
  repeat' (intro hzz; (try (rename Two => hq; cases hq)); (try dsimp only at hzz); (try simp only [resTy, argTy, eqD, inR, big, wantOf, Bool.not_true, Bool.not_false, Bool.true_eq, decide_eq_true_eq, decide_eq_false_iff_not, Bool.not_eq_true', Bool.not_eq_false', Bool.and_eq_true, Prod.mk.injEq, and_true, true_and, Int.not_lt, Int.not_le, gt_iff_lt, ge_iff_le] at hzz); (try (revert hzz; intro _)))
  all_goals try (rename Unit => hq; clear hq)
  all_goals try ((with_reducible refine Held.mk ?_); (with_reducible (first | refine Frz.mk ?_ | refine And.intro (Frz.mk ?_) ?_ | refine And.intro ?_ (Frz.mk ?_))); repeat' first | exact True.intro | (change _ = _; with_reducible rfl) | refine And.intro ?_ ?_ | (with_reducible refine Frz.mk ?_))
  all_goals try (refine Held.mk ?_; (try dsimp only at *); (try simp only [resTy, argTy, eqD, inR, big, wantOf, Bool.not_true, Bool.not_false, Bool.true_eq, decide_eq_true_eq, decide_eq_false_iff_not, Bool.not_eq_true', Bool.not_eq_false', Bool.and_eq_true, Prod.mk.injEq, and_true, true_and, Int.not_lt, Int.not_le, gt_iff_lt, ge_iff_le] at *))
  · show 0 + l.length ≤ 2147483648; omega
  · rfl
def tbW (xs : List SpkD) (p : PlaceD) (j : Nat) : Int := 1000 * stL (spkN xs j).1 p
def tbV (xs : List SpkD) (p : PlaceD) (u : Int) (j : Nat) : Int := (tbW xs p j * tbW xs p j) / u
def tbRow (xs : List SpkD) (p : PlaceD) (u : Int) (k : Nat) : List Int := tab (tbV xs p u) k
def okR (xs : List SpkD) (p : PlaceD) (u : Int) : Nat → Bool
  | 0 => true
  | k + 1 => okR xs p u k && decide (tbV xs p u k ≤ 100)
theorem okR_no {xs : List SpkD} {p : PlaceD} {u : Int} {k : Nat} (h : 100 < tbV xs p u k) : ∀ n, k < n → okR xs p u n = false
  | 0, hk => absurd hk (Nat.not_lt_zero _)
  | n + 1, hk => by
    simp only [okR]
    by_cases e : k = n
    · subst e; rw [decide_eq_false (by omega), Bool.and_false]
    · rw [okR_no h n (by omega), Bool.false_and]
def stE (xs : List SpkD) (u : Int) (p : PlaceD) : Int := if seatE xs p = 0 then (if okR xs p u xs.length = true then 0 else 8) else seatE xs p
def stsE (xs : List SpkD) (u : Int) (l : List PlaceD) : Int := firstI (l.map (stE xs u))
theorem drop_getP {xs : List PlaceD} {i : Nat} (h : i < xs.length) : xs.drop i = plN xs i :: xs.drop (i + 1) := by
  rw [List.drop_eq_getElem_cons h]
  simp [plN, List.getD, List.getElem?_eq_getElem h]
theorem stsE_step {xs : List SpkD} {u : Int} {l : List PlaceD} {i : Nat} (h : i < l.length) : stsE xs u (l.drop i) = if stE xs u (plN l i) = 0 then stsE xs u (l.drop (i + 1)) else stE xs u (plN l i) := by
  unfold stsE; rw [drop_getP h]; rfl
def tbH (r v : Int) (xs : List SpkD) (n : Nat) (u : Int) : Int := if (chkA r v xs).2 = 0 then (if n = 0 then 10 else if ¬ (n ≤ 4 ∧ xs.length ≤ 3) then 8 else if 1 ≤ u ∧ u ≤ 1000000000000000000 then 0 else 2) else (chkA r v xs).2
def tbE (r v : Int) (xs : List SpkD) (l : List PlaceD) (u : Int) : Int := if tbH r v xs l.length u = 0 then stsE xs u l else tbH r v xs l.length u
def tbT (xs : List SpkD) (l : List PlaceD) (u : Int) (k : Nat) : List (List Int) := tab (fun i => tbRow xs (plN l i) u xs.length) k
def tbR (r v : Int) (xs : List SpkD) (l : List PlaceD) (u : Int) : List (List Int) × Int × Unit := if tbE r v xs l u = 0 then (tbT xs l u l.length, 0, ()) else ([], tbE r v xs l u, ())
theorem tbH_0 {r v : Int} {xs : List SpkD} {n : Nat} {u : Int} (h : tbH r v xs n u = 0) : (chkA r v xs).2 = 0 ∧ (0 < n ∧ n ≤ 4 ∧ xs.length ≤ 3) ∧ 1 ≤ u ∧ u ≤ 1000000000000000000 := by
  unfold tbH at h
  split at h
  · rename_i h1
    split at h
    · cases h
    · split at h
      · cases h
      · split at h
        · rename_i h2 h3 h4
          refine ⟨h1, ?_, h4⟩
          have := Classical.not_not.1 h3
          omega
        · cases h
  · rename_i h1; exact absurd h h1
theorem tbW_bd {xs : List SpkD} {p : PlaceD} {j : Nat} (hs : inP (spkN xs j).1) (hp : inP p) (hn : 100 ≤ sqP (spkN xs j).1 p) : (0 ≤ tbW xs p j ∧ tbW xs p j ≤ 100000000) ∧ 0 ≤ tbW xs p j * tbW xs p j ∧ tbW xs p j * tbW xs p j ≤ 10000000000000000 := by
  have h := (str_bd hs hp hn).1
  have h1 : 0 ≤ tbW xs p j ∧ tbW xs p j ≤ 100000000 := by unfold tbW; omega
  exact ⟨h1, sq_le2 h1.1 h1.2⟩
theorem tbV_bd {xs : List SpkD} {p : PlaceD} {j : Nat} {u : Int} (hs : inP (spkN xs j).1) (hp : inP p) (hn : 100 ≤ sqP (spkN xs j).1 p) (hu : 1 ≤ u) : 0 ≤ tbV xs p u j ∧ tbV xs p u j ≤ 10000000000000000 := by
  have h := (tbW_bd hs hp hn).2
  have := div_bd (b := u) h.1 (by omega)
  unfold tbV; omega
abbrev tbF (r v : Int) (xs : List SpkD) (n : Nat) (u : Int) : Int := firstI [(chkA r v xs).2, bif decide ((0 : Int) < (n : Int)) then 0 else 10, bif (bif decide ((n : Int) ≤ 4) then decide ((xs.length : Int) ≤ 3) else false) then 0 else 8, bif fWithin u 1 1000000000000000000 then 0 else 2]
theorem tbF_eq (r v : Int) (xs : List SpkD) (n : Nat) (u : Int) : tbF r v xs n u = tbH r v xs n u := by
  simp only [tbF, firstI, tbH]
  split
  · by_cases h1 : n = 0
    · subst h1; rfl
    · rw [decide_eq_true (show (0 : Int) < (n : Int) by omega), if_neg h1]
      show (if (0 : Int) = 0 then _ else _) = _
      rw [if_pos rfl]
      by_cases h2 : n ≤ 4 ∧ xs.length ≤ 3
      · rw [decide_eq_true (show (n : Int) ≤ 4 by omega), decide_eq_true (show (xs.length : Int) ≤ 3 by omega), if_neg (fun h : ¬ (n ≤ 4 ∧ xs.length ≤ 3) => h h2)]
        show (if (0 : Int) = 0 then _ else _) = _
        rw [if_pos rfl]
        by_cases h3 : 1 ≤ u ∧ u ≤ 1000000000000000000
        · rw [if_pos h3, show fWithin u 1 1000000000000000000 = true from decide_eq_true h3]; rfl
        · rw [if_neg h3, show fWithin u 1 1000000000000000000 = false from decide_eq_false h3]; rfl
      · rw [if_pos h2]
        by_cases h3 : n ≤ 4
        · rw [decide_eq_true (show (n : Int) ≤ 4 by omega), decide_eq_false (show ¬ (xs.length : Int) ≤ 3 by omega)]; rfl
        · rw [decide_eq_false (show ¬ (n : Int) ≤ 4 by omega)]; rfl
  · rfl
def okArr (r v : Int) (xs : List SpkD) : Prop := (chkA r v xs).2 = 0
theorem tb_open {r v : Int} {xs : List SpkD} {p : PlaceD} (h : okArr r v xs) (hs : seatE xs p = 0) : (openR r v xs (p.1, p.2.1, p.2.2.1, ())).1 = raysA r v xs p := by
  have : opErr r v xs p = 0 := (if_pos h).trans hs
  have e : openR r v xs (p.1, p.2.1, p.2.2.1, ()) = openR r v xs p := rfl
  rw [e]; unfold openR; rw [if_pos this]; rfl
theorem tb_row {r v : Int} {xs : List SpkD} {p : PlaceD} {j : Nat} (h : okArr r v xs) (hs : seatE xs p = 0) (hj : j < xs.length) : (List.getD (openR r v xs (p.1, p.2.1, p.2.2.1, ())).1 j (Ty.dflt RayT)).2.1.1 = stL (spkN xs j).1 p := by
  rw [tb_open h hs]
  exact congrArg (fun z : RayD => z.2.1.1) (raysA_get (r := r) (v := v) (p := p) hj)
theorem tb_len {r v : Int} {xs : List SpkD} {p : PlaceD} (h : okArr r v xs) (hs : seatE xs p = 0) : List.length (α := RayD) (openR r v xs (p.1, p.2.1, p.2.2.1, ())).1 = xs.length := by
  rw [tb_open h hs]; exact raysA_len
theorem tb_bd {r v u : Int} {xs : List SpkD} {p : PlaceD} {j : Nat} (ha : goodArr r v xs) (hs : seatE xs p = 0) (hj : j < xs.length) (hu : 1 ≤ u) : ((0 ≤ tbW xs p j ∧ tbW xs p j ≤ 100000000) ∧ 0 ≤ tbW xs p j * tbW xs p j ∧ tbW xs p j * tbW xs p j ≤ 10000000000000000) ∧ 0 ≤ tbV xs p u j ∧ tbV xs p u j ≤ 10000000000000000 := by
  have h1 := (ha.sp j hj).1
  have h2 := (seat_of hs).1
  have h3 := far_of h1 h2 ((seat_of hs).2 j hj)
  exact ⟨tbW_bd h1 h2 h3, tbV_bd h1 h2 h3 hu⟩
theorem tb_td {r v u : Int} {xs : List SpkD} {p : PlaceD} {j : Nat} (ha : goodArr r v xs) (hs : seatE xs p = 0) (hj : j < xs.length) (hu : 1 ≤ u) : (tbW xs p j * tbW xs p j).tdiv u = tbV xs p u j := Int.tdiv_eq_ediv_of_nonneg (tb_bd ha hs hj hu).1.2.1
@[reducible] def sTableOf : Spec := { pats := [.dat ArrT, .dat (.sl PlaceT), .dat I64], res := [{ t := .sl (.sl I64) }, { t := I64 }], pre := fun x => pLen (List.length (α := SpkD) x.1.2.2.1) ∧ pLen (List.length (α := PlaceD) x.2.1), f := fun x => tbR x.1.1 x.1.2.1 x.1.2.2.1 x.2.1 x.2.2.1 }
def tbA1 (xs : List SpkD) (l : List PlaceD) (u : Int) : LoopAnn := { σ := Nat, pat := fun k => sI 46 k :: sOwn2 10 60010 76 (tbT xs l u k), inv := fun k => k ≤ l.length ∧ stsE xs u (l.drop k) = stsE xs u l, meas := fun k => l.length - k }
def tbA2 (xs : List SpkD) (l : List PlaceD) (u : Int) (st : St) : LoopAnn := withI 46 st fun i => { σ := Nat, pat := fun k => sI 61 k :: sOwn 15 60015 3 (tbRow xs (plN l i.toNat) u k), inv := fun k => k ≤ xs.length ∧ okR xs (plN l i.toNat) u k = true, meas := fun k => xs.length - k }
theorem h36 : Ok 36 sTableOf := by
  refine mk (ctr := [(73, sFirst), (85, sUnless), (87, sArrErr), (88, sWithin), (93, sOpen)]) ⟨h73, h85, h87, h88, h93, trivial⟩ (nt := 87) Tryz.func36 rfl rfl rfl rfl (by kernel_rfl) (by kernel_rfl) (fun x => [fun _ => tbA1 x.1.2.2.1 x.2.1 x.2.2.1, tbA2 x.1.2.2.1 x.2.1 x.2.2.1]) ?_
  rintro ⟨⟨(r : Int), (v : Int), (xs : List SpkD), ⟨⟩⟩, (l : List PlaceD), (u : Int), ⟨⟩⟩ ⟨(hp : pLen xs.length), (hq : pLen l.length)⟩
  have hF := tbF_eq r v xs l.length u
  by_cases h0 : tbH r v xs l.length u = 0
  · rw [h0] at hF
    obtain ⟨q1, ⟨q2, q3, q4⟩, q5⟩ := tbH_0 h0
    have ha := arr_of q1
    have hE : ∀ p : PlaceD, (openR r v xs (p.1, p.2.1, p.2.2.1, ())).2.1 = seatE xs p := fun p => by
      have : opErr r v xs p = seatE xs p := if_pos q1
      have e : openR r v xs (p.1, p.2.1, p.2.2.1, ()) = openR r v xs p := rfl
      rw [e]; unfold openR
      split
      · rename_i h; rw [this] at h; exact h.symm
      · exact this
    have hR : ∀ p : PlaceD, seatE xs p = 0 → (openR r v xs (p.1, p.2.1, p.2.2.1, ())).1 = raysA r v xs p := fun p h => by
      have : opErr r v xs p = 0 := (if_pos q1).trans h
      have e : openR r v xs (p.1, p.2.1, p.2.2.1, ()) = openR r v xs p := rfl
      rw [e]; unfold openR; rw [if_pos this]; rfl
    have c1 : (l.length : Int) ≤ 4 := by omega
    have c2 : (xs.length : Int) ≤ 3 := by omega
    have c3 : (0 : Int) < l.length := by omega
    have hF2 : firstI [0, 0, 0, bif fWithin u 1 1000000000000000000 then 0 else 2] = 0 := by
      rw [show fWithin u 1 1000000000000000000 = true from decide_eq_true q5]; rfl
    have hid : Hid (∀ p : PlaceD, seatE xs p = 0 → (openR r v xs (p.1, p.2.1, p.2.2.1, ())).1 = raysA r v xs p) := hR
    clear hR
    have hck : okArr r v xs := q1
    clear hid
    repeat' (intro hzz; (try (rename Two => hq; cases hq)); (try dsimp only at hzz); (try simp only [resTy, argTy, eqD, inR, big, wantOf, Bool.not_true, Bool.not_false, Bool.true_eq, decide_eq_true_eq, decide_eq_false_iff_not, Bool.not_eq_true', Bool.not_eq_false', Bool.and_eq_true, Prod.mk.injEq, and_true, true_and, Int.not_lt, Int.not_le, gt_iff_lt, ge_iff_le] at hzz); (try simp only [resTy, argTy, eqD, inR, big, wantOf, Bool.not_true, Bool.not_false, Bool.true_eq, decide_eq_true_eq, decide_eq_false_iff_not, Bool.not_eq_true', Bool.not_eq_false', Bool.and_eq_true, Prod.mk.injEq, and_true, true_and, Int.not_lt, Int.not_le, gt_iff_lt, ge_iff_le, Int.toNat_natCast, hE, q1, c1, c2, c3, decide_true, cond_true, hF2] at hzz); (try (first | contradiction | (exfalso; omega))); (try (revert hzz; intro _)))
    all_goals try (rename Unit => hq; clear hq)
    all_goals try ((with_reducible refine Held.mk ?_); (with_reducible (first | refine Frz.mk ?_ | refine And.intro (Frz.mk ?_) ?_ | refine And.intro ?_ (Frz.mk ?_))); repeat' first | exact True.intro | (change _ = _; with_reducible rfl) | refine And.intro ?_ ?_ | (with_reducible refine Frz.mk ?_))
    all_goals try (refine Held.mk ?_; (try dsimp only at *); (try simp only [resTy, argTy, eqD, inR, big, wantOf, Bool.not_true, Bool.not_false, Bool.true_eq, decide_eq_true_eq, decide_eq_false_iff_not, Bool.not_eq_true', Bool.not_eq_false', Bool.and_eq_true, Prod.mk.injEq, and_true, true_and, Int.not_lt, Int.not_le, gt_iff_lt, ge_iff_le] at *); (try simp only [resTy, argTy, eqD, inR, big, wantOf, Bool.not_true, Bool.not_false, Bool.true_eq, decide_eq_true_eq, decide_eq_false_iff_not, Bool.not_eq_true', Bool.not_eq_false', Bool.and_eq_true, Prod.mk.injEq, and_true, true_and, Int.not_lt, Int.not_le, gt_iff_lt, ge_iff_le, Int.toNat_natCast, hE, q1, c1, c2, c3, decide_true, cond_true, hF2] at *))
    all_goals try omega
    · show ((4 : Nat) : Int) ≤ 4611686018427387904; decide
    · 
      refine GHeld.mk ?_
      refine Exists.intro (0 : Nat) ?_
      refine And.intro (Leaf.mk ?_) ?_
      · repeat' first | exact True.intro | refine And.intro ?_ ?_
        all_goals try ((change _ = _ <;> try dsimp only) <;> try with_reducible rfl)
        all_goals try omega
        all_goals (rfl)
      exact ⟨Nat.zero_le _, rfl⟩
    · rename_i _ _ k hk hlt hs
      have hs : ¬ seatE xs (plN l k) = 0 := hs
      have e := hk.2
      have e2 : stE xs u (plN l k) = seatE xs (plN l k) := if_neg hs
      rw [stsE_step (by omega), e2, if_neg hs] at e
      have e3 : tbE r v xs l u = seatE xs (plN l k) := (if_pos h0).trans e.symm
      have e4 : tbR r v xs l u = ([], seatE xs (plN l k), ()) := by unfold tbR; rw [e3, if_neg hs]
      rw [e4]; exact ⟨rfl, rfl⟩
    · rename_i _ _ k hk hlt hs
      refine GHeld.mk ?_
      refine Exists.intro (0 : Nat) ?_
      refine And.intro (Leaf.mk ?_) ?_
      · repeat' first | exact True.intro | refine And.intro ?_ ?_
        all_goals try ((change _ = _ <;> try dsimp only) <;> try with_reducible rfl)
        all_goals try omega
        all_goals (rfl)
      exact ⟨Nat.zero_le _, rfl⟩
    · rename_i _ _ k hk hlt hs j hj hjl
      have hs : seatE xs (plN l k) = 0 := hs
      have hjl : (j : Int) < (List.length (α := RayD) (openR r v xs ((plN l k).1, (plN l k).2.1, (plN l k).2.2.1, ())).1 : Int) := hjl
      rw [tb_len hck hs] at hjl
      have e := tb_row (j := j) hck hs (by omega)
      have q := (tb_bd (u := u) (j := j) ha hs (by omega) q5.1).1.1
      show -9223372036854775808 ≤ 1000 * (List.getD (openR r v xs ((plN l k).1, (plN l k).2.1, (plN l k).2.2.1, ())).1 j (Ty.dflt RayT)).2.1.1 ∧ 1000 * (List.getD (openR r v xs ((plN l k).1, (plN l k).2.1, (plN l k).2.2.1, ())).1 j (Ty.dflt RayT)).2.1.1 ≤ 9223372036854775807
      rw [e]
      exact ⟨Int.le_trans (by decide) q.1, Int.le_trans q.2 (by decide)⟩
    · rename_i _ _ k hk hlt hs j hj hjl
      have hs : seatE xs (plN l k) = 0 := hs
      have hjl : (j : Int) < (List.length (α := RayD) (openR r v xs ((plN l k).1, (plN l k).2.1, (plN l k).2.2.1, ())).1 : Int) := hjl
      rw [tb_len hck hs] at hjl
      have e := tb_row (j := j) hck hs (by omega)
      have q := (tb_bd (u := u) (j := j) ha hs (by omega) q5.1).1.2
      rw [show List.getD (openR r v xs ((l.getD k PlaceT.dflt).1, (l.getD k PlaceT.dflt).2.1, (l.getD k PlaceT.dflt).2.2.1, ())).1 j RayT.dflt = List.getD (openR r v xs ((plN l k).1, (plN l k).2.1, (plN l k).2.2.1, ())).1 j (Ty.dflt RayT) from rfl, e]
      exact ⟨Int.le_trans (by decide) q.1, Int.le_trans q.2 (by decide)⟩
    · rename_i _ _ k hk hlt hs j hj hjl
      have hs : seatE xs (plN l k) = 0 := hs
      have hjl : (j : Int) < (List.length (α := RayD) (openR r v xs ((plN l k).1, (plN l k).2.1, (plN l k).2.2.1, ())).1 : Int) := hjl
      rw [tb_len hck hs] at hjl
      have e := tb_row (j := j) hck hs (by omega)
      have q := (tb_bd (u := u) (j := j) ha hs (by omega) q5.1).2
      have q2 := tb_td (j := j) ha hs (by omega) q5.1
      rw [show List.getD (openR r v xs ((l.getD k PlaceT.dflt).1, (l.getD k PlaceT.dflt).2.1, (l.getD k PlaceT.dflt).2.2.1, ())).1 j RayT.dflt = List.getD (openR r v xs ((plN l k).1, (plN l k).2.1, (plN l k).2.2.1, ())).1 j (Ty.dflt RayT) from rfl, e]
      refine ⟨by omega, ?_⟩
      show -9223372036854775808 ≤ (tbW xs (plN l k) j * tbW xs (plN l k) j).tdiv u ∧ (tbW xs (plN l k) j * tbW xs (plN l k) j).tdiv u ≤ 9223372036854775807
      rw [q2]
      exact ⟨Int.le_trans (by decide) q.1, Int.le_trans q.2 (by decide)⟩
    · rename_i _ _ k hk hlt hs j hj hjl hm
      have hs : seatE xs (plN l k) = 0 := hs
      have hjl : (j : Int) < (List.length (α := RayD) (openR r v xs ((plN l k).1, (plN l k).2.1, (plN l k).2.2.1, ())).1 : Int) := hjl
      rw [tb_len hck hs] at hjl
      have e := tb_row (j := j) hck hs (by omega)
      rw [show List.getD (openR r v xs ((l.getD k PlaceT.dflt).1, (l.getD k PlaceT.dflt).2.1, (l.getD k PlaceT.dflt).2.2.1, ())).1 j RayT.dflt = List.getD (openR r v xs ((plN l k).1, (plN l k).2.1, (plN l k).2.2.1, ())).1 j (Ty.dflt RayT) from rfl, e] at hm
      have hm : 100 < (tbW xs (plN l k) j * tbW xs (plN l k) j).tdiv u := hm
      rw [tb_td (j := j) ha hs (by omega) q5.1] at hm
      have hno : okR xs (plN l k) u xs.length = false := okR_no hm _ (by omega)
      have e := hk.2
      have e2 : stE xs u (plN l k) = 8 := (if_pos hs).trans (if_neg (by rw [hno]; decide))
      rw [stsE_step (by omega), e2, if_neg (by decide)] at e
      have e3 : tbE r v xs l u = 8 := (if_pos h0).trans e.symm
      have e4 : tbR r v xs l u = ([], 8, ()) := by unfold tbR; rw [e3]; rfl
      rw [e4]; exact ⟨rfl, rfl⟩
    · rename_i _ _ k hk hlt hs j hj hjl hm
      show (tbRow xs (plN l k) u j).length + 1 ≤ 2147483648
      rw [show (tbRow xs (plN l k) u j).length = j from tab_len _ _]; omega
    · rename_i _ _ k hk hlt hs j hj hjl hm
      have hs : seatE xs (plN l k) = 0 := hs
      have hjl : (j : Int) < (List.length (α := RayD) (openR r v xs ((plN l k).1, (plN l k).2.1, (plN l k).2.2.1, ())).1 : Int) := hjl
      rw [tb_len hck hs] at hjl
      have e := tb_row (j := j) hck hs (by omega)
      rw [show List.getD (openR r v xs ((l.getD k PlaceT.dflt).1, (l.getD k PlaceT.dflt).2.1, (l.getD k PlaceT.dflt).2.2.1, ())).1 j RayT.dflt = List.getD (openR r v xs ((plN l k).1, (plN l k).2.1, (plN l k).2.2.1, ())).1 j (Ty.dflt RayT) from rfl, e] at hm
      have hm : (tbW xs (plN l k) j * tbW xs (plN l k) j).tdiv u ≤ 100 := hm
      rw [tb_td (j := j) ha hs (by omega) q5.1] at hm
      have e5 : (1000 * (List.getD (openR r v xs ((plN l k).1, (plN l k).2.1, (plN l k).2.2.1, ())).1 j (Ty.dflt RayT)).2.1.1 * (1000 * (List.getD (openR r v xs ((plN l k).1, (plN l k).2.1, (plN l k).2.2.1, ())).1 j (Ty.dflt RayT)).2.1.1)).tdiv u = tbV xs (plN l k) u j := by
        rw [e]; exact tb_td (j := j) ha hs (by omega) q5.1
      have e6 : tbRow xs (plN l k) u j ++ [(1000 * (List.getD (openR r v xs ((plN l k).1, (plN l k).2.1, (plN l k).2.2.1, ())).1 j (Ty.dflt RayT)).2.1.1 * (1000 * (List.getD (openR r v xs ((plN l k).1, (plN l k).2.1, (plN l k).2.2.1, ())).1 j (Ty.dflt RayT)).2.1.1)).tdiv u] = tbRow xs (plN l k) u (j + 1) := by rw [e5]; rfl
      have e7 : (tbRow xs (plN l k) u j).length + 1 = (tbRow xs (plN l k) u (j + 1)).length := by rw [show (tbRow xs (plN l k) u j).length = j from tab_len _ _, show (tbRow xs (plN l k) u (j + 1)).length = j + 1 from tab_len _ _]
      refine GHeld.mk ?_
      refine Exists.intro (j + 1) ?_
      refine And.intro (Leaf.mk ?_) ?_
      · repeat' first | exact True.intro | refine And.intro ?_ ?_
        all_goals try ((change _ = _ <;> try dsimp only) <;> try with_reducible rfl)
        all_goals try omega
        all_goals (first | rfl | exact e6 | exact congrArg List.length e6 | exact (congrArg List.length e6).symm | exact e7 | exact e7.symm)
      exact ⟨⟨(show j + 1 ≤ xs.length by omega), (show (okR xs (plN l k) u j && decide (tbV xs (plN l k) u j ≤ 100)) = true by rw [hj.2, decide_eq_true hm]; rfl)⟩, (show xs.length - (j + 1) < xs.length - j by omega)⟩
    · rename_i _ _ k hk hlt hs j hj hjl
      show (tbT xs l u k).length + 1 ≤ 2147483648
      rw [show (tbT xs l u k).length = k from tab_len _ _]; omega
    · rename_i _ _ k hk hlt hs j hj hjl
      have hs : seatE xs (plN l k) = 0 := hs
      have hjl : (List.length (α := RayD) (openR r v xs ((plN l k).1, (plN l k).2.1, (plN l k).2.2.1, ())).1 : Int) ≤ (j : Int) := hjl
      rw [tb_len hck hs] at hjl
      have ej : j = xs.length := by omega
      subst ej
      have e := hk.2
      have e2 : stE xs u (plN l k) = 0 := (if_pos hs).trans (if_pos hj.2)
      rw [stsE_step (by omega), e2, if_pos rfl] at e
      have e7 : (tbT xs l u k).length + 1 = (tbT xs l u (k + 1)).length := by rw [show (tbT xs l u k).length = k from tab_len _ _, show (tbT xs l u (k + 1)).length = k + 1 from tab_len _ _]
      refine GHeld.mk ?_
      refine Exists.intro (k + 1) ?_
      refine And.intro (Leaf.mk ?_) ?_
      · repeat' first | exact True.intro | refine And.intro ?_ ?_
        all_goals try ((change _ = _ <;> try dsimp only) <;> try with_reducible rfl)
        all_goals try omega
        all_goals (first | rfl | exact e7 | exact e7.symm)
      exact ⟨⟨(show k + 1 ≤ l.length by omega), e⟩, (show l.length - (k + 1) < l.length - k by omega)⟩
    · rename_i _ _ k hk hlt
      have e := hk.2
      rw [List.drop_eq_nil_of_le (by omega)] at e
      have e3 : tbE r v xs l u = 0 := (if_pos h0).trans e.symm
      have e4 : tbR r v xs l u = (tbT xs l u l.length, 0, ()) := if_pos e3
      rw [e4, show k = l.length by omega]; exact ⟨rfl, rfl⟩
  · have eE : tbE r v xs l u = tbH r v xs l.length u := if_neg h0
    have eR : tbR r v xs l u = ([], tbH r v xs l.length u, ()) := by unfold tbR; rw [eE, if_neg h0]
    by_cases c1 : (l.length : Int) ≤ 4
    · have hN : firstI [(chkA r v xs).2, bif decide ((0 : Int) < (l.length : Int)) then 0 else 10, bif decide ((xs.length : Int) ≤ 3) then 0 else 8, bif fWithin u 1 1000000000000000000 then 0 else 2] = tbH r v xs l.length u := by
        rw [← hF]; unfold tbF; rw [decide_eq_true c1]; rfl
      repeat' (intro hzz; (try (rename Two => hq; cases hq)); (try dsimp only at hzz); (try simp only [resTy, argTy, eqD, inR, big, wantOf, Bool.not_true, Bool.not_false, Bool.true_eq, decide_eq_true_eq, decide_eq_false_iff_not, Bool.not_eq_true', Bool.not_eq_false', Bool.and_eq_true, Prod.mk.injEq, and_true, true_and, Int.not_lt, Int.not_le, gt_iff_lt, ge_iff_le] at hzz); (try simp only [resTy, argTy, eqD, inR, big, wantOf, Bool.not_true, Bool.not_false, Bool.true_eq, decide_eq_true_eq, decide_eq_false_iff_not, Bool.not_eq_true', Bool.not_eq_false', Bool.and_eq_true, Prod.mk.injEq, and_true, true_and, Int.not_lt, Int.not_le, gt_iff_lt, ge_iff_le, Int.toNat_natCast, c1, hN, h0] at hzz); (try (first | contradiction | (exfalso; omega))); (try (revert hzz; intro _)))
      all_goals try (rename Unit => hq; clear hq)
      all_goals try ((with_reducible refine Held.mk ?_); (with_reducible (first | refine Frz.mk ?_ | refine And.intro (Frz.mk ?_) ?_ | refine And.intro ?_ (Frz.mk ?_))); repeat' first | exact True.intro | (change _ = _; with_reducible rfl) | refine And.intro ?_ ?_ | (with_reducible refine Frz.mk ?_))
      all_goals try (refine Held.mk ?_; (try dsimp only at *); (try simp only [resTy, argTy, eqD, inR, big, wantOf, Bool.not_true, Bool.not_false, Bool.true_eq, decide_eq_true_eq, decide_eq_false_iff_not, Bool.not_eq_true', Bool.not_eq_false', Bool.and_eq_true, Prod.mk.injEq, and_true, true_and, Int.not_lt, Int.not_le, gt_iff_lt, ge_iff_le] at *); (try simp only [resTy, argTy, eqD, inR, big, wantOf, Bool.not_true, Bool.not_false, Bool.true_eq, decide_eq_true_eq, decide_eq_false_iff_not, Bool.not_eq_true', Bool.not_eq_false', Bool.and_eq_true, Prod.mk.injEq, and_true, true_and, Int.not_lt, Int.not_le, gt_iff_lt, ge_iff_le, Int.toNat_natCast, c1, hN, h0] at *))
      all_goals try omega
      all_goals first | (with_reducible exact hp) | (show ((4 : Nat) : Int) ≤ 4611686018427387904; decide) | (rw [eR]; exact ⟨rfl, rfl⟩) | trace_state
    · have hN : firstI [(chkA r v xs).2, bif decide ((0 : Int) < (l.length : Int)) then 0 else 10, bif false then 0 else 8, bif fWithin u 1 1000000000000000000 then 0 else 2] = tbH r v xs l.length u := by
        rw [← hF]; unfold tbF; rw [decide_eq_false c1]; rfl
      repeat' (intro hzz; (try (rename Two => hq; cases hq)); (try dsimp only at hzz); (try simp only [resTy, argTy, eqD, inR, big, wantOf, Bool.not_true, Bool.not_false, Bool.true_eq, decide_eq_true_eq, decide_eq_false_iff_not, Bool.not_eq_true', Bool.not_eq_false', Bool.and_eq_true, Prod.mk.injEq, and_true, true_and, Int.not_lt, Int.not_le, gt_iff_lt, ge_iff_le] at hzz); (try simp only [resTy, argTy, eqD, inR, big, wantOf, Bool.not_true, Bool.not_false, Bool.true_eq, decide_eq_true_eq, decide_eq_false_iff_not, Bool.not_eq_true', Bool.not_eq_false', Bool.and_eq_true, Prod.mk.injEq, and_true, true_and, Int.not_lt, Int.not_le, gt_iff_lt, ge_iff_le, Int.toNat_natCast, c1, hN, h0] at hzz); (try (first | contradiction | (exfalso; omega))); (try (revert hzz; intro _)))
      all_goals try (rename Unit => hq; clear hq)
      all_goals try ((with_reducible refine Held.mk ?_); (with_reducible (first | refine Frz.mk ?_ | refine And.intro (Frz.mk ?_) ?_ | refine And.intro ?_ (Frz.mk ?_))); repeat' first | exact True.intro | (change _ = _; with_reducible rfl) | refine And.intro ?_ ?_ | (with_reducible refine Frz.mk ?_))
      all_goals try (refine Held.mk ?_; (try dsimp only at *); (try simp only [resTy, argTy, eqD, inR, big, wantOf, Bool.not_true, Bool.not_false, Bool.true_eq, decide_eq_true_eq, decide_eq_false_iff_not, Bool.not_eq_true', Bool.not_eq_false', Bool.and_eq_true, Prod.mk.injEq, and_true, true_and, Int.not_lt, Int.not_le, gt_iff_lt, ge_iff_le] at *); (try simp only [resTy, argTy, eqD, inR, big, wantOf, Bool.not_true, Bool.not_false, Bool.true_eq, decide_eq_true_eq, decide_eq_false_iff_not, Bool.not_eq_true', Bool.not_eq_false', Bool.and_eq_true, Prod.mk.injEq, and_true, true_and, Int.not_lt, Int.not_le, gt_iff_lt, ge_iff_le, Int.toNat_natCast, c1, hN, h0] at *))
      all_goals try omega
      all_goals first | (with_reducible exact hp) | (show ((4 : Nat) : Int) ≤ 4611686018427387904; decide) | (rw [eR]; exact ⟨rfl, rfl⟩) | trace_state
end Go.Eng.Ar

namespace Go.Eng.Ar
open Go.Eng Go.Proofs
set_option linter.all false
set_option maxRecDepth 100000
set_option maxHeartbeats 8000000
@[reducible] def sTableR : Spec := { sTableOf with pre := fun x => okArr x.1.1 x.1.2.1 x.1.2.2.1 ∧ pLen (List.length (α := PlaceD) x.2.1) }
def trA1 (xs : List SpkD) (l : List PlaceD) (u : Int) : LoopAnn := { σ := Nat, pat := fun k => sI 9 k :: sOwn2 8 60008 76 (tbT xs l u k), inv := fun k => k ≤ l.length ∧ stsE xs u (l.drop k) = stsE xs u l, meas := fun k => l.length - k }
def trA2 (xs : List SpkD) (l : List PlaceD) (u : Int) (st : St) : LoopAnn := withI 9 st fun i => { σ := Nat, pat := fun k => sI 12 k :: sOwn 11 60011 3 (tbRow xs (plN l i.toNat) u k), inv := fun k => k ≤ xs.length ∧ okR xs (plN l i.toNat) u k = true, meas := fun k => xs.length - k }
theorem tbR_h {r v u : Int} {xs : List SpkD} {l : List PlaceD} {e : Int} (h : tbH r v xs l.length u = e) (he : ¬ e = 0) : tbR r v xs l u = ([], e, ()) := by
  have : tbE r v xs l u = e := by unfold tbE; rw [if_neg (by rw [h]; exact he), h]
  unfold tbR; rw [this, if_neg he]
theorem h38 : Ok 38 sTableR := by
  refine mk (ctr := [(20, sStrR), (29, sWithin), (82, sFloor), (97, sSeatR)]) ⟨h20, h29, h82, h97, trivial⟩ (nt := 80) Tryz.func38 rfl rfl rfl rfl (by kernel_rfl) (by kernel_rfl) (fun x => [fun _ => trA1 x.1.2.2.1 x.2.1 x.2.2.1, trA2 x.1.2.2.1 x.2.1 x.2.2.1]) ?_
  rintro ⟨⟨(r : Int), (v : Int), (xs : List SpkD), ⟨⟩⟩, (l : List PlaceD), (u : Int), ⟨⟩⟩ ⟨(hck : okArr r v xs), (hq : pLen l.length)⟩
  have ha := arr_of hck
  have hp : pLen xs.length := by have := ha.le; show (xs.length : Int) ≤ 4611686018427387904; omega
  have hq' := hq.out
  have hl8 := ha.le
  repeat' (intro hzz; (try (rename Two => hq; cases hq)); (try dsimp only at hzz); (try simp only [resTy, argTy, eqD, inR, big, wantOf, Bool.not_true, Bool.not_false, Bool.true_eq, decide_eq_true_eq, decide_eq_false_iff_not, Bool.not_eq_true', Bool.not_eq_false', Bool.and_eq_true, Prod.mk.injEq, and_true, true_and, Int.not_lt, Int.not_le, gt_iff_lt, ge_iff_le] at hzz); (try simp only [resTy, argTy, eqD, inR, big, wantOf, Bool.not_true, Bool.not_false, Bool.true_eq, decide_eq_true_eq, decide_eq_false_iff_not, Bool.not_eq_true', Bool.not_eq_false', Bool.and_eq_true, Prod.mk.injEq, and_true, true_and, Int.not_lt, Int.not_le, gt_iff_lt, ge_iff_le, Int.toNat_natCast, fWithin] at hzz); (try (first | contradiction | (exfalso; omega))); (try (revert hzz; intro _)))
  all_goals try (rename Unit => hq; clear hq)
  all_goals try ((with_reducible refine Held.mk ?_); (with_reducible (first | refine Frz.mk ?_ | refine And.intro (Frz.mk ?_) ?_ | refine And.intro ?_ (Frz.mk ?_))); repeat' first | exact True.intro | (change _ = _; with_reducible rfl) | refine And.intro ?_ ?_ | (with_reducible refine Frz.mk ?_))
  all_goals try (refine Held.mk ?_; (try dsimp only at *); (try simp only [resTy, argTy, eqD, inR, big, wantOf, Bool.not_true, Bool.not_false, Bool.true_eq, decide_eq_true_eq, decide_eq_false_iff_not, Bool.not_eq_true', Bool.not_eq_false', Bool.and_eq_true, Prod.mk.injEq, and_true, true_and, Int.not_lt, Int.not_le, gt_iff_lt, ge_iff_le] at *); (try simp only [resTy, argTy, eqD, inR, big, wantOf, Bool.not_true, Bool.not_false, Bool.true_eq, decide_eq_true_eq, decide_eq_false_iff_not, Bool.not_eq_true', Bool.not_eq_false', Bool.and_eq_true, Prod.mk.injEq, and_true, true_and, Int.not_lt, Int.not_le, gt_iff_lt, ge_iff_le, Int.toNat_natCast, fWithin] at *))
  all_goals try omega
  · rename_i h
    rw [tbR_h (e := 10) ((if_pos hck).trans (if_pos (by omega))) (by decide)]; exact ⟨rfl, rfl⟩
  · rename_i h1 h2 h3
    rw [tbR_h (e := 8) ((if_pos hck).trans ((if_neg (by omega)).trans (if_pos (by omega)))) (by decide)]; exact ⟨rfl, rfl⟩
  · rename_i h1 h2 h3 h4
    rw [tbR_h (e := 2) ((if_pos hck).trans ((if_neg (by omega)).trans ((if_neg (fun q => q (by omega))).trans (if_neg h4)))) (by decide)]; exact ⟨rfl, rfl⟩
  · rename_i h1 h2 h3 h4
    refine GHeld.mk ?_
    refine Exists.intro (0 : Nat) ?_
    refine And.intro (Leaf.mk ?_) ?_
    · repeat' first | exact True.intro | refine And.intro ?_ ?_
      all_goals try ((change _ = _ <;> try dsimp only) <;> try with_reducible rfl)
      all_goals try omega
      all_goals (rfl)
    exact ⟨Nat.zero_le _, rfl⟩
  · exact ⟨hp, ha.sp⟩
  · rename_i h1 h2 h3 h4 k hk hlt hs
    have hs : ¬ seatE xs (plN l k) = 0 := hs
    have h0 : tbH r v xs l.length u = 0 := (if_pos hck).trans ((if_neg (by omega)).trans ((if_neg (fun q => q (by omega))).trans (if_pos h4)))
    have e := hk.2
    have e2 : stE xs u (plN l k) = seatE xs (plN l k) := if_neg hs
    rw [stsE_step (by omega), e2, if_neg hs] at e
    have e3 : tbE r v xs l u = seatE xs (plN l k) := (if_pos h0).trans e.symm
    have e4 : tbR r v xs l u = ([], seatE xs (plN l k), ()) := by unfold tbR; rw [e3, if_neg hs]
    rw [e4]; exact ⟨rfl, rfl⟩
  · rename_i h1 h2 h3 h4 k hk hlt hs
    refine GHeld.mk ?_
    refine Exists.intro (0 : Nat) ?_
    refine And.intro (Leaf.mk ?_) ?_
    · repeat' first | exact True.intro | refine And.intro ?_ ?_
      all_goals try ((change _ = _ <;> try dsimp only) <;> try with_reducible rfl)
      all_goals try omega
      all_goals (rfl)
    exact ⟨Nat.zero_le _, rfl⟩
  · rename_i h1 h2 h3 h4 k hk hlt hs j hj hjl
    have q1 := (ha.sp j (by omega)).1
    have q2 := (seat_of hs).1
    exact ⟨⟨q1, q2⟩, far_of q1 q2 ((seat_of hs).2 j (by omega))⟩
  · rename_i h1 h2 h3 h4 k hk hlt hs j hj hjl
    have q := (tb_bd (p := plN l k) (u := u) (j := j) ha hs (by omega) h4.1).1.1
    exact ⟨Int.le_trans (by decide) q.1, Int.le_trans q.2 (by decide)⟩
  · rename_i h1 h2 h3 h4 k hk hlt hs j hj hjl
    have q := (tb_bd (p := plN l k) (u := u) (j := j) ha hs (by omega) h4.1).1.2
    exact ⟨Int.le_trans (by decide) q.1, Int.le_trans q.2 (by decide)⟩
  · rename_i h1 h2 h3 h4 k hk hlt hs j hj hjl
    have q := (tb_bd (p := plN l k) (u := u) (j := j) ha hs (by omega) h4.1).1.2
    exact ⟨by omega, Int.le_trans (by decide) q.1, Int.le_trans q.2 (by decide)⟩
  · rename_i h1 h2 h3 h4 k hk hlt hs j hj hjl hm
    have hm : 100 < tbV xs (plN l k) u j := hm
    have h0 : tbH r v xs l.length u = 0 := (if_pos hck).trans ((if_neg (by omega)).trans ((if_neg (fun q => q (by omega))).trans (if_pos h4)))
    have hno : okR xs (plN l k) u xs.length = false := okR_no hm _ (by omega)
    have e := hk.2
    have e2 : stE xs u (plN l k) = 8 := (if_pos hs).trans (if_neg (by rw [hno]; decide))
    rw [stsE_step (by omega), e2, if_neg (by decide)] at e
    have e3 : tbE r v xs l u = 8 := (if_pos h0).trans e.symm
    have e4 : tbR r v xs l u = ([], 8, ()) := by unfold tbR; rw [e3]; rfl
    rw [e4]; exact ⟨rfl, rfl⟩
  · rename_i h1 h2 h3 h4 k hk hlt hs j hj hjl hm
    show (tbRow xs (plN l k) u j).length + 1 ≤ 2147483648
    rw [show (tbRow xs (plN l k) u j).length = j from tab_len _ _]; omega
  · rename_i h1 h2 h3 h4 k hk hlt hs j hj hjl hm
    have hm : tbV xs (plN l k) u j ≤ 100 := hm
    refine GHeld.mk ?_
    refine Exists.intro (j + 1) ?_
    refine And.intro (Leaf.mk ?_) ?_
    · repeat' first | exact True.intro | refine And.intro ?_ ?_
      all_goals try ((change _ = _ <;> try dsimp only) <;> try with_reducible rfl)
      all_goals try omega
      all_goals (rfl)
    exact ⟨⟨(show j + 1 ≤ xs.length by omega), (show (okR xs (plN l k) u j && decide (tbV xs (plN l k) u j ≤ 100)) = true by rw [hj.2, decide_eq_true hm]; rfl)⟩, (show xs.length - (j + 1) < xs.length - j by omega)⟩
  · rename_i h1 h2 h3 h4 k hk hlt hs j hj hjl
    show (tbT xs l u k).length + 1 ≤ 2147483648
    rw [show (tbT xs l u k).length = k from tab_len _ _]; omega
  · rename_i h1 h2 h3 h4 k hk hlt hs j hj hjl
    have ej : j = xs.length := by omega
    subst ej
    have e := hk.2
    have e2 : stE xs u (plN l k) = 0 := (if_pos hs).trans (if_pos hj.2)
    rw [stsE_step (by omega), e2, if_pos rfl] at e
    have e7 : (tbT xs l u k).length + 1 = (tbT xs l u (k + 1)).length := by rw [show (tbT xs l u k).length = k from tab_len _ _, show (tbT xs l u (k + 1)).length = k + 1 from tab_len _ _]
    refine GHeld.mk ?_
    refine Exists.intro (k + 1) ?_
    refine And.intro (Leaf.mk ?_) ?_
    · repeat' first | exact True.intro | refine And.intro ?_ ?_
      all_goals try ((change _ = _ <;> try dsimp only) <;> try with_reducible rfl)
      all_goals try omega
      all_goals (first | rfl | exact e7 | exact e7.symm)
    exact ⟨⟨(show k + 1 ≤ l.length by omega), e⟩, (show l.length - (k + 1) < l.length - k by omega)⟩
  · rename_i h1 h2 h3 h4 k hk hlt
    have h0 : tbH r v xs l.length u = 0 := (if_pos hck).trans ((if_neg (by omega)).trans ((if_neg (fun q => q (by omega))).trans (if_pos h4)))
    have e := hk.2
    rw [List.drop_eq_nil_of_le (by omega)] at e
    have e3 : tbE r v xs l u = 0 := (if_pos h0).trans e.symm
    have e4 : tbR r v xs l u = (tbT xs l u l.length, 0, ()) := if_pos e3
    rw [e4, show k = l.length by omega]; exact ⟨rfl, rfl⟩
  · rename_i h1 h2
    rw [tbR_h (e := 8) ((if_pos hck).trans ((if_neg (by omega)).trans (if_pos (by omega)))) (by decide)]; exact ⟨rfl, rfl⟩
end Go.Eng.Ar

namespace Go.Eng.Ar
open Go.Eng Go.Proofs
set_option linter.all false
set_option maxRecDepth 100000
set_option maxHeartbeats 8000000
theorem lists_self (l : List (List Int)) : listsB l l = true := decide_eq_true rfl
theorem tbR_len {r v u : Int} {xs : List SpkD} {l : List PlaceD} : (tbR r v xs l u).1.length ≤ l.length ∧ ∀ i, (rowN (tbR r v xs l u).1 i).length ≤ xs.length := by
  unfold tbR
  split
  · refine ⟨by show (tbT xs l u l.length).length ≤ _; rw [show (tbT xs l u l.length).length = l.length from tab_len _ _]; exact Nat.le_refl _, fun i => ?_⟩
    by_cases hi : i < l.length
    · have e : rowN (tbT xs l u l.length) i = tbRow xs (plN l i) u xs.length := tab_get (fun i => tbRow xs (plN l i) u xs.length) [] _ _ hi
      show (rowN (tbT xs l u l.length) i).length ≤ _
      rw [e, show (tbRow xs (plN l i) u xs.length).length = xs.length from tab_len _ _]; exact Nat.le_refl _
    · have e : rowN (tbT xs l u l.length) i = [] := by
        simp only [rowN, List.getD_eq_getElem?_getD]
        rw [List.getElem?_eq_none (by rw [show (tbT xs l u l.length).length = l.length from tab_len _ _]; omega)]; rfl
      show (rowN (tbT xs l u l.length) i).length ≤ _
      rw [e]; exact Nat.zero_le _
  · exact ⟨Nat.zero_le _, fun i => by
      show (rowN ([] : List (List Int)) i).length ≤ _
      rw [show rowN ([] : List (List Int)) i = [] from by simp [rowN]]; exact Nat.zero_le _⟩
theorem nil_len : pLen ([] : List (List Int)).length ∧ pLen ([] : List (List Int)).length ∧ ∀ i : Nat, pLen (rowN ([] : List (List Int)) i).length ∧ pLen (rowN ([] : List (List Int)) i).length := by
  have e : ∀ i : Nat, rowN ([] : List (List Int)) i = [] := fun i => by simp [rowN]
  refine ⟨(show ((0 : Nat) : Int) ≤ 4611686018427387904 by decide), (show ((0 : Nat) : Int) ≤ 4611686018427387904 by decide), fun i => ?_⟩
  rw [e i]; exact ⟨(show ((0 : Nat) : Int) ≤ 4611686018427387904 by decide), (show ((0 : Nat) : Int) ≤ 4611686018427387904 by decide)⟩
@[reducible] def sTables : Spec := { pats := [.dat ArrT, .dat (.sl PlaceT), .dat I64, .gw 3 .err, .gw 4 .err, .gw 2 PowT, .gw 1 I64], res := [{ t := .bool }], pre := fun x => x.2.2.2.2.2.1 = powD, f := fun _ => (true, ()) }
theorem hLaw6 : Ok 6 sTables := by
  refine mk (ctr := [(14, sAwake), (24, sFew), (26, sCopy), (28, sCheck), (36, sTableOf), (37, sCopyP), (38, sTableR), (39, sLists)]) ⟨h14, h24, h26, h28, h36, h37, h38, h39, trivial⟩ (nt := 53) Tryz.func6 rfl rfl rfl rfl (by kernel_rfl) (by kernel_rfl) (fun _ => []) ?_
  rintro ⟨⟨(r : Int), (v : Int), (xs : List SpkD), ⟨⟩⟩, (l : List PlaceD), (u : Int), (b0 : Bool), (b1 : Bool), (pw : PowT.Den), (m : Int), ⟨⟩⟩ (hpw : pw = powD)
  by_cases hl : xs.length ≤ 10
  · have hl' : xs.length < 11 := Nat.lt_succ_of_le hl
    by_cases hs : (l.length : Int) ≤ 6
    · have hp : Hid (pLen xs.length) := by show (xs.length : Int) ≤ 4611686018427387904; omega
      have hq : Hid (pLen l.length) := by show (l.length : Int) ≤ 4611686018427387904; omega
      have hp2 : Hid (pTen xs.length) := by show xs.length ≤ 1000; omega
      have hq2 : Hid (pTen l.length) := by show l.length ≤ 1000; omega
      by_cases hc : (chkA r v xs).2 = 0
      · have hck : okArr r v xs := hc
        obtain ⟨T, e, hT, hz⟩ : ∃ T e, tbR r v xs l u = (T, e, ()) ∧ Hid (pLen T.length ∧ ∀ i, pLen (rowN T i).length) := by
          have h := @tbR_len r v u xs l
          refine ⟨_, _, rfl, ?_, fun i => ?_⟩
          · have := h.1; show ((tbR r v xs l u).1.length : Int) ≤ 4611686018427387904; omega
          · have := h.2 i; show ((rowN (tbR r v xs l u).1 i).length : Int) ≤ 4611686018427387904; omega
        repeat' (intro hzz; (try (rename Two => hq; cases hq)); (try dsimp only at hzz); (try simp only [resTy, argTy, eqD, inR, big, wantOf, Bool.not_true, Bool.not_false, Bool.true_eq, decide_eq_true_eq, decide_eq_false_iff_not, Bool.not_eq_true', Bool.not_eq_false', Bool.and_eq_true, Prod.mk.injEq, and_true, true_and, Int.not_lt, Int.not_le, gt_iff_lt, ge_iff_le] at hzz); (try simp only [resTy, argTy, eqD, inR, big, wantOf, Bool.not_true, Bool.not_false, Bool.true_eq, decide_eq_true_eq, decide_eq_false_iff_not, Bool.not_eq_true', Bool.not_eq_false', Bool.and_eq_true, Prod.mk.injEq, and_true, true_and, Int.not_lt, Int.not_le, gt_iff_lt, ge_iff_le, hl, hs, hc, hT, lists_self, hpw, not_true_eq_false, not_false_eq_true] at hzz); (try (first | contradiction | (exfalso; omega))); (try (revert hzz; intro _)))
        all_goals try (rename Unit => hq; clear hq)
        all_goals try ((with_reducible refine Held.mk ?_); (with_reducible (first | refine Frz.mk ?_ | refine And.intro (Frz.mk ?_) ?_ | refine And.intro ?_ (Frz.mk ?_))); repeat' first | exact True.intro | (change _ = _; with_reducible rfl) | refine And.intro ?_ ?_ | (with_reducible refine Frz.mk ?_))
        all_goals try (refine Held.mk ?_; (try dsimp only at *); (try simp only [resTy, argTy, eqD, inR, big, wantOf, Bool.not_true, Bool.not_false, Bool.true_eq, decide_eq_true_eq, decide_eq_false_iff_not, Bool.not_eq_true', Bool.not_eq_false', Bool.and_eq_true, Prod.mk.injEq, and_true, true_and, Int.not_lt, Int.not_le, gt_iff_lt, ge_iff_le] at *); (try simp only [resTy, argTy, eqD, inR, big, wantOf, Bool.not_true, Bool.not_false, Bool.true_eq, decide_eq_true_eq, decide_eq_false_iff_not, Bool.not_eq_true', Bool.not_eq_false', Bool.and_eq_true, Prod.mk.injEq, and_true, true_and, Int.not_lt, Int.not_le, gt_iff_lt, ge_iff_le, hl, hs, hc, hT, lists_self, hpw, not_true_eq_false, not_false_eq_true] at *))
        all_goals try omega
        all_goals first | exact hp | exact hq | exact hp2 | exact hq2 | exact ⟨hp, hq⟩ | exact ⟨hck, hq⟩ | exact ⟨hz.1, hz.1, fun i => ⟨hz.2 i, hz.2 i⟩⟩ | exact lists_self _ | trace_state
      · have e : tbR r v xs l u = ([], (chkA r v xs).2, ()) := by
          have h0 : tbH r v xs l.length u = (chkA r v xs).2 := if_neg hc
          exact tbR_h h0 hc
        repeat' (intro hzz; (try (rename Two => hq; cases hq)); (try dsimp only at hzz); (try simp only [resTy, argTy, eqD, inR, big, wantOf, Bool.not_true, Bool.not_false, Bool.true_eq, decide_eq_true_eq, decide_eq_false_iff_not, Bool.not_eq_true', Bool.not_eq_false', Bool.and_eq_true, Prod.mk.injEq, and_true, true_and, Int.not_lt, Int.not_le, gt_iff_lt, ge_iff_le] at hzz); (try simp only [resTy, argTy, eqD, inR, big, wantOf, Bool.not_true, Bool.not_false, Bool.true_eq, decide_eq_true_eq, decide_eq_false_iff_not, Bool.not_eq_true', Bool.not_eq_false', Bool.and_eq_true, Prod.mk.injEq, and_true, true_and, Int.not_lt, Int.not_le, gt_iff_lt, ge_iff_le, hl, hs, hc, e, lists_self, hpw, not_true_eq_false, not_false_eq_true] at hzz); (try (first | contradiction | (exfalso; omega))); (try (revert hzz; intro _)))
        all_goals try (rename Unit => hq; clear hq)
        all_goals try ((with_reducible refine Held.mk ?_); (with_reducible (first | refine Frz.mk ?_ | refine And.intro (Frz.mk ?_) ?_ | refine And.intro ?_ (Frz.mk ?_))); repeat' first | exact True.intro | (change _ = _; with_reducible rfl) | refine And.intro ?_ ?_ | (with_reducible refine Frz.mk ?_))
        all_goals try (refine Held.mk ?_; (try dsimp only at *); (try simp only [resTy, argTy, eqD, inR, big, wantOf, Bool.not_true, Bool.not_false, Bool.true_eq, decide_eq_true_eq, decide_eq_false_iff_not, Bool.not_eq_true', Bool.not_eq_false', Bool.and_eq_true, Prod.mk.injEq, and_true, true_and, Int.not_lt, Int.not_le, gt_iff_lt, ge_iff_le] at *); (try simp only [resTy, argTy, eqD, inR, big, wantOf, Bool.not_true, Bool.not_false, Bool.true_eq, decide_eq_true_eq, decide_eq_false_iff_not, Bool.not_eq_true', Bool.not_eq_false', Bool.and_eq_true, Prod.mk.injEq, and_true, true_and, Int.not_lt, Int.not_le, gt_iff_lt, ge_iff_le, hl, hs, hc, e, lists_self, hpw, not_true_eq_false, not_false_eq_true] at *))
        all_goals try omega
        all_goals first | exact hp | exact hq | exact hp2 | exact hq2 | exact ⟨hp, hq⟩ | exact lists_self _ | exact nil_len | trace_state
    · have hX : Hid True := trivial
      repeat' (intro hzz; (try (rename Two => hq; cases hq)); (try dsimp only at hzz); (try simp only [resTy, argTy, eqD, inR, big, wantOf, Bool.not_true, Bool.not_false, Bool.true_eq, decide_eq_true_eq, decide_eq_false_iff_not, Bool.not_eq_true', Bool.not_eq_false', Bool.and_eq_true, Prod.mk.injEq, and_true, true_and, Int.not_lt, Int.not_le, gt_iff_lt, ge_iff_le] at hzz); (try simp only [resTy, argTy, eqD, inR, big, wantOf, Bool.not_true, Bool.not_false, Bool.true_eq, decide_eq_true_eq, decide_eq_false_iff_not, Bool.not_eq_true', Bool.not_eq_false', Bool.and_eq_true, Prod.mk.injEq, and_true, true_and, Int.not_lt, Int.not_le, gt_iff_lt, ge_iff_le, hl, hs, hpw] at hzz); (try (first | contradiction | (exfalso; omega))); (try (revert hzz; intro _)))
      all_goals try (rename Unit => hq; clear hq)
      all_goals try ((with_reducible refine Held.mk ?_); (with_reducible (first | refine Frz.mk ?_ | refine And.intro (Frz.mk ?_) ?_ | refine And.intro ?_ (Frz.mk ?_))); repeat' first | exact True.intro | (change _ = _; with_reducible rfl) | refine And.intro ?_ ?_ | (with_reducible refine Frz.mk ?_))
      all_goals try (refine Held.mk ?_; (try dsimp only at *); (try simp only [resTy, argTy, eqD, inR, big, wantOf, Bool.not_true, Bool.not_false, Bool.true_eq, decide_eq_true_eq, decide_eq_false_iff_not, Bool.not_eq_true', Bool.not_eq_false', Bool.and_eq_true, Prod.mk.injEq, and_true, true_and, Int.not_lt, Int.not_le, gt_iff_lt, ge_iff_le] at *); (try simp only [resTy, argTy, eqD, inR, big, wantOf, Bool.not_true, Bool.not_false, Bool.true_eq, decide_eq_true_eq, decide_eq_false_iff_not, Bool.not_eq_true', Bool.not_eq_false', Bool.and_eq_true, Prod.mk.injEq, and_true, true_and, Int.not_lt, Int.not_le, gt_iff_lt, ge_iff_le, hl, hs, hpw] at *))
      all_goals try omega
      all_goals trace_state
  · have hX : Hid True := trivial
    repeat' (intro hzz; (try (rename Two => hq; cases hq)); (try dsimp only at hzz); (try simp only [resTy, argTy, eqD, inR, big, wantOf, Bool.not_true, Bool.not_false, Bool.true_eq, decide_eq_true_eq, decide_eq_false_iff_not, Bool.not_eq_true', Bool.not_eq_false', Bool.and_eq_true, Prod.mk.injEq, and_true, true_and, Int.not_lt, Int.not_le, gt_iff_lt, ge_iff_le] at hzz); (try simp only [resTy, argTy, eqD, inR, big, wantOf, Bool.not_true, Bool.not_false, Bool.true_eq, decide_eq_true_eq, decide_eq_false_iff_not, Bool.not_eq_true', Bool.not_eq_false', Bool.and_eq_true, Prod.mk.injEq, and_true, true_and, Int.not_lt, Int.not_le, gt_iff_lt, ge_iff_le, hl, hpw] at hzz); (try (first | contradiction | (exfalso; omega))); (try (revert hzz; intro _)))
    all_goals try (rename Unit => hq; clear hq)
    all_goals try ((with_reducible refine Held.mk ?_); (with_reducible (first | refine Frz.mk ?_ | refine And.intro (Frz.mk ?_) ?_ | refine And.intro ?_ (Frz.mk ?_))); repeat' first | exact True.intro | (change _ = _; with_reducible rfl) | refine And.intro ?_ ?_ | (with_reducible refine Frz.mk ?_))
    all_goals try (refine Held.mk ?_; (try dsimp only at *); (try simp only [resTy, argTy, eqD, inR, big, wantOf, Bool.not_true, Bool.not_false, Bool.true_eq, decide_eq_true_eq, decide_eq_false_iff_not, Bool.not_eq_true', Bool.not_eq_false', Bool.and_eq_true, Prod.mk.injEq, and_true, true_and, Int.not_lt, Int.not_le, gt_iff_lt, ge_iff_le] at *); (try simp only [resTy, argTy, eqD, inR, big, wantOf, Bool.not_true, Bool.not_false, Bool.true_eq, decide_eq_true_eq, decide_eq_false_iff_not, Bool.not_eq_true', Bool.not_eq_false', Bool.and_eq_true, Prod.mk.injEq, and_true, true_and, Int.not_lt, Int.not_le, gt_iff_lt, ge_iff_le, hl, hpw] at *))
    all_goals try omega
    all_goals trace_state
end Go.Eng.Ar

