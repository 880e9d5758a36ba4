/- Contracts: recordings unfolded by transforms, of the program and of the reference. Conditions: each contract's own. -/
import Derived.Test.YtcoimlnplaidiaaQ51A
import Derived.Test.YtcoimlnplaidiaaQ34
namespace Go.Eng.Pu
open Go.Eng Go.Proofs
set_option linter.all false
set_option maxRecDepth 100000
set_option maxHeartbeats 8000000

abbrev StartT' : Ty := .cons Reg0 (.cons I64 .nil)

/-- A transform divided by another one, transformed back; numbers greater than half of the prime are below 0. -/
def quF (p w : Int) (xs bs : List Int) (i : Nat) : Int := dft p w (at0 xs) xs.length i * inv (bs.getD i 0) p % p
def quL (p w : Int) (xs bs : List Int) : List Int := tab (quF p w xs bs) xs.length
def hfc (p v : Int) : Int := if p < 2 * v then v - p else v
def uiF (p w n : Int) (xs bs : List Int) (i : Nat) : Int := hfc p (backF p w n (quL p w xs bs) i)
def uiL (p w n : Int) (xs bs : List Int) : List Int := tab (uiF p w n xs bs) xs.length

@[reducible] def sUfd : Spec := { pats := [.dat Fld, .dat (.sl I64), .dat (.sl I64)], res := [{ t := .sl I64 }], pre := fun x => FOk x.1.1.1 x.1.1.2.1 x.1.1.2.2.1 ∧ (List.length (α := Int) x.2.1 : Int) = x.1.1.2.2.1 ∧ List.length (α := Int) x.2.2.1 = List.length (α := Int) x.2.1, f := fun x => (uiL x.1.1.1 x.1.1.2.1 x.1.1.2.2.1 x.2.1 x.2.2.1, ()) }

theorem quL_len (p w : Int) (xs bs : List Int) : (quL p w xs bs).length = xs.length := tab_len _ _
theorem backL_len (p w n : Int) (xs : List Int) : (backL p w n xs).length = xs.length := tab_len _ _
theorem backF_in {p w n : Int} (hp : 2 ≤ p) (xs : List Int) (i : Nat) : 0 ≤ backF p w n xs i ∧ backF p w n xs i < p := em_in hp _

theorem mixT_same {f g : Nat → Int} {n k : Nat} (h : k < n) : (mixT f g n k).set k (g k) = mixT f g n k := by
  have := mixT_get (f := f) (g := g) h
  unfold mixT at *
  rw [tab_set]
  refine tab_congr _ fun i hi => ?_
  by_cases he : i = k
  · rw [if_pos he, he, if_neg (by omega)]
  · rw [if_neg he]

/-- field.unfolded -/
theorem h132 : Ok 132 sUfd := by
  refine mk (ctr := [(103, sTrf), (154, sInv), (104, sBk)]) ⟨h103, h154, h104, trivial⟩ (nt := 64) Try.func132 rfl rfl rfl rfl (by kernel_rfl) (by kernel_rfl) (fun x => [fun _ => { σ := Nat, pat := fun k => [sI 17 k, .row 14 3 I64 (mixT (quF x.1.1.1 x.1.1.2.1 x.2.1 x.2.2.1) (dft x.1.1.1 x.1.1.2.1 (at0 x.2.1) (List.length (α := Int) x.2.1)) (List.length (α := Int) x.2.1) k)], inv := fun k => k ≤ List.length (α := Int) x.2.1, meas := fun k => List.length (α := Int) x.2.1 - k }, fun _ => { σ := Nat, pat := fun k => [sI 43 k, .row 40 3 I64 (mixT (uiF x.1.1.1 x.1.1.2.1 x.1.1.2.2.1 x.2.1 x.2.2.1) (backF x.1.1.1 x.1.1.2.1 x.1.1.2.2.1 (quL x.1.1.1 x.1.1.2.1 x.2.1 x.2.2.1)) (List.length (α := Int) x.2.1) k)], inv := fun k => k ≤ List.length (α := Int) x.2.1, meas := fun k => List.length (α := Int) x.2.1 - k }]) ?_
  rintro ⟨⟨⟨(p : Int), (w : Int), (n : Int), _⟩, _⟩, (xs : List Int), (bs : List Int), _⟩ ⟨(hf : FOk p w n), (hl : (xs.length : Int) = n), (hb : bs.length = xs.length)⟩
  have h1 := hf.h1
  have h2 := hf.h2
  have hll := dftL_len p w xs
  have h4 := hf.h4
  have hin := fun a => inv_in h1 a
  have hbk := fun i => backF_in (w := w) (n := n) h1 (quL p w xs bs) i
  have hq : ∀ k, (mixT (quF p w xs bs) (dft p w (at0 xs) xs.length) xs.length k).length = xs.length := fun k => mixT_len _ _ _ _
  repeat' (intro hzz; (try (rename Two => hq; cases hq)); (try dsimp only at hzz); (try simp only [resTy, argTy, eqD, inR, big, wantOf, Bool.not_true, Bool.not_false, Bool.true_eq, decide_eq_true_eq, decide_eq_false_iff_not, Bool.not_eq_true', Bool.not_eq_false', Bool.and_eq_true, Prod.mk.injEq, and_true, true_and, Int.not_lt, Int.not_le, gt_iff_lt, ge_iff_le] at hzz); (try simp only [resTy, argTy, eqD, inR, big, wantOf, Bool.not_true, Bool.not_false, Bool.true_eq, decide_eq_true_eq, decide_eq_false_iff_not, Bool.not_eq_true', Bool.not_eq_false', Bool.and_eq_true, Prod.mk.injEq, and_true, true_and, Int.not_lt, Int.not_le, gt_iff_lt, ge_iff_le, dftL_len, getD_i, tab_len, mixT_len, backL_len] at hzz); (try (first | contradiction | (exfalso; omega))); (try (revert hzz; intro _)))
  all_goals try (rename Unit => hq; clear hq)
  all_goals try ((with_reducible refine Held.mk ?_); (with_reducible (first | refine Frz.mk ?_ | refine And.intro (Frz.mk ?_) ?_ | refine And.intro ?_ (Frz.mk ?_))); repeat' first | exact True.intro | (change _ = _; with_reducible rfl) | refine And.intro ?_ ?_ | (with_reducible refine Frz.mk ?_))
  all_goals try (refine Held.mk ?_; (try dsimp only at *); (try simp only [resTy, argTy, eqD, inR, big, wantOf, Bool.not_true, Bool.not_false, Bool.true_eq, decide_eq_true_eq, decide_eq_false_iff_not, Bool.not_eq_true', Bool.not_eq_false', Bool.and_eq_true, Prod.mk.injEq, and_true, true_and, Int.not_lt, Int.not_le, gt_iff_lt, ge_iff_le] at *); (try simp only [resTy, argTy, eqD, inR, big, wantOf, Bool.not_true, Bool.not_false, Bool.true_eq, decide_eq_true_eq, decide_eq_false_iff_not, Bool.not_eq_true', Bool.not_eq_false', Bool.and_eq_true, Prod.mk.injEq, and_true, true_and, Int.not_lt, Int.not_le, gt_iff_lt, ge_iff_le, dftL_len, getD_i, tab_len, mixT_len, backL_len] at *))
  all_goals try omega
  all_goals try exact ⟨hf, hl⟩
  all_goals try exact (dftL_len _ _ _).trans (mixT_len _ _ _ _).symm
  all_goals try exact ((backL_len _ _ _ _).trans (mixT_len _ _ _ _)).trans (mixT_len _ _ _ _).symm
  · 
    refine GHeld.mk ?_
    refine Exists.intro 0 ?_
    refine And.intro (Leaf.mk ?_) ?_
    · repeat' first | exact True.intro | refine And.intro ?_ ?_
      all_goals try ((change _ = _ <;> try dsimp only) <;> try with_reducible rfl)
      all_goals try omega
      all_goals (first | exact (mixT_zero _ _ _).symm | exact hll | rfl)
    exact Nat.zero_le _
  · exact ⟨h1, h2⟩
  · rename_i k hk hlt
    rw [mixT_get (by omega)]
    have g1 := dft_in h1 w (at0 xs) xs.length k
    have g2 := hin (bs.getD k 0)
    have := pwI_mul h2 g1.1 g1.2 g2.1 g2.2
    omega
  · rename_i k hk hlt
    have g1 := dft_in h1 w (at0 xs) xs.length k
    have g2 := hin (bs.getD k 0)
    have e : (mixT (quF p w xs bs) (dft p w (at0 xs) xs.length) xs.length k).set k (((mixT (quF p w xs bs) (dft p w (at0 xs) xs.length) xs.length k).getD k 0 * inv (bs.getD k 0) p).tmod p) = mixT (quF p w xs bs) (dft p w (at0 xs) xs.length) xs.length (k + 1) := by
      rw [mixT_get (by omega), Int.tmod_eq_emod_of_nonneg (Int.mul_nonneg g1.1 g2.1)]
      exact mixT_set (by omega)
    refine GHeld.mk ?_
    refine Exists.intro (k + 1) ?_
    refine And.intro (Leaf.mk ?_) ?_
    · repeat' first | exact True.intro | refine And.intro ?_ ?_
      all_goals try ((change _ = _ <;> try dsimp only) <;> try with_reducible rfl)
      all_goals try omega
      all_goals (first | exact e | rfl)
    exact ⟨by show k + 1 ≤ xs.length; omega, by show xs.length - (k + 1) < xs.length - k; omega⟩
  · rename_i c hc hc2
    have hcl : c = xs.length := by omega
    subst hcl
    have e1 : mixT (quF p w xs bs) (dft p w (at0 xs) xs.length) xs.length xs.length = quL p w xs bs := mixT_all _ _ _
    have e2 : backL p w n (mixT (quF p w xs bs) (dft p w (at0 xs) xs.length) xs.length xs.length) = mixT (uiF p w n xs bs) (backF p w n (quL p w xs bs)) xs.length 0 := by
      rw [e1, mixT_zero]
      unfold backL
      rw [quL_len]
    refine GHeld.mk ?_
    refine Exists.intro 0 ?_
    refine And.intro (Leaf.mk ?_) ?_
    · repeat' first | exact True.intro | refine And.intro ?_ ?_
      all_goals try ((change _ = _ <;> try dsimp only) <;> try with_reducible rfl)
      all_goals try omega
      all_goals (first | exact e2 | exact congrArg List.length e2 | rfl)
    exact Nat.zero_le _
  · rename_i c hc hc2 k hk hlt
    rw [mixT_get (by omega)]
    have := hbk k
    omega
  · rename_i c hc hc2 k hk hlt hg
    rw [mixT_get (by omega)]
    have := hbk k
    omega
  · rename_i c hc hc2 k hk hlt hg
    have e : (mixT (uiF p w n xs bs) (backF p w n (quL p w xs bs)) xs.length k).set k ((mixT (uiF p w n xs bs) (backF p w n (quL p w xs bs)) xs.length k).getD k 0 - p) = mixT (uiF p w n xs bs) (backF p w n (quL p w xs bs)) xs.length (k + 1) := by
      rw [mixT_get (by omega)] at hg ⊢
      rw [← mixT_set (by omega)]
      unfold uiF hfc
      rw [if_pos hg]
    refine GHeld.mk ?_
    refine Exists.intro (k + 1) ?_
    refine And.intro (Leaf.mk ?_) ?_
    · repeat' first | exact True.intro | refine And.intro ?_ ?_
      all_goals try ((change _ = _ <;> try dsimp only) <;> try with_reducible rfl)
      all_goals try omega
      all_goals (first | exact e | rfl)
    exact ⟨by show k + 1 ≤ xs.length; omega, by show xs.length - (k + 1) < xs.length - k; omega⟩
  · rename_i c hc hc2 k hk hlt hg
    have e : mixT (uiF p w n xs bs) (backF p w n (quL p w xs bs)) xs.length k = mixT (uiF p w n xs bs) (backF p w n (quL p w xs bs)) xs.length (k + 1) := by
      rw [mixT_get (by omega)] at hg
      rw [← mixT_set (by omega)]
      unfold uiF hfc
      rw [if_neg (by omega)]
      exact (mixT_same (by omega)).symm
    refine GHeld.mk ?_
    refine Exists.intro (k + 1) ?_
    refine And.intro (Leaf.mk ?_) ?_
    · repeat' first | exact True.intro | refine And.intro ?_ ?_
      all_goals try ((change _ = _ <;> try dsimp only) <;> try with_reducible rfl)
      all_goals try omega
      all_goals (first | exact e | rfl)
    exact ⟨by show k + 1 ≤ xs.length; omega, by show xs.length - (k + 1) < xs.length - k; omega⟩
  · rename_i c hc hc2 k hk hge
    rw [show k = xs.length by omega]
    exact mixT_all _ _ _

/-- What is unfolded by transforms. -/
def uwF (p w n : Int) (ps : List IP) (sg : List Int) (k : Nat) : IP := (uiF p w n (prtL ps 0) (dftL p w sg) k, uiF p w n (prtL ps 1) (dftL p w sg) k, ())
def uwL (p w n : Int) (ps : List IP) (sg : List Int) : List IP := tab (uwF p w n ps sg) ps.length

noncomputable def uwE (xs : CL) (L : Int) (ts : List Int) (s p w n : Int) : Int :=
  if lE xs = 0 then (if opErr L ts s = 0 then (if cfE p w n = 0 then (if (per L ts 1 : Int) = most L then (if (xs.length : Int) = most L ∧ n = most L then tE (uwL p w n (lP xs) (sgL L ts s)) else 13) else 22) else cfE p w n) else opErr L ts s) else lE xs
noncomputable def uwR (xs : CL) (L : Int) (ts : List Int) (s p w n : Int) : CL :=
  if lE xs = 0 then (if opErr L ts s = 0 then (if cfE p w n = 0 then (if (per L ts 1 : Int) = most L then (if (xs.length : Int) = most L ∧ n = most L then tL (uwL p w n (lP xs) (sgL L ts s)) else []) else []) else []) else []) else []

@[reducible] noncomputable def sUwI : Spec := { pats := [.dat (.sl C64), .dat StartT', .dat Fld0], res := [{ own := some 136, t := .sl C64 }, { t := I64 }], pre := fun x => pLen (List.length (α := Int) x.2.1.1.2.1), f := fun x => (uwR x.1 x.2.1.1.1 x.2.1.1.2.1 x.2.1.2.1 x.2.2.1.1 x.2.2.1.2.1 x.2.2.1.2.2.1, uwE x.1 x.2.1.1.1 x.2.1.1.2.1 x.2.1.2.1 x.2.2.1.1 x.2.2.1.2.1 x.2.2.1.2.2.1, ()) }

theorem uiL_len (p w n : Int) (xs bs : List Int) : (uiL p w n xs bs).length = xs.length := tab_len _ _


/-- UnfoldedIn -/
theorem h69 : Ok 69 sUwI := by
  refine mk (ctr := [(91, sRecdD), (83, sOpen), (45, sCField), (84, sFirst), (121, sIsMax), (94, sFull), (95, sSignsD), (103, sTrf), (132, sUfd), (93, sTold)]) ⟨h91d, h83, h45, h84, h121, h94, h95d, h103, h132, h93n, trivial⟩ (nt := 115) Try.func69 rfl rfl rfl rfl (by kernel_rfl) (by kernel_rfl) (fun x => [fun _ => { σ := Nat, pat := fun k => [sI 63 k] ++ rOwn 11 60011 3 I64 (tab (prtF (lP x.1) 0) k) ++ rOwn 12 60012 3 I64 (tab (prtF (lP x.1) 1) k), inv := fun k => k ≤ List.length (α := IP) (lP x.1), meas := fun k => List.length (α := IP) (lP x.1) - k }, fun _ => { σ := Nat, pat := fun k => [sI 96 k] ++ rOwn 17 60017 139 PairT (tab (uwF x.2.2.1.1 x.2.2.1.2.1 x.2.2.1.2.2.1 (lP x.1) (sgL x.2.1.1.1 x.2.1.1.2.1 x.2.1.2.1)) k), inv := fun k => k ≤ List.length (α := IP) (lP x.1), meas := fun k => List.length (α := IP) (lP x.1) - k }]) ?_
  rintro ⟨(xs : CL), ⟨⟨(L : Int), (ts : List Int), _⟩, (s : Int), _⟩, ⟨(p : Int), (w : Int), (n : Int), _⟩, _⟩ (hts : pLen ts.length)
  have hpl := pLen2
  by_cases h : lE xs = 0
  · have hp := lP_okL h
    have hl := lP_len h
    have hl2 := (lE_ok h).2.1
    by_cases ho : opErr L ts s = 0
    · obtain ⟨hst, hs1⟩ := op_pSt hts ho
      have hL := (chk_zero hst.1).1
      have hm := most_in hL
      by_cases hc : cfE p w n = 0
      · have hfi : firstI [opErr L ts s, cfE p w n] = 0 := by simp [firstI, ho, hc]
        have hfo := cf_zero hc
        by_cases hx : (per L ts 1 : Int) = most L
        · have hxd := decide_eq_true hx
          by_cases hn : (xs.length : Int) = most L ∧ n = most L
          · have u : uwE xs L ts s p w n = tE (uwL p w n (lP xs) (sgL L ts s)) := by unfold uwE; rw [if_pos h, if_pos ho, if_pos hc, if_pos hx, if_pos hn]
            have v : uwR xs L ts s p w n = tL (uwL p w n (lP xs) (sgL L ts s)) := by unfold uwR; rw [if_pos h, if_pos ho, if_pos hc, if_pos hx, if_pos hn]
            have hln : ((lP xs).length : Int) = most L := by omega
            obtain ⟨hn1, rfl⟩ := hn
            have hsl := sgL_len L ts s
            have hsg : tab (sgI L ts s) (most L).toNat = sgL L ts s := rfl
            have hbf : false = !decide (((lP xs).length : Int) = most L) := by rw [decide_eq_true hln]; rfl
            have hall : ∀ c i, c ≤ (lP xs).length → ((lP xs).length : Int) ≤ c → tab (prtF (lP xs) i) c = prtL (lP xs) i := fun c i h1 h2 => by rw [show c = (lP xs).length by omega]; rfl
            repeat' (intro hzz; (try (rename Two => hq; cases hq)); (try dsimp only at hzz); (try simp only [resTy, argTy, eqD, inR, big, wantOf, Bool.not_true, Bool.not_false, Bool.true_eq, decide_eq_true_eq, decide_eq_false_iff_not, Bool.not_eq_true', Bool.not_eq_false', Bool.and_eq_true, Prod.mk.injEq, and_true, true_and, Int.not_lt, Int.not_le, gt_iff_lt, ge_iff_le] at hzz); (try simp only [resTy, argTy, eqD, inR, big, wantOf, Bool.not_true, Bool.not_false, Bool.true_eq, decide_eq_true_eq, decide_eq_false_iff_not, Bool.not_eq_true', Bool.not_eq_false', Bool.and_eq_true, Prod.mk.injEq, and_true, true_and, Int.not_lt, Int.not_le, gt_iff_lt, ge_iff_le, h, hfi, hxd, hln, hsg] at hzz); (try (first | contradiction | (exfalso; omega))); (try (revert hzz; intro _)))
            all_goals try (rename Unit => hq; clear hq)
            all_goals try ((with_reducible refine Held.mk ?_); (with_reducible (first | refine Frz.mk ?_ | refine And.intro (Frz.mk ?_) ?_ | refine And.intro ?_ (Frz.mk ?_))); repeat' first | exact True.intro | (change _ = _; with_reducible rfl) | refine And.intro ?_ ?_ | (with_reducible refine Frz.mk ?_))
            all_goals try (refine Held.mk ?_; (try dsimp only at *); (try simp only [resTy, argTy, eqD, inR, big, wantOf, Bool.not_true, Bool.not_false, Bool.true_eq, decide_eq_true_eq, decide_eq_false_iff_not, Bool.not_eq_true', Bool.not_eq_false', Bool.and_eq_true, Prod.mk.injEq, and_true, true_and, Int.not_lt, Int.not_le, gt_iff_lt, ge_iff_le] at *); (try simp only [resTy, argTy, eqD, inR, big, wantOf, Bool.not_true, Bool.not_false, Bool.true_eq, decide_eq_true_eq, decide_eq_false_iff_not, Bool.not_eq_true', Bool.not_eq_false', Bool.and_eq_true, Prod.mk.injEq, and_true, true_and, Int.not_lt, Int.not_le, gt_iff_lt, ge_iff_le, h, hfi, hxd, hln, hsg] at *))
            all_goals try omega
            · exact ⟨hst.1, hts⟩
            · 
              refine GHeld.mk ?_
              refine Exists.intro 0 ?_
              refine And.intro (Leaf.mk ?_) ?_
              · repeat' first | exact True.intro | refine And.intro ?_ ?_
                all_goals try ((change _ = _ <;> try dsimp only) <;> try with_reducible rfl)
                all_goals try omega
                all_goals (first | rfl | exact hbf)
              exact Nat.zero_le _
            · rename_i k hk hlt _
              rw [tab_len]; show k + 1 ≤ 2147483648; omega
            · rename_i k hk hlt _
              rw [tab_len]; show k + 1 ≤ 2147483648; omega
            · rename_i k hk hlt
              refine GHeld.mk ?_
              refine Exists.intro (k + 1) ?_
              refine And.intro (Leaf.mk ?_) ?_
              · repeat' first | exact True.intro | refine And.intro ?_ ?_
                all_goals try ((change _ = _ <;> try dsimp only) <;> try with_reducible rfl)
                all_goals try omega
                all_goals (first | rfl | exact hbf)
              exact ⟨by show k + 1 ≤ (lP xs).length; omega, by show (lP xs).length - (k + 1) < (lP xs).length - k; omega⟩
            · exact ⟨hfo, by omega⟩
            · rename_i c hc hc2 _
              rw [hall c _ hc (by omega), prtL_len, dftL_len]
              exact ⟨hfo, by omega, by omega⟩
            · rename_i c hc hc2 _
              rw [hall c _ hc (by omega), prtL_len, dftL_len]
              exact ⟨hfo, by omega, by omega⟩
            · rename_i c hc hc2 _
              refine GHeld.mk ?_
              refine Exists.intro 0 ?_
              refine And.intro (Leaf.mk ?_) ?_
              · repeat' first | exact True.intro | refine And.intro ?_ ?_
                all_goals try ((change _ = _ <;> try dsimp only) <;> try with_reducible rfl)
                all_goals try omega
                all_goals (first | rfl | exact hbf)
              exact Nat.zero_le _
            · rename_i c hc hc2 k hk hlt _
              rw [hall c _ hc (by omega), uiL_len, prtL_len] at hlt
              rw [hall c _ hc (by omega), uiL_len, prtL_len]
              omega
            · rename_i c hc hc2 k hk hlt _
              rw [hall c _ hc (by omega), uiL_len, prtL_len] at hlt
              rw [tab_len]; show k + 1 ≤ 2147483648; omega
            · rename_i c hc hc2 k hk hlt
              have hlt : (k : Int) < ((uiL p w (most L) (tab (prtF (lP xs) 0) c) (dftL p w (sgL L ts s))).length : Int) := hlt
              rw [hall c _ hc (by omega), uiL_len, prtL_len] at hlt
              have e : tab (uwF p w (most L) (lP xs) (sgL L ts s)) k ++ [((uiL p w (most L) (tab (prtF (lP xs) 0) c) (dftL p w (sgL L ts s))).getD k 0, (uiL p w (most L) (tab (prtF (lP xs) 1) c) (dftL p w (sgL L ts s))).getD k 0, ())] = tab (uwF p w (most L) (lP xs) (sgL L ts s)) (k + 1) := by
                rw [hall c _ hc (by omega), hall c _ hc (by omega)]
                unfold uiL
                rw [tab_get _ _ _ _ (by rw [prtL_len]; omega), tab_get _ _ _ _ (by rw [prtL_len]; omega)]; rfl
              refine GHeld.mk ?_
              refine Exists.intro (k + 1) ?_
              refine And.intro (Leaf.mk ?_) ?_
              · repeat' first | exact True.intro | refine And.intro ?_ ?_
                all_goals try ((change _ = _ <;> try dsimp only) <;> try with_reducible rfl)
                all_goals try omega
                all_goals (first | exact e | exact congrArg List.length e | exact hbf)
              exact ⟨by show k + 1 ≤ (lP xs).length; omega, by show (lP xs).length - (k + 1) < (lP xs).length - k; omega⟩
            · rename_i c hc hc2 k hk hge _
              rw [tab_len]; omega
            · rename_i c hc hc2 k hk hge _
              rw [hall c _ hc (by omega), uiL_len, prtL_len] at hge
              rw [u, v, show k = (lP xs).length by omega]; exact ⟨rfl, rfl⟩
          · have u : uwE xs L ts s p w n = 13 := by unfold uwE; rw [if_pos h, if_pos ho, if_pos hc, if_pos hx, if_neg hn]
            have v : uwR xs L ts s p w n = [] := by unfold uwR; rw [if_pos h, if_pos ho, if_pos hc, if_pos hx, if_neg hn]
            repeat' (intro hzz; (try (rename Two => hq; cases hq)); (try dsimp only at hzz); (try simp only [resTy, argTy, eqD, inR, big, wantOf, Bool.not_true, Bool.not_false, Bool.true_eq, decide_eq_true_eq, decide_eq_false_iff_not, Bool.not_eq_true', Bool.not_eq_false', Bool.and_eq_true, Prod.mk.injEq, and_true, true_and, Int.not_lt, Int.not_le, gt_iff_lt, ge_iff_le] at hzz); (try simp only [resTy, argTy, eqD, inR, big, wantOf, Bool.not_true, Bool.not_false, Bool.true_eq, decide_eq_true_eq, decide_eq_false_iff_not, Bool.not_eq_true', Bool.not_eq_false', Bool.and_eq_true, Prod.mk.injEq, and_true, true_and, Int.not_lt, Int.not_le, gt_iff_lt, ge_iff_le, h, hfi, hxd, u, v] at hzz); (try (first | contradiction | (exfalso; omega))); (try (revert hzz; intro _)))
            all_goals try (rename Unit => hq; clear hq)
            all_goals try ((with_reducible refine Held.mk ?_); (with_reducible (first | refine Frz.mk ?_ | refine And.intro (Frz.mk ?_) ?_ | refine And.intro ?_ (Frz.mk ?_))); repeat' first | exact True.intro | (change _ = _; with_reducible rfl) | refine And.intro ?_ ?_ | (with_reducible refine Frz.mk ?_))
            all_goals try (refine Held.mk ?_; (try dsimp only at *); (try simp only [resTy, argTy, eqD, inR, big, wantOf, Bool.not_true, Bool.not_false, Bool.true_eq, decide_eq_true_eq, decide_eq_false_iff_not, Bool.not_eq_true', Bool.not_eq_false', Bool.and_eq_true, Prod.mk.injEq, and_true, true_and, Int.not_lt, Int.not_le, gt_iff_lt, ge_iff_le] at *); (try simp only [resTy, argTy, eqD, inR, big, wantOf, Bool.not_true, Bool.not_false, Bool.true_eq, decide_eq_true_eq, decide_eq_false_iff_not, Bool.not_eq_true', Bool.not_eq_false', Bool.and_eq_true, Prod.mk.injEq, and_true, true_and, Int.not_lt, Int.not_le, gt_iff_lt, ge_iff_le, h, hfi, hxd, u, v] at *))
            all_goals try omega
            all_goals exact ⟨hst.1, hts⟩
        · have hxd := decide_eq_false hx
          have u : uwE xs L ts s p w n = 22 := by unfold uwE; rw [if_pos h, if_pos ho, if_pos hc, if_neg hx]
          have v : uwR xs L ts s p w n = [] := by unfold uwR; rw [if_pos h, if_pos ho, if_pos hc, if_neg hx]
          repeat' (intro hzz; (try (rename Two => hq; cases hq)); (try dsimp only at hzz); (try simp only [resTy, argTy, eqD, inR, big, wantOf, Bool.not_true, Bool.not_false, Bool.true_eq, decide_eq_true_eq, decide_eq_false_iff_not, Bool.not_eq_true', Bool.not_eq_false', Bool.and_eq_true, Prod.mk.injEq, and_true, true_and, Int.not_lt, Int.not_le, gt_iff_lt, ge_iff_le] at hzz); (try simp only [resTy, argTy, eqD, inR, big, wantOf, Bool.not_true, Bool.not_false, Bool.true_eq, decide_eq_true_eq, decide_eq_false_iff_not, Bool.not_eq_true', Bool.not_eq_false', Bool.and_eq_true, Prod.mk.injEq, and_true, true_and, Int.not_lt, Int.not_le, gt_iff_lt, ge_iff_le, h, hfi, hxd, u, v] at hzz); (try (first | contradiction | (exfalso; omega))); (try (revert hzz; intro _)))
          all_goals try (rename Unit => hq; clear hq)
          all_goals try ((with_reducible refine Held.mk ?_); (with_reducible (first | refine Frz.mk ?_ | refine And.intro (Frz.mk ?_) ?_ | refine And.intro ?_ (Frz.mk ?_))); repeat' first | exact True.intro | (change _ = _; with_reducible rfl) | refine And.intro ?_ ?_ | (with_reducible refine Frz.mk ?_))
          all_goals try (refine Held.mk ?_; (try dsimp only at *); (try simp only [resTy, argTy, eqD, inR, big, wantOf, Bool.not_true, Bool.not_false, Bool.true_eq, decide_eq_true_eq, decide_eq_false_iff_not, Bool.not_eq_true', Bool.not_eq_false', Bool.and_eq_true, Prod.mk.injEq, and_true, true_and, Int.not_lt, Int.not_le, gt_iff_lt, ge_iff_le] at *); (try simp only [resTy, argTy, eqD, inR, big, wantOf, Bool.not_true, Bool.not_false, Bool.true_eq, decide_eq_true_eq, decide_eq_false_iff_not, Bool.not_eq_true', Bool.not_eq_false', Bool.and_eq_true, Prod.mk.injEq, and_true, true_and, Int.not_lt, Int.not_le, gt_iff_lt, ge_iff_le, h, hfi, hxd, u, v] at *))
          all_goals try omega
          all_goals exact ⟨hst.1, hts⟩
      · have hfi : firstI [opErr L ts s, cfE p w n] = cfE p w n := by simp [firstI, ho, hc]
        have u : uwE xs L ts s p w n = cfE p w n := by unfold uwE; rw [if_pos h, if_pos ho, if_neg hc]
        have v : uwR xs L ts s p w n = [] := by unfold uwR; rw [if_pos h, if_pos ho, if_neg hc]
        repeat' (intro hzz; (try (rename Two => hq; cases hq)); (try dsimp only at hzz); (try simp only [resTy, argTy, eqD, inR, big, wantOf, Bool.not_true, Bool.not_false, Bool.true_eq, decide_eq_true_eq, decide_eq_false_iff_not, Bool.not_eq_true', Bool.not_eq_false', Bool.and_eq_true, Prod.mk.injEq, and_true, true_and, Int.not_lt, Int.not_le, gt_iff_lt, ge_iff_le] at hzz); (try simp only [resTy, argTy, eqD, inR, big, wantOf, Bool.not_true, Bool.not_false, Bool.true_eq, decide_eq_true_eq, decide_eq_false_iff_not, Bool.not_eq_true', Bool.not_eq_false', Bool.and_eq_true, Prod.mk.injEq, and_true, true_and, Int.not_lt, Int.not_le, gt_iff_lt, ge_iff_le, h, hfi, u, v] at hzz); (try (first | contradiction | (exfalso; omega))); (try (revert hzz; intro _)))
        all_goals try (rename Unit => hq; clear hq)
        all_goals try ((with_reducible refine Held.mk ?_); (with_reducible (first | refine Frz.mk ?_ | refine And.intro (Frz.mk ?_) ?_ | refine And.intro ?_ (Frz.mk ?_))); repeat' first | exact True.intro | (change _ = _; with_reducible rfl) | refine And.intro ?_ ?_ | (with_reducible refine Frz.mk ?_))
        all_goals try (refine Held.mk ?_; (try dsimp only at *); (try simp only [resTy, argTy, eqD, inR, big, wantOf, Bool.not_true, Bool.not_false, Bool.true_eq, decide_eq_true_eq, decide_eq_false_iff_not, Bool.not_eq_true', Bool.not_eq_false', Bool.and_eq_true, Prod.mk.injEq, and_true, true_and, Int.not_lt, Int.not_le, gt_iff_lt, ge_iff_le] at *); (try simp only [resTy, argTy, eqD, inR, big, wantOf, Bool.not_true, Bool.not_false, Bool.true_eq, decide_eq_true_eq, decide_eq_false_iff_not, Bool.not_eq_true', Bool.not_eq_false', Bool.and_eq_true, Prod.mk.injEq, and_true, true_and, Int.not_lt, Int.not_le, gt_iff_lt, ge_iff_le, h, hfi, u, v] at *))
        all_goals try omega
    · have hfi : firstI [opErr L ts s, cfE p w n] = opErr L ts s := by simp [firstI, ho]
      have u : uwE xs L ts s p w n = opErr L ts s := by unfold uwE; rw [if_pos h, if_neg ho]
      have v : uwR xs L ts s p w n = [] := by unfold uwR; rw [if_pos h, if_neg ho]
      repeat' (intro hzz; (try (rename Two => hq; cases hq)); (try dsimp only at hzz); (try simp only [resTy, argTy, eqD, inR, big, wantOf, Bool.not_true, Bool.not_false, Bool.true_eq, decide_eq_true_eq, decide_eq_false_iff_not, Bool.not_eq_true', Bool.not_eq_false', Bool.and_eq_true, Prod.mk.injEq, and_true, true_and, Int.not_lt, Int.not_le, gt_iff_lt, ge_iff_le] at hzz); (try simp only [resTy, argTy, eqD, inR, big, wantOf, Bool.not_true, Bool.not_false, Bool.true_eq, decide_eq_true_eq, decide_eq_false_iff_not, Bool.not_eq_true', Bool.not_eq_false', Bool.and_eq_true, Prod.mk.injEq, and_true, true_and, Int.not_lt, Int.not_le, gt_iff_lt, ge_iff_le, h, hfi, u, v] at hzz); (try (first | contradiction | (exfalso; omega))); (try (revert hzz; intro _)))
      all_goals try (rename Unit => hq; clear hq)
      all_goals try ((with_reducible refine Held.mk ?_); (with_reducible (first | refine Frz.mk ?_ | refine And.intro (Frz.mk ?_) ?_ | refine And.intro ?_ (Frz.mk ?_))); repeat' first | exact True.intro | (change _ = _; with_reducible rfl) | refine And.intro ?_ ?_ | (with_reducible refine Frz.mk ?_))
      all_goals try (refine Held.mk ?_; (try dsimp only at *); (try simp only [resTy, argTy, eqD, inR, big, wantOf, Bool.not_true, Bool.not_false, Bool.true_eq, decide_eq_true_eq, decide_eq_false_iff_not, Bool.not_eq_true', Bool.not_eq_false', Bool.and_eq_true, Prod.mk.injEq, and_true, true_and, Int.not_lt, Int.not_le, gt_iff_lt, ge_iff_le] at *); (try simp only [resTy, argTy, eqD, inR, big, wantOf, Bool.not_true, Bool.not_false, Bool.true_eq, decide_eq_true_eq, decide_eq_false_iff_not, Bool.not_eq_true', Bool.not_eq_false', Bool.and_eq_true, Prod.mk.injEq, and_true, true_and, Int.not_lt, Int.not_le, gt_iff_lt, ge_iff_le, h, hfi, u, v] at *))
      all_goals try omega
  · have u : uwE xs L ts s p w n = lE xs := by unfold uwE; rw [if_neg h]
    have v : uwR xs L ts s p w n = [] := by unfold uwR; rw [if_neg h]
    repeat' (intro hzz; (try (rename Two => hq; cases hq)); (try dsimp only at hzz); (try simp only [resTy, argTy, eqD, inR, big, wantOf, Bool.not_true, Bool.not_false, Bool.true_eq, decide_eq_true_eq, decide_eq_false_iff_not, Bool.not_eq_true', Bool.not_eq_false', Bool.and_eq_true, Prod.mk.injEq, and_true, true_and, Int.not_lt, Int.not_le, gt_iff_lt, ge_iff_le] at hzz); (try simp only [resTy, argTy, eqD, inR, big, wantOf, Bool.not_true, Bool.not_false, Bool.true_eq, decide_eq_true_eq, decide_eq_false_iff_not, Bool.not_eq_true', Bool.not_eq_false', Bool.and_eq_true, Prod.mk.injEq, and_true, true_and, Int.not_lt, Int.not_le, gt_iff_lt, ge_iff_le, u, v] at hzz); (try (first | contradiction | (exfalso; omega))); (try (revert hzz; intro _)))
    all_goals try (rename Unit => hq; clear hq)
    all_goals try ((with_reducible refine Held.mk ?_); (with_reducible (first | refine Frz.mk ?_ | refine And.intro (Frz.mk ?_) ?_ | refine And.intro ?_ (Frz.mk ?_))); repeat' first | exact True.intro | (change _ = _; with_reducible rfl) | refine And.intro ?_ ?_ | (with_reducible refine Frz.mk ?_))
    all_goals try (refine Held.mk ?_; (try dsimp only at *); (try simp only [resTy, argTy, eqD, inR, big, wantOf, Bool.not_true, Bool.not_false, Bool.true_eq, decide_eq_true_eq, decide_eq_false_iff_not, Bool.not_eq_true', Bool.not_eq_false', Bool.and_eq_true, Prod.mk.injEq, and_true, true_and, Int.not_lt, Int.not_le, gt_iff_lt, ge_iff_le] at *); (try simp only [resTy, argTy, eqD, inR, big, wantOf, Bool.not_true, Bool.not_false, Bool.true_eq, decide_eq_true_eq, decide_eq_false_iff_not, Bool.not_eq_true', Bool.not_eq_false', Bool.and_eq_true, Prod.mk.injEq, and_true, true_and, Int.not_lt, Int.not_le, gt_iff_lt, ge_iff_le, u, v] at *))
    all_goals try omega

end Go.Eng.Pu
