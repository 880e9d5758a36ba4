/- The contracts of the reference's Decide, and of SameArcs. Conditions: right loops. -/
import Derived.Test.YtimkbccpbjabiaaL37
namespace Go.Eng.Lp
open Go.Eng Go.Proofs
set_option linter.all false
set_option maxRecDepth 100000
set_option maxHeartbeats 8000000

@[reducible] def sDecR : Spec := { pats := [.dat LoopT], res := [{ t := ProofT }], pre := fun x => GoodLoop x.1.1 x.1.2.1, f := fun x => (decK x.1.1 x.1.2.1, ()) }

def drJoin (os : List AA) : LoopAnn := { σ := Nat, pat := fun k => [sI 7 k, .slot 30 (.one .u), .slot 6 (.one (.o 30 (os.length + 2 + (joinK os k).length))), .row 30 35 ArcT ([(0, 0, ()), (2048, 2048, ())] ++ os ++ joinK os k)], inv := fun k => k + 1 ≤ os.length, meas := fun k => os.length - k }
def drTry (T : List Int) (g : Int) : LoopAnn := { σ := Nat, pat := fun k => [sI 8 k], inv := fun k => k ≤ (triesK (openI T g)).length ∧ ∀ j, j < k → fRings T g ((triesK (openI T g)).getD j (0, 0, ())).1 ((triesK (openI T g)).getD j (0, 0, ())).2.1 = false, meas := fun k => (triesK (openI T g)).length - k }

/-- ref.Decide -/
theorem h68 : Ok 68 sDecR := by
  refine mkX (X := { vas := [(107, sLook 10)] }) ⟨trivial, trivial, ⟨lookN 10, trivial⟩⟩ (ctr := [(20, sTable'), (64, sRingsR)]) ⟨h20', h64, trivial⟩ (nt := 89) Try.func68 rfl rfl rfl rfl (by kernel_rfl) (by kernel_rfl) (fun x => [fun _ => drJoin (openI x.1.1 x.1.2.1), fun _ => drTry x.1.1 x.1.2.1]) ?_
  rintro ⟨⟨(T : List Int), (g : Int), _⟩, _⟩ (hT : GoodLoop T g)
  have hk := halve_all T g
  have hf := kept_few T g
  have ho := open_ok T g
  have hj := fun k => joinK_len (openI T g) k
  have ht : ∀ k : Nat, k + 1 ≤ (openI T g).length → ((openI T g).length : Int) ≤ k + 1 → [(0, 0, ()), (2048, 2048, ())] ++ openI T g ++ joinK (openI T g) k = triesK (openI T g) := fun k h1 h2 => by
    have e : (openI T g).length = k + 1 := by omega
    have e2 : joinK (openI T g) (k + 1) = joinK (openI T g) k := by
      simp only [joinK]; rw [if_neg (fun h => by omega)]; exact List.append_nil _
    simp only [triesK]; rw [e, e2]
  have hl : ∀ k : Nat, k + 1 ≤ (openI T g).length → ((openI T g).length : Int) ≤ k + 1 → (openI T g).length + 2 + (joinK (openI T g) k).length = (triesK (openI T g)).length := fun k h1 h2 => by
    rw [← ht k h1 h2]; simp only [List.length_append, List.length_cons, List.length_nil]; omega
  have hL := (triesK_len (os := openI T g) (by omega)).2
  have tk : ∀ k, k < (triesK (openI T g)).length → okA ((triesK (openI T g)).getD k (0, 0, ())) := fun k h => by
    refine triesK_ok ho _ ?_
    rw [List.getD_eq_getElem?_getD, List.getElem?_eq_getElem h]; exact List.getElem_mem h
  repeat' (intro hzz; (try (rename Two => hq; cases hq)); (try dsimp only at hzz); (try simp only [resTy, argTy, eqD, inR, big, wantOf, Bool.not_true, Bool.not_false, Bool.true_eq, decide_eq_true_eq, decide_eq_false_iff_not, Bool.not_eq_true', Bool.not_eq_false', Bool.and_eq_true, Prod.mk.injEq, and_true, true_and, Int.not_lt, Int.not_le, gt_iff_lt, ge_iff_le] at hzz); (try simp only [resTy, argTy, eqD, inR, big, wantOf, Bool.not_true, Bool.not_false, Bool.true_eq, decide_eq_true_eq, decide_eq_false_iff_not, Bool.not_eq_true', Bool.not_eq_false', Bool.and_eq_true, Prod.mk.injEq, and_true, true_and, Int.not_lt, Int.not_le, gt_iff_lt, ge_iff_le, hk] at hzz); (try (revert hzz; intro _)))
  all_goals try (rename Unit => hq; clear hq)
  all_goals try ((with_reducible refine Held.mk ?_); (with_reducible (first | refine Frz.mk ?_ | refine And.intro (Frz.mk ?_) ?_ | refine And.intro ?_ (Frz.mk ?_))); repeat' first | exact True.intro | (change _ = _; with_reducible rfl) | refine And.intro ?_ ?_ | (with_reducible refine Frz.mk ?_))
  all_goals try (refine Held.mk ?_; (try dsimp only at *); (try simp only [resTy, argTy, eqD, inR, big, wantOf, Bool.not_true, Bool.not_false, Bool.true_eq, decide_eq_true_eq, decide_eq_false_iff_not, Bool.not_eq_true', Bool.not_eq_false', Bool.and_eq_true, Prod.mk.injEq, and_true, true_and, Int.not_lt, Int.not_le, gt_iff_lt, ge_iff_le] at *); (try simp only [resTy, argTy, eqD, inR, big, wantOf, Bool.not_true, Bool.not_false, Bool.true_eq, decide_eq_true_eq, decide_eq_false_iff_not, Bool.not_eq_true', Bool.not_eq_false', Bool.and_eq_true, Prod.mk.injEq, and_true, true_and, Int.not_lt, Int.not_le, gt_iff_lt, ge_iff_le, hk] at *))
  all_goals try omega
  · exact ⟨by decide, by decide, hT, ⟨by decide, by decide, by decide⟩, by decide, by decide⟩
  · rename_i h
    have h0 : openI T g = [] := List.eq_nil_of_length_eq_zero (by omega)
    have hK : decK T g = (2, keptI T g, (0, 0, ()), ()) := by simp only [decK]; rw [if_pos h0]
    rw [hK]; exact ⟨rfl, rfl, rfl, rfl⟩
  · simp only [List.length_cons, List.length_nil]; omega
  · rename_i h0
    refine GHeld.mk ?_
    refine Exists.intro (0 : Nat) ?_
    refine And.intro (Leaf.mk ?_) ?_
    · repeat' first | exact True.intro | refine And.intro ?_ ?_
      all_goals try ((change _ = _ <;> try dsimp only) <;> try with_reducible rfl)
      all_goals try omega
      all_goals ((simp only [hk, joinK, List.length_nil, List.length_cons, List.append_nil] <;> first | rfl | omega))
    show 0 + 1 ≤ (openI T g).length
    omega
  · rename_i k _ _ _
    have := hj k
    simp only [List.length_append, List.length_cons, List.length_nil]; omega
  · rename_i h0 k h2 h3 h4
    have h4 : ((openI T g).getD k (0, 0, ())).2.1 = ((openI T g).getD (k + 1) (0, 0, ())).1 := h4
    have e : joinK (openI T g) (k + 1) = joinK (openI T g) k ++ [(((openI T g).getD k (0, 0, ())).1, ((openI T g).getD (k + 1) (0, 0, ())).2.1, ())] := by
      simp only [joinK]; rw [if_pos ⟨by omega, h4⟩]
    have el : (joinK (openI T g) (k + 1)).length = (joinK (openI T g) k).length + 1 := by rw [e]; simp
    refine GHeld.mk ?_
    refine Exists.intro (k + 1) ?_
    refine And.intro (Leaf.mk ?_) ?_
    · repeat' first | exact True.intro | refine And.intro ?_ ?_
      all_goals try ((change _ = _ <;> try dsimp only) <;> try with_reducible rfl)
      all_goals try omega
      all_goals (first | (simp only [hk]; rw [e, ← List.append_assoc]; rfl) | (rw [el]; simp only [List.length_append, List.length_cons, List.length_nil]; omega))
    exact ⟨(show k + 1 + 1 ≤ (openI T g).length by omega), (show (openI T g).length - (k + 1) < (openI T g).length - k by omega)⟩
  · rename_i h0 k h2 h3 h4
    have h4 : ¬ ((openI T g).getD k (0, 0, ())).2.1 = ((openI T g).getD (k + 1) (0, 0, ())).1 := h4
    have e : joinK (openI T g) (k + 1) = joinK (openI T g) k := by
      simp only [joinK]; rw [if_neg (fun h => h4 h.2)]; exact List.append_nil _
    refine GHeld.mk ?_
    refine Exists.intro (k + 1) ?_
    refine And.intro (Leaf.mk ?_) ?_
    · repeat' first | exact True.intro | refine And.intro ?_ ?_
      all_goals try ((change _ = _ <;> try dsimp only) <;> try with_reducible rfl)
      all_goals try omega
      all_goals (first | (rw [e]; done) | (rw [e]; omega))
    exact ⟨(show k + 1 + 1 ≤ (openI T g).length by omega), (show (openI T g).length - (k + 1) < (openI T g).length - k by omega)⟩
  · rename_i h0 k h2 h3
    refine GHeld.mk ?_
    refine Exists.intro (0 : Nat) ?_
    refine And.intro (Leaf.mk ?_) ?_
    · repeat' first | exact True.intro | refine And.intro ?_ ?_
      all_goals try ((change _ = _ <;> try dsimp only) <;> try with_reducible rfl)
      all_goals try omega
      all_goals (rfl)
    exact ⟨Nat.zero_le _, fun j hj => absurd hj (Nat.not_lt_zero j)⟩
  · rename_i h0 k h2 h3 i h4 h5
    rw [hl k h2 h3] at h5
    rw [ht k h2 h3]; omega
  · rename_i h0 k h2 h3 i h4 h5
    rw [hl k h2 h3] at h5
    rw [ht k h2 h3]
    exact ⟨hT, arcErr0 (tk i (by omega))⟩
  · rename_i h0 k h2 h3 i h4 h5 h6
    rw [hl k h2 h3] at h5
    rw [ht k h2 h3]; omega
  · rename_i h0 k h2 h3 i h4 h5 h6
    rw [hl k h2 h3] at h5
    rw [ht k h2 h3] at h6 ⊢
    have hn : openI T g ≠ [] := fun h => h0 (by rw [h]; rfl)
    have hK : decK T g = (0, [], (triesK (openI T g)).getD i (0, 0, ()), ()) := by simp only [decK]; rw [if_neg hn, ringK_at _ i (by omega) h4.2 h6]
    rw [hK]; exact ⟨rfl, rfl, rfl, rfl⟩
  · rename_i h0 k h2 h3 i h4 h5 h6
    rw [hl k h2 h3] at h5
    rw [ht k h2 h3] at h6
    refine GHeld.mk ?_
    refine Exists.intro (i + 1) ?_
    refine And.intro (Leaf.mk ?_) ?_
    · repeat' first | exact True.intro | refine And.intro ?_ ?_
      all_goals try ((change _ = _ <;> try dsimp only) <;> try with_reducible rfl)
      all_goals try omega
      all_goals (rfl)
    refine ⟨⟨(show i + 1 ≤ (triesK (openI T g)).length by omega), fun j hj => ?_⟩, (show (triesK (openI T g)).length - (i + 1) < (triesK (openI T g)).length - i by omega)⟩
    by_cases e : j = i
    · subst e; exact h6
    · exact h4.2 j (by omega)
  · rename_i h0 k h2 h3 i h4 h5
    rw [hl k h2 h3] at h5
    have hi : i = (triesK (openI T g)).length := by omega
    subst hi
    have hn : openI T g ≠ [] := fun h => h0 (by rw [h]; rfl)
    have hK : decK T g = (1, [], (0, 0, ()), ()) := by simp only [decK]; rw [if_neg hn, ringK_none _ h4.2]
    rw [hK]; exact ⟨rfl, rfl, rfl, rfl⟩

@[reducible] def sSame : Spec := { pats := [.dat (.sl ArcT), .dat (.sl ArcT)], res := [{ t := .bool }], pre := fun x => pCopy (List.length (α := AA) x.1), f := fun x => (decide ((x.1 : List AA) = x.2.1), ()) }
/-- ref.SameArcs -/
theorem h69 : Ok 69 sSame := by
  refine mk (ctr := []) trivial (nt := 26) Try.func69 rfl rfl rfl rfl (by kernel_rfl) (by kernel_rfl) (fun x => [fun _ => { σ := Nat, pat := fun k => [sI 5 k], inv := fun k => k ≤ List.length (α := AA) x.1 ∧ (List.take (α := AA) k x.1 = List.take (α := AA) k x.2.1), meas := fun k => List.length (α := AA) x.1 - k }]) ?_
  rintro ⟨(xs : List AA), (ys : List AA), _⟩ (hn : xs.length ≤ 1000000)
  repeat' (intro hzz; (try (rename Two => hq; cases hq)); (try dsimp only at hzz); (try simp only [resTy, argTy, eqD, inR, big, wantOf, Bool.not_true, Bool.not_false, Bool.true_eq, decide_eq_true_eq, decide_eq_false_iff_not, Bool.not_eq_true', Bool.not_eq_false', Bool.and_eq_true, Prod.mk.injEq, and_true, true_and, Int.not_lt, Int.not_le, gt_iff_lt, ge_iff_le] at hzz); (try (revert hzz; intro _)))
  all_goals try (rename Unit => hq; clear hq)
  all_goals try ((with_reducible refine Held.mk ?_); (with_reducible (first | refine Frz.mk ?_ | refine And.intro (Frz.mk ?_) ?_ | refine And.intro ?_ (Frz.mk ?_))); repeat' first | exact True.intro | (change _ = _; with_reducible rfl) | refine And.intro ?_ ?_ | (with_reducible refine Frz.mk ?_))
  all_goals try (refine Held.mk ?_; (try dsimp only at *); (try simp only [resTy, argTy, eqD, inR, big, wantOf, Bool.not_true, Bool.not_false, Bool.true_eq, decide_eq_true_eq, decide_eq_false_iff_not, Bool.not_eq_true', Bool.not_eq_false', Bool.and_eq_true, Prod.mk.injEq, and_true, true_and, Int.not_lt, Int.not_le, gt_iff_lt, ge_iff_le] at *))
  all_goals try omega
  · rename_i h
    exact (decide_eq_false (fun e => h (by rw [e]))).symm
  ·
    refine GHeld.mk ?_
    refine Exists.intro (0 : Nat) ?_
    refine And.intro (Leaf.mk ?_) ?_
    · repeat' first | exact True.intro | refine And.intro ?_ ?_
      all_goals try ((change _ = _ <;> try dsimp only) <;> try with_reducible rfl)
      all_goals try omega
      all_goals (rfl)
    exact ⟨Nat.zero_le _, rfl⟩
  · rename_i h0 k h1 h2 h3
    refine (decide_eq_false (fun e => ?_)).symm
    rw [e] at h3
    have : ∀ x : AA, Ty.beq ArcT x x = true := fun x => by simp [Ty.beq]
    rw [this] at h3; cases h3
  · rename_i h0 k h1 h2 h3
    refine GHeld.mk ?_
    refine Exists.intro (k + 1) ?_
    refine And.intro (Leaf.mk ?_) ?_
    · repeat' first | exact True.intro | refine And.intro ?_ ?_
      all_goals try ((change _ = _ <;> try dsimp only) <;> try with_reducible rfl)
      all_goals try omega
      all_goals (rfl)
    have hb : ∀ x y : AA, Ty.beq ArcT x y = true → x = y := fun ⟨a, b, _⟩ ⟨c, d, _⟩ h => by
      simp [Ty.beq] at h
      rw [h.1, h.2]
    have e := hb _ _ h3
    have hx : k < xs.length := by omega
    have hy : k < ys.length := by omega
    refine ⟨⟨hx, ?_⟩, (show xs.length - (k + 1) < xs.length - k by omega)⟩
    have e : xs[k] = ys[k] := by
      have e : xs.getD k (0, 0, ()) = ys.getD k (0, 0, ()) := e
      rwa [List.getD_eq_getElem?_getD, List.getD_eq_getElem?_getD, List.getElem?_eq_getElem hx, List.getElem?_eq_getElem hy] at e
    show List.take (k + 1) xs = List.take (k + 1) ys
    rw [List.take_succ_eq_append_getElem hx, List.take_succ_eq_append_getElem hy, h1.2, e]
  · rename_i h0 k h1 h2
    have h3 := h1.2
    rw [List.take_of_length_le (by omega), List.take_of_length_le (by omega)] at h3
    exact h3

end Go.Eng.Lp
