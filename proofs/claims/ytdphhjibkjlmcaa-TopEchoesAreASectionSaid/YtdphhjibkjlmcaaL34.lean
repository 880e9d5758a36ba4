/- The contract of search.halve: the arcs that are kept, and those that are open. Conditions: a right loop, a right arc. -/
import Derived.Test.YtdphhjibkjlmcaaP7
import Derived.Test.YtdphhjibkjlmcaaL27
namespace Go.Eng.Lp
open Go.Eng Go.Proofs
set_option linter.all false
set_option maxRecDepth 100000
set_option maxHeartbeats 8000000

@[reducible] def hCs : List IC := [.dat (.sl I64), .dat I64, .ob 0, .own 41 ArcT, .own 41 ArcT]

@[reducible] def sHalve (n : Nat) : IoSpec := { cs := hCs, pats := [.dat ArcT], pre := fun x y => (1 ≤ n ∧ n ≤ 10 ∧ GoodLoop x.1 x.2.1 ∧ (0 ≤ y.1.1 ∧ y.1.1 ≤ y.1.2.1 ∧ y.1.2.1 ≤ 2048) ∧ y.1.2.1 - y.1.1 ≤ 2 ^ (n + 1) ∧ List.length (α := AA) x.2.2.1 + List.length (α := AA) x.2.2.2.1 + 2 ^ n ≤ 2048), out := fun x y => (x.1, x.2.1, (halveK x.1 x.2.1 n y.1.1 y.1.2.1 (x.2.2.1, x.2.2.2.1)).1, (halveK x.1 x.2.1 n y.1.1 y.1.2.1 (x.2.2.1, x.2.2.2.1)).2, ()) }

theorem halve0 : OkIo 56 (sHalve 0) := ⟨fun w M x y vs b cur el us os ws _ _ _ _ _ _ _ hp => absurd hp.1 (by omega), ⟨Try.f56, Try.func56, by kernel_rfl, by kernel_rfl⟩⟩

theorem halveS (n : Nat) (ih : OkIo 56 (sHalve n)) : OkIo 56 (sHalve (n + 1)) := by
  refine mkIo (X := { ios := [(56, sHalve n)] }) ⟨trivial, ⟨ih, trivial⟩, trivial⟩ (ctr := [(54, sArc), (65, sClear)]) ⟨h86, h31, trivial⟩ (nt := 62) Try.func56 rfl rfl rfl rfl rfl (by kernel_rfl) (by kernel_rfl) (fun _ _ => []) ?_
  rintro ⟨(T : List Int), (g : Int), (ks : List AA), (os : List AA), _⟩ ⟨⟨(a : Int), (b : Int), _⟩, _⟩ ⟨hn, hn9, (hT : GoodLoop T g), (hab : 0 ≤ a ∧ a ≤ b ∧ b ≤ 2048), (hlen : b - a ≤ 2 ^ (n + 1 + 1)), (hl : ks.length + os.length + 2 ^ (n + 1) ≤ 2048)⟩
  have hp : 0 < 2 ^ n := Nat.two_pow_pos n
  have he : (2 : Nat) ^ (n + 1) = 2 * 2 ^ n := by rw [Nat.pow_succ]; omega
  have hi : (2 : Int) ^ (n + 1 + 1) = 2 * 2 ^ (n + 1) := by rw [Int.pow_succ]; omega
  have htd : (a + b).tdiv 2 = (a + b) / 2 := Int.tdiv_eq_ediv_of_nonneg (by omega)
  have hn0 : 4 < b - a → 1 ≤ n := fun h => by
    by_cases h0 : n = 0
    · subst h0; simp at hlen; omega
    · omega
  have hk1 := halveK_len T g n a ((a + b) / 2) (ks, os)
  repeat' (intro hzz; (try (rename Two => hq; cases hq)); (try dsimp only at hzz); (try simp only [resTy, argTy, eqD, inR, big, wantOf, Bool.not_true, Bool.not_false, Bool.true_eq, decide_eq_true_eq, decide_eq_false_iff_not, Bool.not_eq_true', Bool.not_eq_false', Bool.and_eq_true, Prod.mk.injEq, and_true, true_and, Int.not_lt, Int.not_le, gt_iff_lt, ge_iff_le] at hzz); (try (revert hzz; intro _)))
  all_goals try (rename Unit => hq; clear hq)
  all_goals try ((with_reducible refine Held.mk ?_); (with_reducible (first | refine Frz.mk ?_ | refine And.intro (Frz.mk ?_) ?_ | refine And.intro ?_ (Frz.mk ?_))); repeat' first | exact True.intro | (change _ = _; with_reducible rfl) | refine And.intro ?_ ?_ | (with_reducible refine Frz.mk ?_))
  all_goals try (refine Held.mk ?_; (try dsimp only at *); (try simp only [resTy, argTy, eqD, inR, big, wantOf, Bool.not_true, Bool.not_false, Bool.true_eq, decide_eq_true_eq, decide_eq_false_iff_not, Bool.not_eq_true', Bool.not_eq_false', Bool.and_eq_true, Prod.mk.injEq, and_true, true_and, Int.not_lt, Int.not_le, gt_iff_lt, ge_iff_le] at *))
  all_goals try omega
  · exact ⟨hT, arcErr0 hab⟩
  · show (ks.length : Nat) + 1 ≤ 2147483648; omega
  · rename_i h
    have hc : clearA T g a b = true := h
    have e : halveK T g (n + 1) a b (ks, os) = (ks ++ [(a, b, ())], os) := by simp only [halveK]; rw [if_pos hc]
    exact ⟨rfl, rfl, (congrArg Prod.fst e).symm, (congrArg Prod.snd e).symm, trivial⟩
  · rename_i h
    have := hn0 h
    rw [htd]; exact ⟨this, by omega, hT, (show (0 : Int) ≤ a ∧ a ≤ (a + b) / 2 ∧ (a + b) / 2 ≤ 2048 by omega), (show (a + b) / 2 - a ≤ (2 : Int) ^ (n + 1) by omega), by omega⟩
  · rename_i h
    have := hn0 h
    rw [htd]
    exact ⟨this, by omega, hT, (show (0 : Int) ≤ (a + b) / 2 ∧ (a + b) / 2 ≤ b ∧ b ≤ 2048 by omega), (show b - (a + b) / 2 ≤ (2 : Int) ^ (n + 1) by omega), by omega⟩
  · rename_i h1 h2
    have hc : ¬ clearA T g a b = true := by intro h; have h1 : clearA T g a b = false := h1; rw [h1] at h; cases h
    have e : halveK T g (n + 1) a b (ks, os) = halveK T g n ((a + b) / 2) b (halveK T g n a ((a + b) / 2) (ks, os)) := by simp only [halveK]; rw [if_neg hc, if_pos h2]
    rw [htd]
    exact ⟨rfl, rfl, (congrArg Prod.fst e).symm, (congrArg Prod.snd e).symm, trivial⟩
  · show (os.length : Nat) + 1 ≤ 2147483648; omega
  · rename_i h1 h2
    have hc : ¬ clearA T g a b = true := by intro h; have h1 : clearA T g a b = false := h1; rw [h1] at h; cases h
    have e : halveK T g (n + 1) a b (ks, os) = (ks, os ++ [(a, b, ())]) := by simp only [halveK]; rw [if_neg hc, if_neg (by omega)]
    exact ⟨rfl, rfl, (congrArg Prod.fst e).symm, (congrArg Prod.snd e).symm, trivial⟩

theorem halveN : ∀ n, OkIo 56 (sHalve n)
  | 0 => halve0
  | n + 1 => halveS n (halveN n)

end Go.Eng.Lp
