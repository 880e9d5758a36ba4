/- Contracts: the next state of a register; the period and the states are walked by their iterator. Conditions: each contract's own. -/
import Derived.Test.YtnficfhnfpbhkaaGreatDoorQ4
import Derived.KernelRfl
namespace Go.Eng.Pu
open Go.Eng Go.Proofs
set_option linter.all false
set_option maxRecDepth 100000
set_option maxHeartbeats 8000000

theorem and1 {n : Int} (h0 : 0 ≤ n) (h1 : n < 256) : bits .and .i64 n 1 = n % 2 := by
  have all : (List.range 256).all (fun n => decide (bits .and .i64 (n : Int) 1 = (n : Int) % 2)) = true := by decide +kernel
  rw [List.all_eq_true] at all
  have := all n.toNat (List.mem_range.2 (by omega))
  rw [decide_eq_true_eq, Int.toNat_of_nonneg h0] at this
  exact this

theorem xor01 {m n : Int} (h0 : 0 ≤ m ∧ m < 2) (h1 : 0 ≤ n ∧ n < 2) : bits .xor .i64 m n = (m + n) % 2 := by
  have hm : m = 0 ∨ m = 1 := by omega
  have hn : n = 0 ∨ n = 1 := by omega
  rcases hm with rfl | rfl <;> rcases hn with rfl | rfl <;> decide +kernel

theorem or_add {a b : Int} {k : Nat} (hk : k < 8) (h0 : 0 ≤ a) (h1 : a < 2 ^ k) (h2 : b = 0 ∨ b = 1) : bits .or .i64 a (b * 2 ^ k) = a + b * 2 ^ k := by
  have all : (List.range 8).all (fun k => (List.range (2 ^ k)).all fun a => decide (bits .or .i64 (a : Int) (0 * 2 ^ k) = (a : Int) + 0 * 2 ^ k) && decide (bits .or .i64 (a : Int) (1 * 2 ^ k) = (a : Int) + 1 * 2 ^ k)) = true := by decide +kernel
  rw [List.all_eq_true] at all
  have h3 := all k (List.mem_range.2 hk)
  rw [List.all_eq_true] at h3
  have ha : ((a.toNat : Nat) : Int) = a := Int.toNat_of_nonneg h0
  have hlt : a.toNat < 2 ^ k := by
    have : ((a.toNat : Nat) : Int) < ((2 ^ k : Nat) : Int) := by rw [ha]; exact_mod_cast h1
    exact_mod_cast this
  have h4 := h3 a.toNat (List.mem_range.2 hlt)
  rw [Bool.and_eq_true, decide_eq_true_eq, decide_eq_true_eq, ha] at h4
  rcases h2 with rfl | rfl
  · exact h4.1
  · exact h4.2

theorem shr_div {s n : Int} (h0 : 0 ≤ n) (h1 : n ≤ 60) : shrN .i64 s n = s / 2 ^ n.toNat := by
  unfold shrN
  rw [show min n.toNat IntKind.i64.bits = n.toNat from Nat.min_eq_left (by show n.toNat ≤ 64; omega)]
  exact Int.fdiv_eq_ediv_of_nonneg _ (Int.pow_nonneg (by omega))

theorem shl_mul {s n : Int} (h0 : 0 ≤ n) (h1 : n ≤ 60) : shlN .i64 s n = s * 2 ^ n.toNat := by
  unfold shlN
  rw [show min n.toNat IntKind.i64.bits = n.toNat from Nat.min_eq_left (by show n.toNat ≤ 64; omega)]

/-- The bit of a state that a tap reads. -/
def tapBit (L s t : Int) : Int := s / 2 ^ (L - t).toNat % 2

def parK (L : Int) (xs : List Int) (s : Int) : Nat → Int
  | 0 => 0
  | k + 1 => (parK L xs s k + tapBit L s (xs.getD k 0)) % 2

/-- The next state. -/
def nxt (L : Int) (xs : List Int) (s : Int) : Int := s / 2 + parK L xs s xs.length * 2 ^ (L - 1).toNat

theorem parK_01 (L : Int) (xs : List Int) (s : Int) : ∀ k, 0 ≤ parK L xs s k ∧ parK L xs s k < 2
  | 0 => by simp [parK]
  | k + 1 => by simp only [parK]; omega

theorem pow_half {L : Int} (h : 2 ≤ L ∧ L ≤ 8) : P2 L = 2 * 2 ^ (L - 1).toNat := by
  rcases lens h with rfl | rfl | rfl | rfl | rfl | rfl | rfl <;> decide

theorem nxt_in {L : Int} {xs : List Int} {s : Int} (h : 2 ≤ L ∧ L ≤ 8) (h0 : 0 ≤ s) (h1 : s < P2 L) : 0 ≤ nxt L xs s ∧ nxt L xs s < P2 L := by
  have e := pow_half h
  have hp : (0 : Int) < 2 ^ (L - 1).toNat := Int.pow_pos (by omega)
  rcases (show parK L xs s xs.length = 0 ∨ parK L xs s xs.length = 1 from by have := parK_01 L xs s xs.length; omega) with hb | hb <;> (rw [nxt, hb]; omega)

/-- Right registers with a state. -/
def pSt (L : Int) (xs : List Int) (s : Int) : Prop := chk L xs = 0 ∧ pLen xs.length ∧ 0 ≤ s ∧ s < P2 L

@[reducible] def sNext : Spec := { pats := [.dat Reg, .dat I64], res := [{ t := I64 }], pre := fun x => pSt x.1.1.1 x.1.1.2.1 x.2.1, f := fun x => (nxt x.1.1.1 x.1.1.2.1 x.2.1, ()) }

/-- register.next -/
theorem h146 : Ok 86 sNext := by
  refine mk (ctr := []) trivial (nt := 36) Tryz.func86 rfl rfl rfl rfl (by kernel_rfl) (by kernel_rfl) (fun x => [fun _ => { σ := Nat, pat := fun k => [sI 12 k, sI 5 (parK x.1.1.1 x.1.1.2.1 x.2.1 k)], inv := fun k => k ≤ List.length (α := Int) x.1.1.2.1, meas := fun k => List.length (α := Int) x.1.1.2.1 - k }]) ?_
  rintro ⟨⟨⟨(L : Int), (xs : List Int), _⟩, _⟩, (s : Int), _⟩ (hp : pSt L xs s)
  obtain ⟨hc, hl, hs0, hs1⟩ := hp
  obtain ⟨hL, hlen, hz, hlast⟩ := chk_zero hc
  have hz := regE_zero hz
  have := hl.out
  have hP := P2_in hL
  repeat' (intro hzz; (try (rename Two => hq; cases hq)); (try dsimp only at hzz); (try simp only [resTy, argTy, eqD, inR, big, wantOf, Bool.not_true, Bool.not_false, Bool.true_eq, decide_eq_true_eq, decide_eq_false_iff_not, Bool.not_eq_true', Bool.not_eq_false', Bool.and_eq_true, Prod.mk.injEq, and_true, true_and, Int.not_lt, Int.not_le, gt_iff_lt, ge_iff_le] at hzz); (try simp only [resTy, argTy, eqD, inR, big, wantOf, Bool.not_true, Bool.not_false, Bool.true_eq, decide_eq_true_eq, decide_eq_false_iff_not, Bool.not_eq_true', Bool.not_eq_false', Bool.and_eq_true, Prod.mk.injEq, and_true, true_and, Int.not_lt, Int.not_le, gt_iff_lt, ge_iff_le, getD_i] at hzz); (try (first | contradiction | (exfalso; omega))); (try (revert hzz; intro _)))
  all_goals try (rename Unit => hq; clear hq)
  all_goals try ((with_reducible refine Held.mk ?_); (with_reducible (first | refine Frz.mk ?_ | refine And.intro (Frz.mk ?_) ?_ | refine And.intro ?_ (Frz.mk ?_))); repeat' first | exact True.intro | (change _ = _; with_reducible rfl) | refine And.intro ?_ ?_ | (with_reducible refine Frz.mk ?_))
  all_goals try (refine Held.mk ?_; (try dsimp only at *); (try simp only [resTy, argTy, eqD, inR, big, wantOf, Bool.not_true, Bool.not_false, Bool.true_eq, decide_eq_true_eq, decide_eq_false_iff_not, Bool.not_eq_true', Bool.not_eq_false', Bool.and_eq_true, Prod.mk.injEq, and_true, true_and, Int.not_lt, Int.not_le, gt_iff_lt, ge_iff_le] at *); (try simp only [resTy, argTy, eqD, inR, big, wantOf, Bool.not_true, Bool.not_false, Bool.true_eq, decide_eq_true_eq, decide_eq_false_iff_not, Bool.not_eq_true', Bool.not_eq_false', Bool.and_eq_true, Prod.mk.injEq, and_true, true_and, Int.not_lt, Int.not_le, gt_iff_lt, ge_iff_le, getD_i] at *))
  all_goals try omega
  · 
    refine GHeld.mk ?_
    refine Exists.intro 0 ?_
    refine And.intro (Leaf.mk ?_) ?_
    · repeat' first | exact True.intro | refine And.intro ?_ ?_
      all_goals try ((change _ = _ <;> try dsimp only) <;> try with_reducible rfl)
      all_goals try omega
      all_goals (rfl)
    exact Nat.zero_le _
  · rename_i k hk hg
    have := hz k (by omega) (by omega)
    omega
  · rename_i k hk hg
    have := hz k (by omega) (by omega)
    omega
  · rename_i k hk hg
    have ht := hz k (by omega) (by omega)
    have key : bits .xor .i64 (parK L xs s k) (bits .and .i64 (shrN .i64 s (L - xs.getD k 0)) 1) = parK L xs s (k + 1) := by
      rw [shr_div (by omega) (by omega)]
      have hd0 : 0 ≤ s / 2 ^ (L - xs.getD k 0).toNat := Int.ediv_nonneg hs0 (Int.pow_nonneg (by omega))
      have hd1 : s / 2 ^ (L - xs.getD k 0).toNat ≤ s := Int.ediv_le_self _ hs0
      rw [and1 hd0 (by omega), xor01 (parK_01 L xs s k) (by omega)]
      rfl
    refine GHeld.mk ?_
    refine Exists.intro (k + 1) ?_
    refine And.intro (Leaf.mk ?_) ?_
    · repeat' first | exact True.intro | refine And.intro ?_ ?_
      all_goals try ((change _ = _ <;> try dsimp only) <;> try with_reducible rfl)
      all_goals try omega
      all_goals (exact key)
    exact ⟨by show k + 1 ≤ xs.length; omega, by show xs.length - (k + 1) < xs.length - k; omega⟩
  · rename_i k hk hg
    have hb := parK_01 L xs s k
    have e := pow_half hL
    have hp : (0 : Int) < 2 ^ (L - 1).toNat := Int.pow_pos (by omega)
    rw [shl_mul (by omega) (by omega)]
    rcases (show parK L xs s k = 0 ∨ parK L xs s k = 1 from by omega) with hb | hb <;> (rw [hb]; omega)
  · rename_i k hk hg
    have hkl : k = xs.length := by omega
    subst hkl
    have hb := parK_01 L xs s xs.length
    have e := pow_half hL
    have hp : (0 : Int) < 2 ^ (L - 1).toNat := Int.pow_pos (by omega)
    show bits .or .i64 (shrN .i64 s 1) (shlN .i64 (parK L xs s xs.length) (L - 1)) = nxt L xs s
    rw [shl_mul (by omega) (by omega), shr_div (by omega) (by omega)]
    rw [show (2 : Int) ^ (1 : Int).toNat = 2 from rfl]
    exact or_add (by omega) (by omega) (by omega) (by omega)

end Go.Eng.Pu
