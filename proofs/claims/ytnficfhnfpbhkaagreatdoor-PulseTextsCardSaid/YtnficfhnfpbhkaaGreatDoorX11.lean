/- pulse.ParseRegister. Conditions: the library's variables hold what they hold. -/
import Derived.Test.YtnficfhnfpbhkaaGreatDoorX10
namespace Go.Eng.Pu
open Go.Eng Go.Proofs Go.Lib Go
set_option linter.all false
set_option maxRecDepth 100000
set_option maxHeartbeats 1000000

theorem rel_put {E : Env} {nt : Nat} {st : St} {a : Act} {w : World} (hR : RelS E nt st a w) {t : Nat} (v : Value) (ht : t < nt) (hds : ∀ u s, Fact.slot u s ∈ st → u ≠ t) : RelS E nt st (a.put (some t) v) w := by
  obtain ⟨η, g, H⟩ := hR
  refine ⟨η, re_act (E := E) (E' := E) (ds := [t]) rfl rfl rfl rfl rfl rfl g H (fun b c h => h) (by rw [size_put]; exact g.size) (fun u hu => ?_) (fun u s h hm => hds u s h (List.mem_singleton.1 hm)) (g.put (some t) v).defers g.nd⟩
  have hne : u ≠ t := fun e => hu (by rw [e]; exact List.mem_singleton_self t)
  have hs := g.size
  rw [getD_put (by omega), if_neg hne]

theorem vcQ0a (s : ByteArray) (b0 b1 : Bool) (pw : PowT.Den) : vc cfP (par cfP) [] q0 0 (stG s b0 b1 pw)
    (fun e st => match e with | .normal => Goal (∃ _ : Unit, ent st ([.slot 3 (.one (.p 3 0)), .cell 3 0 (.d I64 0), .slot 2 (.one (.p 2 0)), .cell 2 0 (.d I64 0), .cell 2 1 (.v (.slice none 0 0))] ++ stG s b0 b1 pw) ∧ True) | _ => False) := by
  repeat' (intro hzz; (try (rename Two => hq; cases hq)); (try dsimp only at hzz); (try simp only [resTy, argTy, eqD, inR, big, wantOf, Bool.not_true, Bool.not_false, Bool.true_eq, decide_eq_true_eq, decide_eq_false_iff_not, Bool.not_eq_true', Bool.not_eq_false', Bool.and_eq_true, Prod.mk.injEq, and_true, true_and, Int.not_lt, Int.not_le, gt_iff_lt, ge_iff_le] at hzz); (try (revert hzz; intro _)))
  all_goals try (rename Unit => hq; clear hq)
  all_goals try ((with_reducible refine Held.mk ?_); (with_reducible (first | refine Frz.mk ?_ | refine And.intro (Frz.mk ?_) ?_ | refine And.intro ?_ (Frz.mk ?_))); repeat' first | exact True.intro | (change _ = _; with_reducible rfl) | refine And.intro ?_ ?_ | (with_reducible refine Frz.mk ?_))
  all_goals try (refine Held.mk ?_; (try dsimp only at *); (try simp only [resTy, argTy, eqD, inR, big, wantOf, Bool.not_true, Bool.not_false, Bool.true_eq, decide_eq_true_eq, decide_eq_false_iff_not, Bool.not_eq_true', Bool.not_eq_false', Bool.and_eq_true, Prod.mk.injEq, and_true, true_and, Int.not_lt, Int.not_le, gt_iff_lt, ge_iff_le] at *))
  all_goals try omega
  ·
    refine GHeld.mk ?_
    refine Exists.intro () ?_
    refine And.intro (Leaf.mk ?_) ?_
    · repeat' first | exact True.intro | refine And.intro ?_ ?_
      all_goals try ((change _ = _ <;> try dsimp only) <;> try with_reducible rfl)
      all_goals try omega
      all_goals (rfl)
    trivial

theorem vcQ1 (s : ByteArray) (b0 b1 : Bool) (pw : PowT.Den) : vc cfP (par cfP) [] q1 0 ([.slot 3 (.one (.p 3 0)), .cell 3 0 (.d I64 0), .slot 2 (.one (.p 2 0)), .cell 2 0 (.d I64 0), .cell 2 1 (.v (.slice none 0 0))] ++ stG s b0 b1 pw)
    (fun e st => match e with | .normal => Goal (∃ _ : Unit, ent st (hdP s b0 b1 pw 0) ∧ True) | _ => False) := by
  repeat' (intro hzz; (try (rename Two => hq; cases hq)); (try dsimp only at hzz); (try simp only [resTy, argTy, eqD, inR, big, wantOf, Bool.not_true, Bool.not_false, Bool.true_eq, decide_eq_true_eq, decide_eq_false_iff_not, Bool.not_eq_true', Bool.not_eq_false', Bool.and_eq_true, Prod.mk.injEq, and_true, true_and, Int.not_lt, Int.not_le, gt_iff_lt, ge_iff_le] at hzz); (try (revert hzz; intro _)))
  all_goals try (rename Unit => hq; clear hq)
  all_goals try ((with_reducible refine Held.mk ?_); (with_reducible (first | refine Frz.mk ?_ | refine And.intro (Frz.mk ?_) ?_ | refine And.intro ?_ (Frz.mk ?_))); repeat' first | exact True.intro | (change _ = _; with_reducible rfl) | refine And.intro ?_ ?_ | (with_reducible refine Frz.mk ?_))
  all_goals try (refine Held.mk ?_; (try dsimp only at *); (try simp only [resTy, argTy, eqD, inR, big, wantOf, Bool.not_true, Bool.not_false, Bool.true_eq, decide_eq_true_eq, decide_eq_false_iff_not, Bool.not_eq_true', Bool.not_eq_false', Bool.and_eq_true, Prod.mk.injEq, and_true, true_and, Int.not_lt, Int.not_le, gt_iff_lt, ge_iff_le] at *))
  all_goals try omega
  ·
    refine GHeld.mk ?_
    refine Exists.intro () ?_
    refine And.intro (Leaf.mk ?_) ?_
    · repeat' first | exact True.intro | refine And.intro ?_ ?_
      all_goals try ((change _ = _ <;> try dsimp only) <;> try with_reducible rfl)
      all_goals try omega
      all_goals (rfl)
    trivial

theorem enters76 : Enters Tryz.prog 76 := ⟨Tryz.f76, Tryz.func76, by kernel_rfl, by kernel_rfl⟩
theorem cP_ok : CfgOk Tryz.prog OB cfP := cfgOk (X := {}) trivial cPx_ok

theorem hd_slots (s : ByteArray) (b0 b1 : Bool) (pw : PowT.Den) (k t : Nat) (v : SV) (h : Fact.slot t v ∈ hdP s b0 b1 pw k) : t ∉ (10 :: 11 :: dsP) := by
  have hd : (10 :: 11 :: dsP).all (fun t => !(memN t [4, 3, 2, 0, 1000000 + 1, 1000000 + 2, 1000000 + 3])) = true := by kernel_rfl
  intro ht
  have h1 := List.all_eq_true.1 hd t ht
  have h2 : memN t [4, 3, 2, 0, 1000000 + 1, 1000000 + 2, 1000000 + 3] = true := by
    refine memN_iff.2 ?_
    simp only [hdP, stR, stG, cOwn, List.mem_cons, List.mem_append, List.not_mem_nil, or_false, Fact.slot.injEq, reduceCtorEq, false_or] at h
    simp only [List.mem_cons, List.not_mem_nil, or_false]
    omega
  rw [h2] at h1; cases h1

/-- pulse.ParseRegister -/
theorem hParse : Ok 7 sParse := by
  refine ⟨fn_hand (c := cfP) cP_ok Tryz.func7 body7 rfl (by decide) (by decide) (by decide) rfl ?_, Tryz.f7, Tryz.func7, by kernel_rfl, by kernel_rfl⟩
  rintro ⟨(s : ByteArray), (b0 : Bool), (b1 : Bool), (pw : PowT.Den), _⟩ ⟨(hs : s.size ≤ 1000000), (hpw : pw = powD)⟩ M bs w0 a hd hR
  subst hpw
  have hR : RelS (EH M bs w0 true) 50 (stG s b0 b1 powD) a w0 := nd_on hR hd
  have ev : ∀ (a : Act) (t : Nat), a.eval (.tmp t) = a.tmps.getD t undef := fun a t => rfl
  have evf : ∀ (a : Act) (t : Nat), a.eval (.func t) = .func (.func t) #[] #[] := fun a t => rfl
  have evc : ∀ (a : Act) (v : Value), a.eval (.const v) = v := fun a v => rfl
  refine wpIn_seq (pieceH cPx_ok hR (by kernel_rfl) (by kernel_rfl) (vcQ0a s b0 b1 powD) fun a1 w1 hR1 => ?_)
  refine wpIn_seq (pieceH cPx_ok hR1 (by kernel_rfl) (by kernel_rfl) (vcQ1 s b0 b1 powD) fun a2 w2 hR2 => ?_)
  obtain ⟨hR2, hd2⟩ := nd_off hR2
  have h0 : a2.tmps.getD 0 undef = .string s := by
    obtain ⟨η, g, H⟩ := hR2
    have h := H (.slot 0 (.one (.d .str s))) (by simp)
    simp only [Fact.holds] at h
    rw [sval_lt (by decide)] at h
    exact v_str h
  have hsz2 : a2.tmps.size = 50 := by obtain ⟨η, g, _⟩ := hR2; exact g.size
  have hsl : ∀ t, t ∈ (10 :: 11 :: dsP) → ∀ u v, Fact.slot u v ∈ hdP s b0 b1 powD 0 → u ≠ t := fun t ht u v h e => hd_slots s b0 b1 powD 0 u v h (e ▸ ht)
  refine wpIn_seq (wpIn_seq (wpIn_region_list ?_))
  refine list_step rfl (op_val (v := .string s) (by intro d h; cases h) ?_ ?_)
  · simp [execOp, ev, h0]
  have hR3 := rel_put hR2 (t := 10) (.string s) (by decide) (hsl 10 List.mem_cons_self)
  have h10 : (a2.put (some 10) (.string s)).tmps.getD 10 undef = .string s := by rw [getD_put (by omega), if_pos rfl]
  obtain ⟨a3, ha3⟩ : ∃ a3, a3 = a2.put (some 10) (.string s) := ⟨_, rfl⟩
  have hd3 : a3.defers = [] := by rw [ha3]; exact hd2
  show wpListIn _ _ _ _ _ _ (a2.put (some 10) (.string s)) w2
  rw [← ha3] at hR3 h10 ⊢
  have hsz3 : a3.tmps.size = 50 := by obtain ⟨η, g, _⟩ := hR3; exact g.size
  refine list_step rfl (op_enter (f := 23) (args := #[.string s, .string (bA [32])]) (by intro d h; cases h) ?_ ?_)
  · obtain ⟨fn, e1, e2, e3⟩ : Enters Tryz.prog 23 := ⟨Tryz.f23, Tryz.func23, by kernel_rfl, by kernel_rfl⟩
    have e2' : ¬ fn.name = "runtime.NumGoroutine" := by simpa using e2
    have e3' : ¬ fn.body = none := by intro hn; rw [hn] at e3; cases e3
    simp [execOp, resolve, Deferred.ofValue, ev, evf, evc, h10, invoke, callFunc, e1, e2', e3', bA]
  refine (split_calls s (bA [32]) w2).mono ?_
  rintro e w3 ⟨rfl, hw3⟩
  refine ⟨_, rfl, list_nil ?_⟩
  obtain ⟨b, hb⟩ : ∃ b, b = w2.heap.size := ⟨_, rfl⟩
  rw [← hb]
  obtain ⟨cv, hcv⟩ : ∃ cv : List Value, cv = [.pointer (some ⟨b + 1, 0, none⟩), .pointer (some ⟨b, 0, none⟩), .pointer (some ⟨b + 2, 0, none⟩)] := ⟨_, rfl⟩
  obtain ⟨a4, ha4⟩ : ∃ a4, a4 = a3.put (some 11) (.func (.func 76) #[] cv.toArray) := ⟨_, rfl⟩
  have hR4 := rel_put hR3 (t := 11) (.func (.func 76) #[] cv.toArray) (by decide) (hsl 11 (List.mem_cons_of_mem _ List.mem_cons_self))
  have h11 : (a3.put (some 11) (.func (.func 76) #[] cv.toArray)).tmps.getD 11 undef = .func (.func 76) #[] cv.toArray := by rw [getD_put (by omega), if_pos rfl]
  rw [← ha4] at hR4 h11
  have hd4 : a4.defers = [] := by rw [ha4]; exact hd3
  have hpush : ∀ (w : World) (o : Obj), (w.alloc o).heap = w.heap.push o := fun w o => rfl
  have hh : w3.heap = ((w2.heap.push (.cells #[.string s] 9 (0, 0))).push (.cells #[.string (bA [32])] 9 (0, 0))).push (.cells #[.int .i64 0] 3 (0, 0)) := by rw [hw3]; rfl
  have p0 : w3.heap[b]? = some (.cells #[.string s] 9 (0, 0)) := by rw [hh, Array.getElem?_push, if_neg (by simp; omega), Array.getElem?_push, if_neg (by simp; omega), Array.getElem?_push, if_pos hb]
  have p1 : w3.heap[b + 1]? = some (.cells #[.string (bA [32])] 9 (0, 0)) := by rw [hh, Array.getElem?_push, if_neg (by simp; omega), Array.getElem?_push, if_pos (by simp; omega)]
  have p2 : w3.heap[b + 2]? = some (.cells #[.int .i64 0] 3 (0, 0)) := by rw [hh, Array.getElem?_push, if_pos (by simp; omega)]
  have hR5 : RelS (withP (EH M bs w0 false) (psOf b s)) 50 (hdP s b0 b1 powD 0) a4 w3 := by
    refine own_step (E := EH M bs w0 false) (E' := withP (EH M bs w0 false) (psOf b s)) rfl rfl rfl rfl rfl rfl hR4 hd4 (by rw [hw3]; rfl) (by rw [hw3]; rfl) (by rw [hw3]; rfl) (by rw [hh]; simp; omega) (fun b' hb' _ => ?_) (fun p hp => ?_)
    · rw [hh, Array.getElem?_push, if_neg (by simp; omega), Array.getElem?_push, if_neg (by simp; omega), Array.getElem?_push, if_neg (by omega)]
    · have hp : p ∈ psOf b s := by
        have : p ∈ psOf b s ++ [] := hp
        simpa using this
      simp only [psOf, List.mem_cons, List.not_mem_nil, or_false] at hp
      rcases hp with rfl | rfl | rfl
      · exact ⟨p0, .inr (by show w2.heap.size ≤ b; omega)⟩
      · exact ⟨p1, .inr (by show w2.heap.size ≤ b + 1; omega)⟩
      · exact ⟨p2, .inr (by show w2.heap.size ≤ b + 2; omega)⟩
  subst hcv
  change Code.wpIn (Fw none) 0 Tryz.prog _ _ (a3.put (some 11) _) w3
  rw [← ha4]
  refine wpIn_block (wpIn_mono (range_gen (E := EH M bs w0 false) (isp := ispS s) (x := ()) (cv := [.pointer (some ⟨b + 1, 0, none⟩), .pointer (some ⟨b, 0, none⟩), .pointer (some ⟨b + 2, 0, none⟩)]) (ps0 := psOf b s) (p := 12) (q := 12) (σ := Nat) (head := fun k => hdP s b0 b1 powD k) (inv := fun k => k ≤ (cutB 32 s).length ∧ allNum ((cutB 32 s).take k) = true) (meas := fun k => k)
    (B := fun k st1 => vc cfP (par cfP) [] q4 0 st1 fun e st' => match e with
        | .normal => Goal (∃ k' : Nat, ent st' (hdP s b0 b1 powD k') ∧ (k' ≤ (cutB 32 s).length ∧ allNum ((cutB 32 s).take k') = true) ∧ k' = k + 1)
        | e => KP s e (dropS dsP st')) (ds := dsP) (K := KP s) rfl (ihS s hs b) enters76 rfl rfl (by decide) List.mem_cons_self (by decide) List.mem_cons_self
      (fun t ht => List.mem_cons_of_mem _ (List.mem_cons_of_mem _ (List.mem_append.2 (.inl ht)))) (fun t ht => List.mem_cons_of_mem _ (List.mem_cons_of_mem _ (List.mem_append.2 (.inr ht))))
      h11 rfl ?_ ?_ 0 ⟨Nat.zero_le _, rfl⟩ rfl hR5 (fun h => by cases h) ?_ ?_ ?_) ?_)
  · intro q hq
    simp only [psOf, List.mem_cons, List.not_mem_nil, or_false] at hq
    rcases hq with rfl | rfl | rfl <;> (intro h; cases h)
  · intro k _ t v h hm
    exact hd_slots s b0 b1 powD k t v h (List.mem_cons_of_mem _ (List.mem_cons_of_mem _ hm))
  · intro k hk hL
    have hL : (cutB 32 s).length = k := by simpa using hL
    subst hL
    exact ⟨b0, b1, rfl, by have := hk.2; rwa [List.take_length] at this⟩
  · intro k hk hlt E1 l a1 W hP1 hOB1 hR1
    have hlt : k < (cutB 32 s).length := hlt _ rfl
    refine wpIn_mono (vc_sound cP_ok (par_sound mixed cP_ok) q3 0 _ _ a1 W E1 (some l) hP1 hOB1 (.inr (by kernel_rfl)) (by kernel_rfl) (vcQ3 s hs b0 b1 k hlt hk.2) hR1) fun e a' w' ⟨⟨xe, st', g1, g2, g3⟩, hag⟩ => ⟨?_, hag⟩
    cases xe with
    | normal => exact ⟨.normal, st', g1, ⟨rfl, g2⟩, g3⟩
    | exit id => exact g2.elim
    | ret => exact g2.elim
  · intro k st1 hB E1 l a1 W hP1 hOB1 hR1
    refine wpIn_mono (vc_sound cP_ok (par_sound mixed cP_ok) q4 0 _ _ a1 W E1 (some l) hP1 hOB1 (.inr (by kernel_rfl)) (by kernel_rfl) hB hR1) fun e a' w' ⟨⟨xe, st', g1, g2, g3⟩, hag⟩ => ⟨?_, hag⟩
    cases xe with
    | normal => exact ⟨.normal, st', g1, Goal.out g2, g3⟩
    | exit id => exact ⟨.exit id, st', g1, g2, g3⟩
    | ret => exact ⟨.ret, st', g1, g2, g3⟩
  · rintro e a5 w5 ⟨⟨xe, st', g1, g2, g3⟩, _⟩
    subst g1
    cases xe with
    | normal =>
      obtain ⟨b0', b1', rfl, ha⟩ := g2
      refine wpIn_mono (vc_sound cP_ok (par_sound mixed cP_ok) q5 0 _ _ a5 w5 (EH M bs w0 false) none rfl rfl (.inl ⟨rfl, rfl⟩) (by kernel_rfl) (vcQ5 s hs b0' b1' ha) g3) fun e a6 w6 h => h.1
    | exit id => exact g2.elim
    | ret => exact ⟨.ret, st', rfl, g2, g3⟩

end Go.Eng.Pu
