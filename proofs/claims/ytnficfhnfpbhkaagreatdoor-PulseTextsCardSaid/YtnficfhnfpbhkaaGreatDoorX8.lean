/- The iterator of strings.SplitSeq at a blank yields the pieces of the text, one by one. Conditions: its own variables lie where its value says. -/
import Derived.Test.YtnficfhnfpbhkaaGreatDoorX7
namespace Go.Eng.Pu
open Go.Eng Go.Proofs Go.Lib
set_option linter.all false
set_option maxRecDepth 100000
set_option maxHeartbeats 1000000

theorem oper_mono2 {F : Fence} {n : Nat} {P : Program} {Q Q' : Exit → Act → World → Prop} {o : Oper} {a : Act} {w : World} {K K' : Act → World → Prop} (h : ∀ a w, K a w → K' a w) (hq : ∀ e a w, Q e a w → Q' e a w)
    (hh : o.wpIn F n P a w K Q) : o.wpIn F n P a w K' Q' := by
  unfold Oper.wpIn at *
  refine ⟨hh.1, ?_⟩
  have hh := hh.2
  generalize (o.semAt F.round a.eval).run P w = r at *
  cases r with
  | ok x w' =>
    cases x <;> simp only [Oper.uponIn] at hh ⊢ <;>
      first
        | exact h _ _ hh
        | exact ⟨hh.1, CallsIn.mono hh.2 (fun e w'' he => by cases e <;> first | exact h _ _ he | exact hq _ _ _ he | exact (let ⟨a, w, h⟩ := he; ⟨a, w, hq _ _ _ h⟩))⟩
        | exact ⟨hh.1, RowsIn.mono hh.2 (fun _ _ he => h _ _ he)⟩
        | exact ⟨hh.1, RoundIn.mono hh.2 (fun e w'' he => by cases e <;> first | exact h _ _ he | exact hq _ _ _ he | exact (let ⟨a, w, h⟩ := he; ⟨a, w, hq _ _ _ h⟩))⟩
  | halt x w' => cases x <;> simp only [Oper.uponIn] at hh ⊢ <;> first | exact hh | exact hq _ _ _ hh

theorem list_mono {F : Fence} {n : Nat} {P : Program} {ops : Array Oper} {Q Q' : Exit → Act → World → Prop} (hq : ∀ e a w, Q e a w → Q' e a w) : ∀ (l : List Oper) (a : Act) (w : World), wpListIn F n P ops Q l a w → wpListIn F n P ops Q' l a w
  | [], a, w, h => hq _ _ _ h
  | o :: r, a, w, h => by
    unfold wpListIn at h ⊢
    split
    · rename_i hw
      rw [if_pos hw] at h
      exact oper_mono2 (list_mono hq r) hq h
    · rename_i hw
      rw [if_neg hw] at h
      exact ⟨h.1, list_mono hq r _ _ h.2⟩

/-- Operations, walked by the executor in an environment of its own. -/
theorem lpiece {ctr : List (Nat × Spec)} (hctr : All ctr) {nt : Nat} {ops : Array Oper} {l : List Oper} {ds : List Nat} {st0 target : St} {a : Act} {w0 w : World} {Q : Exit → Act → World → Prop} (hR : RelS (E0 w0) nt st0 a w)
    (hsub : ∀ o ∈ l, o ∈ ops.toList) (hdst : ∀ o ∈ ops.toList, ∀ t, o.dst = some t → t < nt) (hds : ∀ o ∈ l, ∀ t, o.dst = some t → t ∈ ds)
    (hvc : runOps (cfg {} ctr nt) ops l st0 (fun st => Goal (∃ s : Unit, ent st target ∧ True)))
    (hQ : ∀ a' w', RelS (E0 w0) nt target a' w' → Agree ds a a' → Q .normal a' w') : wpListIn (Fw none) 0 Tryz.prog ops Q l a w := by
  refine list_mono ?_ l a w (list_agree (ds := ds) (a0 := a) l a w hds (Agree.refl _ _) (runOps_sound (E := E0 w0) (c := cfg {} ctr nt) (ro := none) (q := 0) (cfgOk (X := {}) trivial hctr) (ops := ops) (Q := fun e a' w' => e = .normal ∧ RelS (E0 w0) nt target a' w') hdst l hsub st0 _ a w hvc hR ?_))
  · rintro e a' w' ⟨⟨rfl, h1⟩, h2⟩
    exact hQ a' w' h1 (h2 (by intro h; cases h))
  · intro st' a' w' h1 h2
    obtain ⟨_, h4, _⟩ := h1.out
    exact ⟨rfl, ent_sound h4 h2⟩

theorem p8_eq : p8 = match p8 with | .region i o d => .region i o d | c => c := rfl

theorem ihS (s : ByteArray) (hs : s.size ≤ 1000000) (b : Nat) : IGen Tryz.prog 76 (ispS s) () [.pointer (some ⟨b + 1, 0, none⟩), .pointer (some ⟨b, 0, none⟩), .pointer (some ⟨b + 2, 0, none⟩)] (psOf b s) := by
  intro l N J Jx W hpin hJa hJxa hJN hY hJ0
  obtain ⟨y, hy⟩ : ∃ y, y = Value.func (.yield l) #[] #[] := ⟨_, rfl⟩
  refine callsIn_of_wp (F := Fw none) (n := 0) (fn := Tryz.f76) Tryz.func76 body76 trivial ?_
  rw [← hy]
  obtain ⟨a0, ha0⟩ : ∃ a0 : Act, a0 = { tmps := #[] ++ #[y] ++ ([.pointer (some ⟨b + 1, 0, none⟩), .pointer (some ⟨b, 0, none⟩), .pointer (some ⟨b + 2, 0, none⟩)] : List Value).toArray ++ Array.replicate (Tryz.f76.ntmps - (#[] ++ #[y] ++ ([.pointer (some ⟨b + 1, 0, none⟩), .pointer (some ⟨b, 0, none⟩), .pointer (some ⟨b + 2, 0, none⟩)] : List Value).toArray).size) undef, defers := [] } := ⟨_, rfl⟩
  rw [← ha0]
  have R0 : RawS a0 y b := by
    obtain ⟨h1, h2, h3, h4, h5, h6⟩ := raw_init (n := Tryz.f76.ntmps) rfl ha0
    exact ⟨h1, h2, h3, h4, h5, h6⟩
  clear ha0
  have ev : ∀ (a : Act) (t : Nat), a.eval (.tmp t) = a.tmps.getD t undef := fun a t => rfl
  refine wpIn_seq (wpIn_seq (piece cIx_ok (rawS_rel R0 (hpin 0 _ W hJ0)) (by kernel_rfl) (by kernel_rfl) (vcP0 y s) fun a1 w1 hR1 hag1 => ?_))
  have R1 := rawS_of R0 hR1 hag1 (by kernel_rfl)
  have hJ1 := hJa 0 _ _ W w1 hJ0 (own_of hR1 (hpin 0 _ W hJ0))
  refine wpIn_cond_false (slot_bool hR1 (by decide)) (wpIn_skip ?_)
  clear hR1 hag1
  refine wpIn_seq (wpIn_block (wp_loop_rel (fun n a w => ∃ i cur, J i (psOf b cur) w ∧ n = (cutB 32 s).length - i ∧ left s i cur ∧ RawS a y b) ⟨0, s, hJ1, rfl, left_first s, R1⟩ ?_))
  rintro n a w ⟨i, cur, hJi, rfl, hl, R⟩
  have hc : cur.size ≤ 1000000 := Nat.le_trans hl.2.2 hs
  refine wpIn_block (wpIn_seq (piece cIx_ok (rawS_rel R (hpin _ _ _ hJi)) (by kernel_rfl) (by kernel_rfl) (vcP5 y cur) fun a1 w1 hR1 hag1 => ?_))
  have R1 := rawS_of R hR1 hag1 (by kernel_rfl)
  have hJ1 := hJa i _ _ w w1 hJi (own_of hR1 (hpin _ _ _ hJi))
  have h7 : a1.tmps.getD 7 undef = .int .i64 (fIdx cur) := slot_int hR1 (by decide)
  refine wpIn_seq (wpIn_seq (piece cIx_ok (rel_int (rawS_rel R1 (hpin _ _ _ hJ1)) (by decide) h7) (by kernel_rfl) (by kernel_rfl) (vcP6 y cur (fIdx cur)) fun a2 w2 hR2 hag2 => ?_))
  have R2 := rawS_of R1 hR2 hag2 (by kernel_rfl)
  have hJ2 := hJa i _ _ w1 w2 hJ1 (own_of hR2 (hpin _ _ _ hJ1))
  have h7 := (agree_get hag2 (by kernel_rfl)).trans h7
  have h33 := slot_bool hR2 (by decide)
  have hY' := hY i _ w2 hJ2 (fun L hL => by
    have : (cutB 32 s).length = L := by simpa using hL
    have := hl.1
    omega)
  have hsz2 := R2.size
  rcases fIdx_ge cur with hm | ⟨k, hk, hlt⟩
  · obtain ⟨e1, e2⟩ := left_last hl hm
    have hY' : YieldAt (Fw none) 0 Tryz.prog l #[.string cur] w2 fun e W' => (e = .returned (.bool true) ∧ J (i + 1) (psOf b cur) W') ∨ (e = .returned (.bool false) ∧ Jx i (psOf b cur) W') := by
      have e : (ispS s).args () i (encV (ispS s).e ((ispS s).seq () i)) = #[.string cur] := by
        show #[Value.string ((cutB 32 s).getD i ByteArray.empty)] = _
        rw [e1]
      rw [e] at hY'; exact hY'
    obtain ⟨fl, tl, al, bl, hrun, hround⟩ := hY'
    have h33 : a2.eval (.tmp 33) = .bool true := by rw [h33, hm]; rfl
    refine wpIn_cond_true h33 (wpIn_exit ?_)
    change Code.wpIn (Fw none) 0 Tryz.prog _ _ a2 w2
    have hld : (loadVar 9 ⟨b, 0, none⟩).run Tryz.prog w2 = .ok (.string cur) w2 := run_loadVar_one row9 rfl (by rw [cell_of (hpin _ _ _ hJ2 (b, .cells #[.string cur] 9 (0, 0)) List.mem_cons_self)]; rfl)
    refine wpIn_region_list ?_
    refine list_step rfl (op_val (v := y) (by intro d h; cases h) ?_ ?_)
    · simp [execOp, ev, R2.s0]
    obtain ⟨a3, ha3⟩ : ∃ a3, a3 = a2.put (some 49) y := ⟨_, rfl⟩
    show wpListIn _ _ _ _ _ _ (a2.put (some 49) y) w2
    have R3 := rawS_put (u := y) (t := 49) R2 (by decide)
    have h49 : (a2.put (some 49) y).tmps.getD 49 undef = y := by rw [getD_put (by omega), if_pos rfl]
    rw [← ha3] at R3 h49 ⊢
    have hsz3 := R3.size
    refine list_step rfl (op_val (v := .string cur) (by intro d h; cases h) ?_ ?_)
    · simp [execOp, ev, R3.s2, Instr.loadAt, Instr.sureAddr, hld]
    obtain ⟨a4, ha4⟩ : ∃ a4, a4 = a3.put (some 50) (.string cur) := ⟨_, rfl⟩
    show wpListIn _ _ _ _ _ _ (a3.put (some 50) (.string cur)) w2
    have R4 := rawS_put (u := .string cur) (t := 50) R3 (by decide)
    have h49' : (a3.put (some 50) (.string cur)).tmps.getD 49 undef = y := by rw [getD_put (by omega), if_neg (by decide)]; exact h49
    have h50 : (a3.put (some 50) (.string cur)).tmps.getD 50 undef = .string cur := by rw [getD_put (by omega), if_pos rfl]
    rw [← ha4] at R4 h49' h50 ⊢
    refine list_step rfl (op_round (l := l) (f := fl) (tmps := tl) (assign := al) (body := bl) (by intro d h; cases h) ?_ (RoundIn.mono hround ?_))
    · simp [execOp, resolve, Deferred.ofValue, ev, h49', h50, hy, invoke, callFunc]
      exact hrun
    have R5 := fun v => rawS_put (u := v) (t := 51) R4 (by decide)
    rintro e w3 (⟨rfl, hJ3⟩ | ⟨rfl, hJx3⟩)
    · exact ⟨.bool true, rfl, list_nil ⟨(R5 _).defers, .tuple #[], results_run (fn := Tryz.f76) (vs := []) rfl, ⟨_, rfl⟩, .inl ⟨i + 1, _, by show some (cutB 32 s).length = _; rw [e2], hJ3⟩⟩⟩
    · exact ⟨.bool false, rfl, list_nil ⟨(R5 _).defers, .tuple #[], results_run (fn := Tryz.f76) (vs := []) rfl, ⟨_, rfl⟩, .inr ⟨i, _, hJx3⟩⟩⟩
  · have h33 : a2.eval (.tmp 33) = .bool false := by rw [h33, hk, decide_eq_false (by omega)]
    rw [hk] at h7
    obtain ⟨e1, hl2⟩ := left_next hl hk
    refine wpIn_cond_false h33 (wpIn_skip ?_)
    refine wpIn_seq (piece cIx_ok (rel_int (rawS_rel R2 (hpin _ _ _ hJ2)) (by decide) h7) (by kernel_rfl) (by kernel_rfl) (vcP7 y cur k hlt hc) fun a3 w3 hR3 hag3 => ?_)
    have R3 := rawS_of R2 hR3 hag3 (by kernel_rfl)
    have hJ3 := hJa i _ _ w2 w3 hJ2 (own_of hR3 (hpin _ _ _ hJ2))
    have h7 := (agree_get hag3 (by kernel_rfl)).trans h7
    have h8 := slot_str hR3 (by decide)
    clear hR3 hag3 hR2 hag2 hR1 hag1
    have hsz3 := R3.size
    obtain ⟨fl, tl, al, bl, hrun, hround⟩ : YieldAt (Fw none) 0 Tryz.prog l #[.string (cur.extract 0 k)] w3 fun e W' => (e = .returned (.bool true) ∧ J (i + 1) (psOf b cur) W') ∨ (e = .returned (.bool false) ∧ Jx i (psOf b cur) W') := by
      have hY' := hY i _ w3 hJ3 (fun L hL => by
        have : (cutB 32 s).length = L := by simpa using hL
        have := hl.1
        omega)
      have e : (ispS s).args () i (encV (ispS s).e ((ispS s).seq () i)) = #[.string (cur.extract 0 k)] := by
        show #[Value.string ((cutB 32 s).getD i ByteArray.empty)] = _
        rw [e1]
      rw [e] at hY'; exact hY'
    refine wpIn_seq (wpIn_seq (wpIn_region_list ?_))
    refine list_step rfl (op_val (v := y) (by intro d h; cases h) ?_ ?_)
    · simp [execOp, ev, R3.s0]
    obtain ⟨a4, ha4⟩ : ∃ a4, a4 = a3.put (some 39) y := ⟨_, rfl⟩
    show wpListIn _ _ _ _ _ _ (a3.put (some 39) y) w3
    have R4 := rawS_put (u := y) (t := 39) R3 (by decide)
    have h39 : (a3.put (some 39) y).tmps.getD 39 undef = y := by rw [getD_put (by omega), if_pos rfl]
    have h8' : (a3.put (some 39) y).tmps.getD 8 undef = .string (cur.extract 0 k) := by rw [getD_put (by omega), if_neg (by decide)]; exact h8
    have h7' : (a3.put (some 39) y).tmps.getD 7 undef = .int .i64 k := by rw [getD_put (by omega), if_neg (by decide)]; exact h7
    rw [← ha4] at R4 h39 h8' h7' ⊢
    have hsz4 := R4.size
    refine list_step rfl (op_val (v := .string (cur.extract 0 k)) (by intro d h; cases h) ?_ ?_)
    · simp [execOp, ev, h8']
    obtain ⟨a5, ha5⟩ : ∃ a5, a5 = a4.put (some 40) (.string (cur.extract 0 k)) := ⟨_, rfl⟩
    show wpListIn _ _ _ _ _ _ (a4.put (some 40) (.string (cur.extract 0 k))) w3
    have R5 := rawS_put (u := .string (cur.extract 0 k)) (t := 40) R4 (by decide)
    have h39' : (a4.put (some 40) (.string (cur.extract 0 k))).tmps.getD 39 undef = y := by rw [getD_put (by omega), if_neg (by decide)]; exact h39
    have h40 : (a4.put (some 40) (.string (cur.extract 0 k))).tmps.getD 40 undef = .string (cur.extract 0 k) := by rw [getD_put (by omega), if_pos rfl]
    have h7'' : (a4.put (some 40) (.string (cur.extract 0 k))).tmps.getD 7 undef = .int .i64 k := by rw [getD_put (by omega), if_neg (by decide)]; exact h7'
    rw [← ha5] at R5 h39' h40 h7'' ⊢
    have hsz5 := R5.size
    refine list_step rfl (op_round (l := l) (f := fl) (tmps := tl) (assign := al) (body := bl) (by intro d h; cases h) ?_ (RoundIn.mono hround ?_))
    · simp [execOp, resolve, Deferred.ofValue, ev, h39', h40, hy, invoke, callFunc]
      exact hrun
    rintro e w4 (⟨rfl, hJ4⟩ | ⟨rfl, hJx4⟩)
    · refine ⟨.bool true, rfl, ?_⟩
      obtain ⟨a6, ha6⟩ : ∃ a6, a6 = a5.put (some 41) (.bool true) := ⟨_, rfl⟩
      have R6 := rawS_put (u := .bool true) (t := 41) R5 (by decide)
      have h41 : (a5.put (some 41) (.bool true)).tmps.getD 41 undef = .bool true := by rw [getD_put (by omega), if_pos rfl]
      have h76 : (a5.put (some 41) (.bool true)).tmps.getD 7 undef = .int .i64 k := by rw [getD_put (by omega), if_neg (by decide)]; exact h7''
      show wpListIn _ _ _ _ _ _ (a5.put (some 41) (.bool true)) w4
      rw [← ha6] at R6 h41 h76 ⊢
      have hsz6 := R6.size
      refine list_step rfl (op_val (v := .bool false) (by intro d h; cases h) ?_ (list_nil ?_))
      · simp [execOp, ev, h41, Op.unary]
      obtain ⟨a7, ha7⟩ : ∃ a7, a7 = a6.put (some 42) (.bool false) := ⟨_, rfl⟩
      have R7 := rawS_put (u := .bool false) (t := 42) R6 (by decide)
      have h42 : (a6.put (some 42) (.bool false)).eval (.tmp 42) = .bool false := by rw [ev, getD_put (by omega), if_pos rfl]
      have h77 : (a6.put (some 42) (.bool false)).tmps.getD 7 undef = .int .i64 k := by rw [getD_put (by omega), if_neg (by decide)]; exact h76
      show Code.wpIn _ _ _ _ _ (a6.put (some 42) (.bool false)) w4
      rw [← ha7] at R7 h42 h77 ⊢
      refine wpIn_cond_false h42 (wpIn_skip ?_)
      change Code.wpIn (Fw none) 0 Tryz.prog _ _ a7 w4
      refine wpIn_region_list ?_
      change wpListIn (Fw none) 0 Tryz.prog _ _ (ops9.take 6 ++ ops9.drop 6) a7 w4
      refine list_app _ _ _ (lpiece (ds := [43, 44, 45, 46, 47, 48]) cIx_ok (rel_int (rawS_rel R7 (hpin _ _ _ hJ4)) (by decide) h77) ?_ ?_ ?_ (vcP9 y cur k hlt hc _) fun a8 w5 hR8 hag8 => ?_)
      · exact fun o ho => by
          change o ∈ ops9
          exact List.mem_of_mem_take ho
      · intro o ho t ht
        change o ∈ ops9 at ho
        have hall : (ops9.all fun o => match o.dst with | some t => Nat.blt t 52 | none => true) = true := by kernel_rfl
        have := List.all_eq_true.1 hall o ho
        rw [ht] at this
        exact Nat.le_of_ble_eq_true this
      · intro o ho t ht
        have hall : ((ops9.take 6).all fun o => match o.dst with | some t => memN t [43, 44, 45, 46, 47, 48] | none => true) = true := by kernel_rfl
        have := List.all_eq_true.1 hall o ho
        rw [ht] at this
        exact memN_iff.1 this
      · have h48 : a8.tmps.getD 48 undef = .string (cur.extract (k + 1) cur.size) := slot_str hR8 (by decide)
        have hJ5 := hJa (i + 1) _ _ w4 w5 hJ4 (own_of hR8 (hpin _ _ _ hJ4))
        have hg : ∀ t, memN t [43, 44, 45, 46, 47, 48] = false → a8.tmps.getD t undef = a7.tmps.getD t undef := fun t ht => hag8 t fun hm => by rw [memN_iff.2 hm] at ht; cases ht
        have R8 : RawS a8 y b := by
          obtain ⟨η, g, _⟩ := hR8
          exact ⟨g.size, g.nd rfl, (hg 0 rfl).trans R7.s0, (hg 1 rfl).trans R7.s1, (hg 2 rfl).trans R7.s2, (hg 3 rfl).trans R7.s3⟩
        have hb5 := hpin _ _ _ hJ5 (b, .cells #[.string cur] 9 (0, 0)) List.mem_cons_self
        have hst := run_storeVar_row (P := Tryz.prog) row9 (b := b) (off := 0) (v := .string (cur.extract (k + 1) cur.size)) hb5 rfl (Nat.le_refl _) (fun u hu => by
          have : u = .string (cur.extract (k + 1) cur.size) := by simpa [Value.cells] using hu
          rw [this]; rfl)
        have hw6 : (((#[Value.string cur].toList.take 0 ++ (Value.string (cur.extract (k + 1) cur.size)).cells.toList ++ #[Value.string cur].toList.drop (0 + (Value.string (cur.extract (k + 1) cur.size)).cells.size)).toArray) : Array Value) = #[.string (cur.extract (k + 1) cur.size)] := rfl
        rw [hw6] at hst
        obtain ⟨w6, hw6⟩ : ∃ w6, w6 = w5.setRow b #[.string (cur.extract (k + 1) cur.size)] := ⟨_, rfl⟩
        rw [← hw6] at hst
        have hs2 : a8.tmps.getD 2 undef = .pointer (some ⟨b, 0, none⟩) := R8.s2
        change wpListIn (Fw none) 0 Tryz.prog _ _ (ops9.drop 6) a8 w5
        refine list_step rfl (wpIn_of_run (r := .ok .skip w6) (by intro d h; cases h) ?_ ?_)
        · simp [execOp, ev, hs2, h48, Instr.storeAt, Instr.sureAddr, hst]
        · change ∃ n', n' < (cutB 32 s).length - i ∧ ∃ i cur, J i (psOf b cur) w6 ∧ n' = (cutB 32 s).length - i ∧ left s i cur ∧ RawS a8 y b
          have hlt1 := hl.1
          have hoth : ∀ b', b' ≠ b → w6.heap[b']? = w5.heap[b']? := fun b' h => by rw [hw6]; exact setRow_other w5 b b' _ h
          have hat : w6.heap[b]? = some (.cells #[.string (cur.extract (k + 1) cur.size)] 9 (0, 0)) := by rw [hw6]; exact setRow_heap w5 b _ _ 9 (0, 0) hb5
          have hown : OwnStep w5 w6 (psOf b cur) (psOf b (cur.extract (k + 1) cur.size)) := by
            refine ⟨by rw [hw6]; rfl, by rw [hw6]; rfl, by rw [hw6]; rfl, by rw [hw6]; simp [World.setRow], fun b' _ hn => hoth b' fun e => hn (.cells #[.string cur] 9 (0, 0)) (by rw [e]; exact List.mem_cons_self), fun p hp => ?_⟩
            have h5 := hpin _ _ _ hJ5
            simp only [psOf, List.mem_cons, List.not_mem_nil, or_false] at hp
            rcases hp with rfl | rfl | rfl
            · exact ⟨hat, .inl ⟨_, List.mem_cons_self⟩⟩
            · exact ⟨(hoth (b + 1) (by omega)).trans (h5 (b + 1, .cells #[.string (bA [32])] 9 (0, 0)) (List.mem_cons_of_mem _ List.mem_cons_self)), .inl ⟨_, List.mem_cons_of_mem _ List.mem_cons_self⟩⟩
            · exact ⟨(hoth (b + 2) (by omega)).trans (h5 (b + 2, .cells #[.int .i64 0] 3 (0, 0)) (List.mem_cons_of_mem _ (List.mem_cons_of_mem _ List.mem_cons_self))), .inl ⟨_, List.mem_cons_of_mem _ (List.mem_cons_of_mem _ List.mem_cons_self)⟩⟩
          exact ⟨_, Nat.sub_lt_sub_left hlt1 (Nat.lt_succ_self i), i + 1, _, hJa (i + 1) _ _ w5 w6 hJ5 hown, rfl, hl2, R8⟩
    · refine ⟨.bool false, rfl, ?_⟩
      obtain ⟨a6, ha6⟩ : ∃ a6, a6 = a5.put (some 41) (.bool false) := ⟨_, rfl⟩
      have R6 := rawS_put (u := .bool false) (t := 41) R5 (by decide)
      have h41 : (a5.put (some 41) (.bool false)).tmps.getD 41 undef = .bool false := by rw [getD_put (by omega), if_pos rfl]
      show wpListIn _ _ _ _ _ _ (a5.put (some 41) (.bool false)) w4
      rw [← ha6] at R6 h41 ⊢
      have hsz6 := R6.size
      refine list_step rfl (op_val (v := .bool true) (by intro d h; cases h) ?_ (list_nil ?_))
      · simp [execOp, ev, h41, Op.unary]
      have R7 := rawS_put (u := .bool true) (t := 42) R6 (by decide)
      have h42 : (a6.put (some 42) (.bool true)).eval (.tmp 42) = .bool true := by rw [ev, getD_put (by omega), if_pos rfl]
      refine wpIn_cond_true h42 (wpIn_ret ?_)
      exact ⟨R7.defers, .tuple #[], results_run (fn := Tryz.f76) (vs := []) rfl, ⟨_, rfl⟩, .inr ⟨i, _, hJx4⟩⟩

end Go.Eng.Pu
