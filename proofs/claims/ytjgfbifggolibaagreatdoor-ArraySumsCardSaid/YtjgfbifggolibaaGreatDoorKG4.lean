/- Texts ED L0 A1 X1 B2 A2 A3 A4 A5 A6 SQ A7 A8 A9 C1 A10 A11 C2 D1, as far as they are used. Conditions: each lemma's own. -/
import Derived.Test.YtjgfbifggolibaaGreatDoorKG3
import Derived.KernelRfl
import Derived.Test.YtjgfbifggolibaaGreatDoorProg
import GoSem.Extern.MathFloatBits
import GoSem.Extern.MathSqrt
import Derived.ChangeKeysEq
import Derived.Test.YtjgfbifggolibaaGreatDoorRows
import Derived.LaidMore
import Derived.LaidLaws
import Derived.Lay
import Derived.Stop.LaidErr
import Derived.Shelf.Vars
import Derived.OpenShut
import Derived.Stop.Joined
import Derived.Handed
import Derived.WalkKit
import Derived.ChangeCalls
import Derived.ProofKit
import Derived.Laws.FloatArith
import Derived.Laws.Cover2
import Derived.Deep.QuietTactic
import Derived.BigQuiet
set_option linter.all false
namespace Go.Eng
/-! ### Other names for keys -/
def mapP (f : Nat → Nat) : List (Nat × Nat) → List (Nat × Nat)
  | [] => []
  | p :: r => (f p.1, p.2) :: mapP f r
def allP (h : Nat → Bool) : List (Nat × Nat) → Bool
  | [] => true
  | p :: r => h p.1 && allP h r
def S1.mapK (f : Nat → Nat) : S1 → S1
  | .p k off => .p (f k) off
  | .pr k i sz => .pr (f k) i sz
  | .pq k i sz off => .pq (f k) i sz off
  | .o k n => .o (f k) n
  | .fn g fs cs => .fn g (mapP f fs) (mapP f cs)
  | s => s
def S1.inK (h : Nat → Bool) : S1 → Bool
  | .p k _ | .pr k _ _ | .pq k _ _ _ | .o k _ => h k
  | .fn _ fs cs => allP h fs && allP h cs
  | _ => true
def mapL (f : Nat → Nat) : List S1 → List S1
  | [] => []
  | s :: r => s.mapK f :: mapL f r
def allL (h : Nat → Bool) : List S1 → Bool
  | [] => true
  | s :: r => s.inK h && allL h r
def SV.mapK (f : Nat → Nat) : SV → SV
  | .one s => .one (s.mapK f)
  | .agg cs => .agg (mapL f cs)
  | .tup cs => .tup (mapL f cs)
def SV.inK (h : Nat → Bool) : SV → Bool
  | .one s => s.inK h
  | .agg cs | .tup cs => allL h cs
def SH : Nat := 10000000
def up (k : Nat) : Nat := k + SH
def Fact.memKey : Fact → Option Nat
  | .cell k _ _ | .row k _ _ _ | .ob k _ => some k
  | _ => none
def inMem (seen : List Nat) : St → St
  | [] => []
  | f :: r => match f with
    | .slot t s => bif Nat.ble 1000000 t then .slot t (s.mapK up) :: inMem seen r else inMem seen r
    | .cell k off s => bif memN k seen then .cell (up k) off (s.mapK up) :: inMem seen r else .cell (up k) off (s.mapK up) :: .fix (up k) :: inMem (k :: seen) r
    | .row k el e xs => bif memN k seen then .row (up k) el e xs :: inMem seen r else .row (up k) el e xs :: .fix (up k) :: inMem (k :: seen) r
    | .ob k i => bif memN k seen then .ob (up k) i :: inMem seen r else .ob (up k) i :: .fix (up k) :: inMem (k :: seen) r
    | .fix k => inMem seen r
def argF : Nat → List SV → St
  | _, [] => []
  | i, s :: r => .slot i (s.mapK up) :: argF (i + 1) r
def ptrsOf : List (Nat × Nat) → List SV
  | [] => []
  | p :: r => .one (.p p.1 p.2) :: ptrsOf r
def topKey : Nat → St → Nat
  | n, [] => n
  | n, f :: r => match f.memKey with
    | some k => topKey (bif Nat.ble n k then k + 1 else n) r
    | none => topKey n r
def fixKs : St → List Nat
  | [] => []
  | .fix k :: r => k :: fixKs r
  | _ :: r => fixKs r
def oldK (fks : List Nat) (B K : Nat) : Bool := memN K fks && (Nat.ble SH K && Nat.blt (K - SH) B)
def outK (fks : List Nat) (B K : Nat) : Nat := bif oldK fks B K then K - SH else B + K
def keptK (fks : List Nat) (B k : Nat) : Bool := Nat.blt k B && oldK fks B (k + SH)
def outMem (all : Bool) (fks : List Nat) (B : Nat) : St → St
  | [] => []
  | f :: r => match f with
    | .cell k off s => bif all || oldK fks B k then .cell (outK fks B k) off (s.mapK (outK fks B)) :: outMem all fks B r else outMem all fks B r
    | .row k el e xs => bif all || oldK fks B k then .row (outK fks B k) el e xs :: outMem all fks B r else outMem all fks B r
    | .ob k i => bif all || oldK fks B k then .ob (outK fks B k) i :: outMem all fks B r else outMem all fks B r
    | _ => outMem all fks B r
def outSlots (d : Nat) (fks : List Nat) (B : Nat) : St → St
  | [] => []
  | f :: r => match f with
    | .slot t s => bif !Nat.beq t d && s.inK (keptK fks B) then .slot t s :: outSlots d fks B r else outSlots d fks B r
    | .fix k => bif keptK fks B k then .fix k :: outSlots d fks B r else outSlots d fks B r
    | _ => outSlots d fks B r
structure InlF where
  nt : Nat
  np : Nat
  body : Code
  rs : List ResultVar
  anns : List (St → LoopAnn)
def getInl (g : Nat) : List (Nat × InlF) → Option InlF
  | [] => none
  | (f, s) :: r => bif Nat.beq f g then some s else getInl g r
def tgt (st : St) (fo : Operand) : Option (Nat × List (Nat × Nat) × List (Nat × Nat)) :=
  match eval st fo with
  | some (.one (.fn g fs cs)) => some (g, fs, cs)
  | some (.one (.v (.func (.func g) x y))) => bif x.size == 0 && y.size == 0 then some (g, [], []) else none
  | _ => none
def svsOf (c : Cfg) (st : St) : List ResultVar → Option SV
  | [] => some (.one (.v (.tuple #[])))
  | [r] => svOf c st r
  | _ => none
def inlOut (c : Cfg) (I : InlF) (d B : Nat) (st : St) (K : St → Prop) (st' : St) : Prop :=
  match svsOf c st' I.rs with
  | some s => forceNs (fixKs st') fun fks => force (.slot d (s.mapK (outK fks B)) :: (outSlots d fks B st ++ outMem (!s.inK (fun _ => false)) fks B st')) K
  | none => False
def inlVC (c : Cfg) (I : InlF) (d : Nat) (st : St) (ss : List SV) (K : St → Prop) : Prop :=
  forceN (topKey 1 st) fun B => force (argF 0 ss ++ inMem [] st) fun st0 =>
    vc { c with nt := I.nt } (par { c with nt := I.nt }) I.anns I.body 0 st0 fun e st' => match e with
      | .exit _ => False
      | _ => inlOut { c with nt := I.nt } I d B st K st'
def inlHook (c : Cfg) (tbl : List (Nat × InlF)) (nt : Nat) (o : Oper) (st : St) : Option ((St → Prop) → Prop) :=
  match o.op with
  | .call { callee := .value fo, args, argTypes := _ } => match tgt st fo with
    | some (g, fs, cs) => match getInl g tbl with
      | some I => match evals st args.toList, o.dst with
        | some ss, some d => bif Nat.blt d nt && (Nat.beq (fs.length + (ss.length + cs.length)) I.np && Nat.ble I.np I.nt) then
            some (fun K => inlVC c I d st (ptrsOf fs ++ (ss ++ ptrsOf cs)) K) else none
        | _, _ => none
      | none => none
    | none => none
  | _ => none
def InlOk (P : Program) (tbl : List (Nat × InlF)) : Prop := ∀ g I, getInl g tbl = some I → ∃ fn, P.funcs[g]? = some fn ∧ fn.body = some I.body ∧ fn.ntmps = I.nt ∧ fn.results.toList = I.rs ∧
  dstOk I.nt I.body = true ∧ noRange I.body = true ∧ I.nt ≤ 1000000 ∧ (fn.name == "runtime.NumGoroutine") = false
/-! ### Soundness -/
section
variable {V V' : View} {η η' : Eta} {f : Nat → Nat} {h : Nat → Bool}
theorem ptrL_mapP (hη : ∀ k, h k = true → η' (f k) = η k) : ∀ {ps : List (Nat × Nat)} {vs : List Value}, allP h ps = true → ptrL η ps vs → ptrL η' (mapP f ps) vs
  | [], [], _, H => H
  | [], _ :: _, _, H => H.elim
  | _ :: _, [], _, H => H.elim
  | p :: r, v :: l, hin, ⟨⟨b, c, h1, h2⟩, h3⟩ => by
    simp only [allP, Bool.and_eq_true] at hin
    exact ⟨⟨b, c, (hη _ hin.1).trans h1, h2⟩, ptrL_mapP hη hin.2 h3⟩
theorem holds1_mapK (hv : ∀ b c, V b c → V' b c) (hη : ∀ k, h k = true → η' (f k) = η k) {s : S1} {v : Value} (hin : s.inK h = true) (H : holds1 V η s v) : holds1 V' η' (s.mapK f) v := by
  cases s with
  | d t x => exact RepV.mono hv H
  | dfl e' ys => exact ⟨RepV.mono hv H.1, H.2⟩
  | pw t x => obtain ⟨b, c, h1, h2, h3, h4⟩ := H; exact ⟨b, c, h1, hv _ _ h2, h3, Rep.mono hv _ _ _ h4⟩
  | lb b => exact H
  | v x => exact H
  | p k off =>
    obtain ⟨b, c, h1, h2⟩ := H
    exact ⟨b, c, (hη _ hin).trans h1, h2⟩
  | pd t x =>
    obtain ⟨ad, c, h1, h2, h3, h4, h5⟩ := H
    exact ⟨ad, c, h1, h2, hv _ _ h3, h4, Rep.mono hv _ _ _ h5⟩
  | po off t x =>
    obtain ⟨ad, c, h1, h2, h3, h4, h5⟩ := H
    exact ⟨ad, c, h1, h2, hv _ _ h3, h4, Rep.mono hv _ _ _ h5⟩
  | pr k i sz =>
    obtain ⟨h0, b, c, h1, h2⟩ := H
    exact ⟨h0, b, c, (hη _ hin).trans h1, h2⟩
  | pq k i sz off =>
    obtain ⟨h0, b, c, h1, h2⟩ := H
    exact ⟨h0, b, c, (hη _ hin).trans h1, h2⟩
  | o k n =>
    rcases H with ⟨h1, h2⟩ | ⟨b, c, h1, h2⟩
    · exact .inl ⟨(hη _ hin).trans h1, h2⟩
    · exact .inr ⟨b, c, (hη _ hin).trans h1, h2⟩
  | u => exact H
  | fo k r => exact H
  | fn g fs cs =>
    simp only [S1.inK, Bool.and_eq_true] at hin
    obtain ⟨fv, cv, h1, h2, h3⟩ := H
    exact ⟨fv, cv, h1, ptrL_mapP hη hin.1 h2, ptrL_mapP hη hin.2 h3⟩
theorem holdsC_mapK (hv : ∀ b c, V b c → V' b c) (hη : ∀ k, h k = true → η' (f k) = η k) : ∀ {cs : List S1} {vs : List Value}, allL h cs = true → holdsC V η cs vs → holdsC V' η' (mapL f cs) vs
  | [], [], _, H => H
  | [], _ :: _, _, H => H.elim
  | _ :: _, [], _, H => H.elim
  | s :: r, v :: l, hin, ⟨h1, h2, h3⟩ => by
    simp only [allL, Bool.and_eq_true] at hin
    exact ⟨holds1_mapK hv hη hin.1 h1, h2, holdsC_mapK hv hη hin.2 h3⟩
theorem holdsL_mapK (hv : ∀ b c, V b c → V' b c) (hη : ∀ k, h k = true → η' (f k) = η k) : ∀ {cs : List S1} {vs : List Value}, allL h cs = true → holdsL V η cs vs → holdsL V' η' (mapL f cs) vs
  | [], [], _, H => H
  | [], _ :: _, _, H => H.elim
  | _ :: _, [], _, H => H.elim
  | s :: r, v :: l, hin, ⟨h1, h3⟩ => by
    simp only [allL, Bool.and_eq_true] at hin
    exact ⟨holds1_mapK hv hη hin.1 h1, holdsL_mapK hv hη hin.2 h3⟩
theorem holdsV_mapK (hv : ∀ b c, V b c → V' b c) (hη : ∀ k, h k = true → η' (f k) = η k) {s : SV} {v : Value} (hin : s.inK h = true) (H : holdsV V η s v) : holdsV V' η' (s.mapK f) v := by
  cases s with
  | one s => exact holds1_mapK hv hη hin H
  | agg cs => obtain ⟨vs, rfl, H⟩ := H; exact ⟨vs, rfl, holdsC_mapK hv hη hin H⟩
  | tup cs => obtain ⟨vs, rfl, H⟩ := H; exact ⟨vs, rfl, holdsL_mapK hv hη hin H⟩
end
theorem mapP_id : ∀ l : List (Nat × Nat), mapP (fun k => k) l = l
  | [] => rfl
  | p :: r => by simp only [mapP, mapP_id r]
theorem S1.mapK_id (s : S1) : s.mapK (fun k => k) = s := by cases s <;> simp only [S1.mapK, mapP_id]
theorem mapL_id : ∀ l : List S1, mapL (fun k => k) l = l
  | [] => rfl
  | s :: r => by simp only [mapL, mapL_id r, S1.mapK_id]
theorem SV.mapK_id (s : SV) : s.mapK (fun k => k) = s := by cases s <;> simp only [SV.mapK, mapL_id, S1.mapK_id]
theorem allP_true : ∀ l : List (Nat × Nat), allP (fun _ => true) l = true
  | [] => rfl
  | p :: r => by simp only [allP, allP_true r, Bool.and_self]
theorem S1.inK_true (s : S1) : s.inK (fun _ => true) = true := by cases s <;> simp only [S1.inK, allP_true, Bool.and_self]
theorem allL_true : ∀ l : List S1, allL (fun _ => true) l = true
  | [] => rfl
  | s :: r => by simp only [allL, allL_true r, S1.inK_true, Bool.and_self]
theorem SV.inK_true (s : SV) : s.inK (fun _ => true) = true := by cases s <;> simp only [SV.inK, allL_true, S1.inK_true]
theorem mem_fixKs {k : Nat} : ∀ {st : St}, k ∈ fixKs st → Fact.fix k ∈ st
  | [], h => by cases h
  | f :: r, h => by
    cases f with
    | fix j =>
      simp only [fixKs, List.mem_cons] at h
      rcases h with rfl | h
      · exact List.mem_cons_self
      · exact List.mem_cons_of_mem _ (mem_fixKs h)
    | _ => exact List.mem_cons_of_mem _ (mem_fixKs (by simpa [fixKs] using h))
theorem mem_inMem {q : Fact} : ∀ {st : St} {seen : List Nat}, q ∈ inMem seen st → (∃ k, q = .fix (up k)) ∨ (∃ t s, 1000000 ≤ t ∧ q = .slot t (s.mapK up) ∧ Fact.slot t s ∈ st) ∨
    (∃ k off s, q = .cell (up k) off (s.mapK up) ∧ Fact.cell k off s ∈ st) ∨ (∃ k el e xs, q = .row (up k) el e xs ∧ Fact.row k el e xs ∈ st) ∨ (∃ k i, q = .ob (up k) i ∧ Fact.ob k i ∈ st)
  | [], _, h => by cases h
  | f :: r, seen, h => by
    have lift : ∀ {seen}, q ∈ inMem seen r → (∃ k, q = .fix (up k)) ∨ (∃ t s, 1000000 ≤ t ∧ q = .slot t (s.mapK up) ∧ Fact.slot t s ∈ f :: r) ∨
        (∃ k off s, q = .cell (up k) off (s.mapK up) ∧ Fact.cell k off s ∈ f :: r) ∨ (∃ k el e xs, q = .row (up k) el e xs ∧ Fact.row k el e xs ∈ f :: r) ∨ (∃ k i, q = .ob (up k) i ∧ Fact.ob k i ∈ f :: r) := fun h => by
      rcases mem_inMem h with h | ⟨t, s, h0, h1, h2⟩ | ⟨k, off, s, h1, h2⟩ | ⟨k, el, e, xs, h1, h2⟩ | ⟨k, i, h1, h2⟩
      · exact .inl h
      · exact .inr (.inl ⟨t, s, h0, h1, List.mem_cons_of_mem _ h2⟩)
      · exact .inr (.inr (.inl ⟨k, off, s, h1, List.mem_cons_of_mem _ h2⟩))
      · exact .inr (.inr (.inr (.inl ⟨k, el, e, xs, h1, List.mem_cons_of_mem _ h2⟩)))
      · exact .inr (.inr (.inr (.inr ⟨k, i, h1, List.mem_cons_of_mem _ h2⟩)))
    cases f with
    | slot t s =>
      simp only [inMem] at h
      cases hb : Nat.ble 1000000 t with
      | false => rw [hb] at h; exact lift h
      | true =>
        rw [hb] at h
        simp only [cond_true, List.mem_cons] at h
        rcases h with rfl | h
        · exact .inr (.inl ⟨t, s, Nat.le_of_ble_eq_true hb, rfl, List.mem_cons_self⟩)
        · exact lift h
    | cell k off s =>
      simp only [inMem] at h
      cases hb : memN k seen with
      | true =>
        rw [hb] at h
        simp only [cond_true, List.mem_cons] at h
        rcases h with rfl | h
        · exact .inr (.inr (.inl ⟨k, off, s, rfl, List.mem_cons_self⟩))
        · exact lift h
      | false =>
        rw [hb] at h
        simp only [cond_false, List.mem_cons] at h
        rcases h with rfl | rfl | h
        · exact .inr (.inr (.inl ⟨k, off, s, rfl, List.mem_cons_self⟩))
        · exact .inl ⟨k, rfl⟩
        · exact lift h
    | row k el e xs =>
      simp only [inMem] at h
      cases hb : memN k seen with
      | true =>
        rw [hb] at h
        simp only [cond_true, List.mem_cons] at h
        rcases h with rfl | h
        · exact .inr (.inr (.inr (.inl ⟨k, el, e, xs, rfl, List.mem_cons_self⟩)))
        · exact lift h
      | false =>
        rw [hb] at h
        simp only [cond_false, List.mem_cons] at h
        rcases h with rfl | rfl | h
        · exact .inr (.inr (.inr (.inl ⟨k, el, e, xs, rfl, List.mem_cons_self⟩)))
        · exact .inl ⟨k, rfl⟩
        · exact lift h
    | ob k i =>
      simp only [inMem] at h
      cases hb : memN k seen with
      | true =>
        rw [hb] at h
        simp only [cond_true, List.mem_cons] at h
        rcases h with rfl | h
        · exact .inr (.inr (.inr (.inr ⟨k, i, rfl, List.mem_cons_self⟩)))
        · exact lift h
      | false =>
        rw [hb] at h
        simp only [cond_false, List.mem_cons] at h
        rcases h with rfl | rfl | h
        · exact .inr (.inr (.inr (.inr ⟨k, i, rfl, List.mem_cons_self⟩)))
        · exact .inl ⟨k, rfl⟩
        · exact lift h
    | fix k =>
      simp only [inMem] at h
      exact lift h
theorem mem_outMem {all : Bool} {fks : List Nat} {B : Nat} {q : Fact} : ∀ {st : St}, q ∈ outMem all fks B st →
    (∃ k off s, q = .cell (outK fks B k) off (s.mapK (outK fks B)) ∧ Fact.cell k off s ∈ st) ∨ (∃ k el e xs, q = .row (outK fks B k) el e xs ∧ Fact.row k el e xs ∈ st) ∨ (∃ k i, q = .ob (outK fks B k) i ∧ Fact.ob k i ∈ st)
  | [], h => by cases h
  | f :: r, h => by
    have lift : q ∈ outMem all fks B r → (∃ k off s, q = .cell (outK fks B k) off (s.mapK (outK fks B)) ∧ Fact.cell k off s ∈ f :: r) ∨ (∃ k el e xs, q = .row (outK fks B k) el e xs ∧ Fact.row k el e xs ∈ f :: r) ∨ (∃ k i, q = .ob (outK fks B k) i ∧ Fact.ob k i ∈ f :: r) := fun h => by
      rcases mem_outMem h with ⟨k, off, s, h1, h2⟩ | ⟨k, el, e, xs, h1, h2⟩ | ⟨k, i, h1, h2⟩
      · exact .inl ⟨k, off, s, h1, List.mem_cons_of_mem _ h2⟩
      · exact .inr (.inl ⟨k, el, e, xs, h1, List.mem_cons_of_mem _ h2⟩)
      · exact .inr (.inr ⟨k, i, h1, List.mem_cons_of_mem _ h2⟩)
    cases f with
    | slot t s => exact lift (by simpa [outMem] using h)
    | fix k => exact lift (by simpa [outMem] using h)
    | cell k off s =>
      simp only [outMem] at h
      cases hb : (all || oldK fks B k) with
      | false => rw [hb] at h; exact lift h
      | true =>
        rw [hb] at h
        simp only [cond_true, List.mem_cons] at h
        rcases h with rfl | h
        · exact .inl ⟨k, off, s, rfl, List.mem_cons_self⟩
        · exact lift h
    | row k el e xs =>
      simp only [outMem] at h
      cases hb : (all || oldK fks B k) with
      | false => rw [hb] at h; exact lift h
      | true =>
        rw [hb] at h
        simp only [cond_true, List.mem_cons] at h
        rcases h with rfl | h
        · exact .inr (.inl ⟨k, el, e, xs, rfl, List.mem_cons_self⟩)
        · exact lift h
    | ob k i =>
      simp only [outMem] at h
      cases hb : (all || oldK fks B k) with
      | false => rw [hb] at h; exact lift h
      | true =>
        rw [hb] at h
        simp only [cond_true, List.mem_cons] at h
        rcases h with rfl | h
        · exact .inr (.inr ⟨k, i, rfl, List.mem_cons_self⟩)
        · exact lift h
theorem mem_outSlots {d : Nat} {fks : List Nat} {B : Nat} {q : Fact} : ∀ {st : St}, q ∈ outSlots d fks B st →
    (∃ t s, q = .slot t s ∧ t ≠ d ∧ s.inK (keptK fks B) = true ∧ Fact.slot t s ∈ st) ∨ (∃ k, q = .fix k ∧ keptK fks B k = true ∧ Fact.fix k ∈ st)
  | [], h => by cases h
  | f :: r, h => by
    have lift : q ∈ outSlots d fks B r → (∃ t s, q = .slot t s ∧ t ≠ d ∧ s.inK (keptK fks B) = true ∧ Fact.slot t s ∈ f :: r) ∨ (∃ k, q = .fix k ∧ keptK fks B k = true ∧ Fact.fix k ∈ f :: r) := fun h => by
      rcases mem_outSlots h with ⟨t, s, h1, h2, h3, h4⟩ | ⟨k, h1, h2, h3⟩
      · exact .inl ⟨t, s, h1, h2, h3, List.mem_cons_of_mem _ h4⟩
      · exact .inr ⟨k, h1, h2, List.mem_cons_of_mem _ h3⟩
    cases f with
    | slot t s =>
      simp only [outSlots] at h
      cases hb : (!Nat.beq t d && s.inK (keptK fks B)) with
      | false => rw [hb] at h; exact lift h
      | true =>
        rw [hb] at h
        simp only [cond_true, List.mem_cons] at h
        simp only [Bool.and_eq_true, Bool.not_eq_true'] at hb
        rcases h with rfl | h
        · exact .inl ⟨t, s, rfl, Nat.ne_of_beq_eq_false hb.1, hb.2, List.mem_cons_self⟩
        · exact lift h
    | fix k =>
      simp only [outSlots] at h
      cases hb : keptK fks B k with
      | false => rw [hb] at h; exact lift h
      | true =>
        rw [hb] at h
        simp only [cond_true, List.mem_cons] at h
        rcases h with rfl | h
        · exact .inr ⟨k, rfl, hb, List.mem_cons_self⟩
        · exact lift h
    | cell k off s => exact lift (by simpa [outSlots] using h)
    | row k el e xs => exact lift (by simpa [outSlots] using h)
    | ob k i => exact lift (by simpa [outSlots] using h)
theorem argF_mem {q : Fact} : ∀ {ss : List SV} {i : Nat}, q ∈ argF i ss → ∃ j s, nth ss j = some s ∧ q = .slot (i + j) (s.mapK up)
  | [], i, h => by cases h
  | s :: r, i, h => by
    simp only [argF, List.mem_cons] at h
    rcases h with rfl | h
    · exact ⟨0, s, rfl, rfl⟩
    · obtain ⟨j, u, h1, h2⟩ := argF_mem h
      exact ⟨j + 1, u, h1, by rw [h2, Nat.add_assoc, Nat.add_comm 1 j]⟩
theorem holdsA_nth {V : View} {η : Eta} : ∀ {ss : List SV} {vs : List Value} {j : Nat} {s : SV}, holdsA V η ss vs → nth ss j = some s → ∃ v, vs[j]? = some v ∧ holdsV V η s v
  | [], _, _, _, _, h => by simp [nth] at h
  | _ :: _, [], _, _, H, _ => H.elim
  | s :: r, v :: l, 0, u, ⟨h1, _⟩, h => by
    simp only [nth, Option.some.injEq] at h
    subst h
    exact ⟨v, rfl, h1⟩
  | s :: r, v :: l, j + 1, u, ⟨_, h2⟩, h => by
    obtain ⟨w, h3, h4⟩ := holdsA_nth h2 (show nth r j = some u from h)
    exact ⟨w, by simpa using h3, h4⟩
theorem holdsA_length {V : View} {η : Eta} : ∀ {ss : List SV} {vs : List Value}, holdsA V η ss vs → ss.length = vs.length
  | [], [], _ => rfl
  | [], _ :: _, H => H.elim
  | _ :: _, [], H => H.elim
  | s :: r, v :: l, ⟨_, h2⟩ => by simp [holdsA_length h2]
theorem ptrs_holds {V : View} {η : Eta} : ∀ {ps : List (Nat × Nat)} {vs : List Value}, ptrL η ps vs → holdsA V η (ptrsOf ps) vs
  | [], [], _ => trivial
  | [], _ :: _, H => H.elim
  | _ :: _, [], H => H.elim
  | p :: r, v :: l, ⟨h1, h2⟩ => ⟨h1, ptrs_holds h2⟩
theorem ptrsOf_length : ∀ ps : List (Nat × Nat), (ptrsOf ps).length = ps.length
  | [] => rfl
  | p :: r => by simp [ptrsOf, ptrsOf_length r]
theorem tgt_sound {E : Env} {η : Eta} {st : St} {a : Act} {w : World} (H : ∀ f ∈ st, Fact.holds E η a w f) {fo : Operand} {g : Nat} {fs cs : List (Nat × Nat)} (h : tgt st fo = some (g, fs, cs)) :
    ∃ fv cv : List Value, a.eval fo = .func (.func g) fv.toArray cv.toArray ∧ ptrL η fs fv ∧ ptrL η cs cv := by
  unfold tgt at h
  split at h
  · rename_i g' fs' cs' he
    simp only [Option.some.injEq, Prod.mk.injEq] at h
    obtain ⟨rfl, rfl, rfl⟩ := h
    exact eval_sound H he
  · rename_i g' x y he
    cases hb : (x.size == 0 && y.size == 0) with
    | false => rw [hb] at h; simp at h
    | true =>
      rw [hb] at h
      simp only [cond_true, Option.some.injEq, Prod.mk.injEq] at h
      obtain ⟨rfl, rfl, rfl⟩ := h
      simp only [Bool.and_eq_true, beq_iff_eq] at hb
      have e : a.eval fo = .func (.func g') x y := eval_sound H he
      have hx : x = ([] : List Value).toArray := by simpa using hb.1
      have hy : y = ([] : List Value).toArray := by simpa using hb.2
      exact ⟨[], [], by rw [e, hx, hy], trivial, trivial⟩
  · cases h
theorem oldK_iff {fks : List Nat} {B K : Nat} : oldK fks B K = true ↔ K ∈ fks ∧ SH ≤ K ∧ K - SH < B := by
  simp only [oldK, Bool.and_eq_true, memN_iff]
  constructor
  · rintro ⟨h1, h2, h3⟩; exact ⟨h1, Nat.le_of_ble_eq_true h2, blt_lt h3⟩
  · rintro ⟨h1, h2, h3⟩; exact ⟨h1, Nat.ble_eq_true_of_le h2, blt_yes h3⟩
theorem outK_old {fks : List Nat} {B K : Nat} (h : oldK fks B K = true) : outK fks B K = K - SH := by unfold outK; rw [h, cond_true]
theorem outK_new {fks : List Nat} {B K : Nat} (h : oldK fks B K = false) : outK fks B K = B + K := by unfold outK; rw [h, cond_false]
theorem out_eta {fks : List Nat} {B : Nat} {ηn η2 : Eta} (hnd : ∀ k, ηn k = bif Nat.blt k B then (bif oldK fks B (k + SH) then η2 (k + SH) else none) else (bif oldK fks B (k - B) then none else η2 (k - B))) (K : Nat) : ηn (outK fks B K) = η2 K := by
  by_cases ho : oldK fks B K = true
  · obtain ⟨h1, h2, h3⟩ := oldK_iff.1 ho
    rw [outK_old ho, hnd, blt_yes h3, cond_true]
    have e : K - SH + SH = K := Nat.sub_add_cancel h2
    rw [e, ho, cond_true]
  · have ho : oldK fks B K = false := by cases h : oldK fks B K <;> simp_all
    rw [outK_new ho, hnd, blt_no (Nat.le_add_right _ _), cond_false]
    have e : B + K - B = K := Nat.add_sub_cancel_left ..
    rw [e, ho, cond_false]
theorem inl_sound {P : Program} {OB : Nat → Obj → Prop} {c : Cfg} (hC : ∀ nt, CfgOk P OB { c with nt := nt }) (hm : P.follows .mixedOrders = true) {tbl : List (Nat × InlF)} (hT : InlOk P tbl) (nt : Nat) : HookOk P OB nt (inlHook c tbl nt) := by
  intro E hP hOB o st F a w K K' Q ro q hh hF hR hK
  subst hP hOB
  unfold inlHook at hh
  split at hh
  case h_2 => cases hh
  case h_1 fo args ats ho =>
  split at hh
  case h_2 => cases hh
  case h_1 g fs cs htg =>
  split at hh
  case h_2 => cases hh
  case h_1 I hI =>
  split at hh
  case h_2 => cases hh
  case h_1 ss d hss hd =>
  cases hb : (Nat.blt d nt && (Nat.beq (fs.length + (ss.length + cs.length)) I.np && Nat.ble I.np I.nt)) with
  | false => rw [hb] at hh; simp at hh
  | true =>
  rw [hb] at hh
  simp only [cond_true, Option.some.injEq] at hh
  subst hh
  simp only [Bool.and_eq_true] at hb
  have hdn := blt_lt hb.1
  have hnp := Nat.eq_of_beq_eq_true hb.2.1
  have hnt := Nat.le_of_ble_eq_true hb.2.2
  obtain ⟨fn, hf, hbody, hfnt, hrs, hdo, hnr, hlim, hname⟩ := hT g I hI
  obtain ⟨η, gd, H⟩ := hR
  obtain ⟨fv, cv, hfo, hfv, hcv⟩ := tgt_sound H htg
  have hA : holdsA (vw E η w) η (ptrsOf fs ++ (ss ++ ptrsOf cs)) (fv ++ (args.toList.map a.eval ++ cv)) := holdsA_app (ptrs_holds hfv) (holdsA_app (evals_vals H hss) (ptrs_holds hcv))
  obtain ⟨vals, hvals⟩ : ∃ vals, vals = fv ++ (args.toList.map a.eval ++ cv) := ⟨_, rfl⟩
  obtain ⟨SS, hSS⟩ : ∃ SS, SS = ptrsOf fs ++ (ss ++ ptrsOf cs) := ⟨_, rfl⟩
  rw [← hvals, ← hSS] at hA
  have hlen : vals.length = I.np := by
    rw [← holdsA_length hA, hSS]; simp [ptrsOf_length]; omega
  have hrun : (execOp a.eval o).run E.P w = .ok (.enter g vals.toArray) w := by
    have e2' : ¬ fn.name = "runtime.NumGoroutine" := by simpa using hname
    have e3' : ¬ fn.body = none := by rw [hbody]; intro h; cases h
    have e : vals.toArray = fv.toArray ++ args.map a.eval ++ cv.toArray := by
      rw [hvals]; apply Array.ext'; simp
    rw [e]
    simp [execOp, ho, resolve, Deferred.ofValue, hfo, invoke, callFunc, hf, e2', e3']
  have hgrow := gd.grow
  refine wpIn_of_run (by intro d h; rw [ho] at h; cases h) hrun ⟨fun h => (by cases h), callsFw (R := fun e w' => ∃ v, e = .returned v ∧ K' (a.put o.dst v) w') ?_ |>.mono fun e w' ⟨v, h1, h2⟩ => by subst h1; exact h2⟩
  simp only [inlVC, forceN_eq, force_eq] at hF
  obtain ⟨B, hB⟩ : ∃ B, B = topKey 1 st := ⟨_, rfl⟩
  rw [← hB, ← hSS] at hF
  obtain ⟨η', hdef⟩ : ∃ η' : Eta, ∀ K, η' K = bif Nat.ble SH K then η (K - SH) else none := ⟨fun K => bif Nat.ble SH K then η (K - SH) else none, fun _ => rfl⟩
  let E' : Env := { P := E.P, M := fun b => E.Mp b, mu := fun b => E.mu b ∧ ∃ k n, η k = some (b, n), w0 := w, OB := E.OB, x := { mw := fun b => E.low b ∧ ∃ k n, η k = some (b, n), eta0 := η', nd := true } }
  have hup : ∀ k, η' (up k) = η k := fun k => by
    rw [hdef, up, Nat.ble_eq_true_of_le (Nat.le_add_left _ _), Nat.add_sub_cancel, cond_true]
  have hη' : ∀ K b n, η' K = some (b, n) → SH ≤ K ∧ η (K - SH) = some (b, n) := fun K b n h => by
    rw [hdef] at h
    cases hb : Nat.ble SH K with
    | false => rw [hb] at h; cases h
    | true => rw [hb] at h; exact ⟨Nat.le_of_ble_eq_true hb, h⟩
  have hmu : ∀ b, E.mu b → b < w.heap.size := fun b h => by
    have := gd.dis b h
    have : ¬ E.w0.heap.size ≤ b := fun h => this (.inl h)
    omega
  have hlow : ∀ b, E'.low b → E.low b := fun b h => h.elim (fun h => .inl (Nat.le_trans hgrow h)) (fun h => h.1)
  have hMp : ∀ b, E.Mp b → b < w.heap.size ∧ ∀ k n, η k = some (b, n) → ¬ E.low b := fun b h => by
    rcases h with h | ⟨o, h⟩
    · have h1 := gd.old b h
      have : ¬ E.w0.heap.size ≤ b := fun h => h1 (.inl h)
      exact ⟨by omega, fun _ _ _ => h1⟩
    · obtain ⟨_, h2, h3⟩ := gd.defers.2 _ h
      exact ⟨lt_of_heap h2, fun k n hk => absurd hk (h3 k n)⟩
  obtain ⟨a', ha'⟩ : ∃ a' : Act, a' = { tmps := vals.toArray ++ Array.replicate (fn.ntmps - vals.toArray.size) undef, defers := [] } := ⟨_, rfl⟩
  have hsz : a'.tmps.size = I.nt := by rw [ha', hfnt]; simp; omega
  have hget : ∀ (j : Nat) v, vals[j]? = some v → a'.tmps.getD j undef = v := fun j v h => by
    have hl := (List.getElem?_eq_some_iff.1 h).1
    rw [ha']
    simp only [Array.getD_eq_getD_getElem?]
    rw [Array.getElem?_append_left (by simpa using hl)]
    simp [h]
  have hview : ∀ b c, vw E η w b c → vw E' η' w b c := fun b c ⟨h1, h2, h3⟩ => ⟨fun h => h.elim h1 (fun ⟨_, h⟩ => by cases h), fun K n hK => h2 _ _ (hη' K b n hK).2, h3⟩
  have hR' : RelS E' I.nt (argF 0 SS ++ inMem [] st) a' w := by
    refine ⟨η', {
      size := hsz, lim := hlim, defers := ⟨⟨[], by rw [ha']; rfl, List.nodup_nil, fun _ h => (by cases h)⟩, fun _ h => (by cases h)⟩, os := rfl, tape := rfl, output := rfl, grow := Nat.le_refl _, keep := fun _ _ _ _ => rfl,
      own := fun K b n hK => ?_, dis := fun b hb h => ?_, inj := fun K L b n n' hK hL => ?_, old := fun b hb h => ?_, obkeep := fun b i o _ _ h1 h2 => ⟨o, h1, h2⟩, nd := fun _ => (by rw [ha']) }, fun f hf => ?_⟩
    · obtain ⟨_, hk⟩ := hη' K b n hK
      obtain ⟨h1, h2⟩ := gd.own _ b n hk
      exact ⟨h1, h2.imp (fun h => .inr ⟨h, _, _, hk⟩) (fun h => ⟨h, _, _, hk⟩)⟩
    · exact gd.dis b hb.1 (hlow b h)
    · obtain ⟨h1, h2⟩ := hη' K b n hK
      obtain ⟨h3, h4⟩ := hη' L b n' hL
      have := gd.inj _ _ b n n' h2 h4
      omega
    · obtain ⟨h1, h2⟩ := hMp b hb
      rcases h with h | ⟨h3, k, n, h4⟩
      · have h : w.heap.size ≤ b := h
        omega
      · exact h2 k n h4 h3
    · rcases List.mem_append.1 hf with hf | hf
      · obtain ⟨j, s, h1, rfl⟩ := argF_mem hf
        obtain ⟨v, h2, h3⟩ := holdsA_nth hA h1
        simp only [Fact.holds, Nat.zero_add]
        have hj : j < I.nt := by have := (List.getElem?_eq_some_iff.1 h2).1; omega
        rw [sval_lt (by omega), hget j v h2]
        exact holdsV_mapK (h := fun _ => true) hview (fun k _ => hup k) (SV.inK_true s) h3
      · rcases mem_inMem hf with ⟨k, rfl⟩ | ⟨t, s, h0, rfl, h2⟩ | ⟨k, off, s, rfl, h2⟩ | ⟨k, el, e, xs, rfl, h2⟩ | ⟨k, i, rfl, h2⟩
        · exact (Eq.refl (η' (up k)))
        · have h := H _ h2
          simp only [Fact.holds] at h ⊢
          have e : sval a' t = sval a t := by unfold sval; rw [blt_no h0]; rfl
          rw [e]
          exact holdsV_mapK (h := fun _ => true) hview (fun k _ => hup k) (SV.inK_true s) h
        · obtain ⟨b, n, cur, el, v, h3, h4, h5, h6, h7, h8⟩ := H _ h2
          exact ⟨b, n, cur, el, v, .inr ⟨h3, k, n, h4⟩, (hup k).trans h4, h5, h6, h7, holds1_mapK (h := fun _ => true) hview (fun k _ => hup k) (S1.inK_true s) h8⟩
        · rcases H _ h2 with ⟨h3, h4⟩ | ⟨b, n, cur, h3, h4, h5, h6⟩
          · exact .inl ⟨(hup k).trans h3, h4⟩
          · exact .inr ⟨b, n, cur, .inr ⟨h3, k, n, h4⟩, (hup k).trans h4, h5, h6.mono hview⟩
        · obtain ⟨b, n, o, h3, h4, h5⟩ := H _ h2
          exact ⟨b, n, o, (hup k).trans h3, h4, h5⟩
  have hC' := hC I.nt
  refine callsIn_wide.1 (callsIn_of_wp (F := Fence.wide) (n := 0) hf hbody trivial ?_)
  rw [← ha']
  refine wpIn_mono (vc_sound hC' (par_sound hm hC') I.body 0 _ _ a' w E' none rfl rfl (.inr hnr) hdo hF hR') fun e a2 w2 ⟨⟨xe, st', e1, e2, η2, g2, H2⟩, _⟩ => ?_
  subst e1
  have fin : inlOut { c with nt := I.nt } I d B st K st' → a2.defers = [] ∧ ∃ v, (results fn a2.tmps).run E.P w2 = .ok v w2 ∧ ∃ v', Ending.returned v = .returned v' ∧ K' (a.put o.dst v') w2 := by
    intro e2
    unfold inlOut at e2
    split at e2
    case h_2 => exact e2.elim
    case h_1 s hs =>
    simp only [forceNs_eq, force_eq] at e2
    obtain ⟨fks, hfks⟩ : ∃ fks, fks = fixKs st' := ⟨_, rfl⟩
    rw [← hfks] at e2
    obtain ⟨v, hv, hsv⟩ : ∃ v, (results fn a2.tmps).run E.P w2 = .ok v w2 ∧ holdsV (vw E' η2 w2) η2 s v := by
      unfold svsOf at hs
      split at hs
      · rename_i hr
        simp only [Option.some.injEq] at hs
        subst hs
        exact ⟨.tuple #[], results_run (vs := []) (by rw [hrs, hr]; rfl), rfl⟩
      · rename_i r hr
        obtain ⟨v, k1, k2⟩ := svOf_sound (E := E') hC'.tbl H2 hs
        have k1 : (resVal a2.tmps r).run E.P w2 = .ok v w2 := k1
        exact ⟨v, results_run (vs := [v]) (by rw [hrs, hr]; simp [List.mapM_cons, k1]), k2⟩
      · cases hs
    refine ⟨g2.nd rfl, v, hv, v, rfl, ?_⟩
    rw [hd]
    refine hK _ _ _ e2 ?_
    obtain ⟨ηn, hnd⟩ : ∃ ηn : Eta, ∀ k, ηn k = bif Nat.blt k B then (bif oldK fks B (k + SH) then η2 (k + SH) else none) else (bif oldK fks B (k - B) then none else η2 (k - B)) := ⟨_, fun _ => rfl⟩
    have hout : ∀ K, ηn (outK fks B K) = η2 K := out_eta hnd
    have hηn : ∀ k b n, ηn k = some (b, n) → (k < B ∧ oldK fks B (k + SH) = true ∧ η2 (k + SH) = some (b, n)) ∨ (B ≤ k ∧ oldK fks B (k - B) = false ∧ η2 (k - B) = some (b, n)) := fun k b n h => by
      rw [hnd] at h
      cases hb : Nat.blt k B with
      | true =>
        rw [hb] at h
        simp only [cond_true] at h
        cases ho : oldK fks B (k + SH) with
        | true => rw [ho] at h; exact .inl ⟨blt_lt hb, rfl, h⟩
        | false => rw [ho] at h; cases h
      | false =>
        rw [hb] at h
        simp only [cond_false] at h
        have hle : B ≤ k := Nat.le_of_not_lt fun h => by rw [blt_yes h] at hb; cases hb
        cases ho : oldK fks B (k - B) with
        | true => rw [ho] at h; cases h
        | false => rw [ho] at h; exact .inr ⟨hle, rfl, h⟩
    have hη2 : ∀ k b n, ηn k = some (b, n) → ∃ K, η2 K = some (b, n) := fun k b n h => (hηn k b n h).elim (fun h => ⟨_, h.2.2⟩) (fun h => ⟨_, h.2.2⟩)
    have hold : ∀ b n K, b < w.heap.size → η2 K = some (b, n) → ∃ k n', η k = some (b, n') := fun b n K hb h => by
      obtain ⟨_, h⟩ := g2.own K b n h
      rcases h with (h | ⟨_, h⟩) | ⟨_, h⟩
      · have h : w.heap.size ≤ b := h
        omega
      · exact h
      · exact h
    have hfree : ∀ b, b < w.heap.size → (∀ k n, η k ≠ some (b, n)) → ∀ k n, ηn k ≠ some (b, n) := fun b hb h k n hk => by
      obtain ⟨K, hK⟩ := hη2 k b n hk
      obtain ⟨k', n', h'⟩ := hold b n K hb hK
      exact h k' n' h'
    have hstay : ∀ b, b < w.heap.size → (∀ k n, η k ≠ some (b, n)) → w2.heap[b]? = w.heap[b]? := fun b hb h => g2.keep b hb (fun hm => by obtain ⟨_, k, n, hk⟩ := hm; exact h k n hk) (fun hm => by obtain ⟨_, k, n, hk⟩ := hm; exact h k n hk)
    have hvo : ∀ b c, vw E η w b c → vw E ηn w2 b c := fun b c ⟨h1, h2, el, f, h3⟩ => ⟨h1, hfree b (lt_of_heap h3) h2, el, f, (hstay b (lt_of_heap h3) h2).trans h3⟩
    have hvn : ∀ b c, vw E' η2 w2 b c → vw E ηn w2 b c := fun b c ⟨h1, h2, h3⟩ => ⟨fun h => h1 (.inl h), fun k n hk => by obtain ⟨K, hK⟩ := hη2 k b n hk; exact h2 K n hK, h3⟩
    have hkept : ∀ k, keptK fks B k = true → ηn k = η k := fun k h => by
      simp only [keptK, Bool.and_eq_true] at h
      have hfx := (oldK_iff.1 h.2).1
      have hmem : Fact.fix (k + SH) ∈ st' := mem_fixKs (by rw [← hfks]; exact hfx)
      have hfx : η2 (k + SH) = η' (k + SH) := H2 _ hmem
      rw [hnd, h.1, h.2, cond_true, cond_true]
      exact hfx.trans (hup k)
    have hdsz : d < a.tmps.size := by rw [gd.size]; exact hdn
    have hlimd : d < 1000000 := Nat.lt_of_lt_of_le hdn gd.lim
    refine ⟨ηn, {
      size := by rw [← gd.size]; simp [Act.put]
      lim := gd.lim
      defers := ?_
      os := g2.os.trans gd.os
      tape := g2.tape.trans gd.tape
      output := g2.output.trans gd.output
      grow := Nat.le_trans gd.grow g2.grow
      keep := fun b hb h1 h2 => (g2.keep b (Nat.lt_of_lt_of_le hb gd.grow) (fun h => h1 h.1) (fun h => h.1.elim (fun h => absurd hb (Nat.not_lt_of_le h)) h2)).trans (gd.keep b hb h1 h2)
      own := fun k b n h => ?_
      dis := gd.dis
      inj := fun k k' b n n' h h' => ?_
      old := gd.old
      obkeep := fun b i o hb h1 h2 h3 => ?_
      nd := gd.nd }, fun f hf => ?_⟩
    · obtain ⟨⟨ms, h1, h2, h3⟩, h4⟩ := gd.defers
      exact ⟨⟨ms, h1, h2, fun D hD => by
        obtain ⟨k1, k2, k3⟩ := h3 D hD
        exact ⟨k1, (hstay D (lt_of_heap k2) k3).trans k2, hfree D (lt_of_heap k2) k3⟩⟩, fun p hp => by
        obtain ⟨k1, k2, k3⟩ := h4 p hp
        exact ⟨k1, (hstay _ (lt_of_heap k2) k3).trans k2, hfree _ (lt_of_heap k2) k3⟩⟩
    · obtain ⟨K, hK⟩ := hη2 k b n h
      obtain ⟨h1, h2⟩ := g2.own K b n hK
      exact ⟨h1, h2.imp (hlow b) (fun h => h.1)⟩
    · rcases hηn k b n h with ⟨h1, h2, h3⟩ | ⟨h1, h2, h3⟩ <;> rcases hηn k' b n' h' with ⟨k1, k2, k3⟩ | ⟨k1, k2, k3⟩
      · have := g2.inj _ _ b n n' h3 k3; omega
      · have := g2.inj _ _ b n n' h3 k3
        rw [this, k2] at h2; cases h2
      · have := g2.inj _ _ b n n' h3 k3
        rw [← this, h2] at k2; cases k2
      · have := g2.inj _ _ b n n' h3 k3; omega
    · obtain ⟨o', h4, h5⟩ := gd.obkeep b i o hb h1 h2 h3
      by_cases hk : ∃ k n, η k = some (b, n)
      · exact g2.obkeep b i o' (lt_of_heap h4) ⟨h1, hk⟩ h4 h5
      · exact ⟨o', (hstay b (lt_of_heap h4) fun k n h => hk ⟨k, n, h⟩).trans h4, h5⟩
    · rcases List.mem_cons.1 hf with rfl | hf
      · simp only [Fact.holds]
        rw [sval_put_eq hdsz hlimd]
        exact holdsV_mapK (h := fun _ => true) hvn (fun k _ => hout k) (SV.inK_true s) hsv
      rcases List.mem_append.1 hf with hf | hf
      · rcases mem_outSlots hf with ⟨t, s, rfl, h1, h2, h3⟩ | ⟨k, rfl, h1, h2⟩
        · have h := H _ h3
          simp only [Fact.holds] at h ⊢
          have e : sval (a.put (some d) v) t = sval a t := sval_congr (getD_put_ne h1)
          rw [e, ← SV.mapK_id s]
          exact holdsV_mapK (f := fun k => k) (h := keptK fks B) hvo (fun k hk => hkept k hk) h2 h
        · exact (hkept k h1).trans (H _ h2)
      · rcases mem_outMem hf with ⟨k, off, s, rfl, h2⟩ | ⟨k, el, e, xs, rfl, h2⟩ | ⟨k, i, rfl, h2⟩
        · obtain ⟨b, n, cur, el, v, h3, h4, h5, h6, h7, h8⟩ := H2 _ h2
          exact ⟨b, n, cur, el, v, hlow b h3, (hout k).trans h4, h5, h6, h7, holds1_mapK (h := fun _ => true) hvn (fun k _ => hout k) (S1.inK_true s) h8⟩
        · rcases H2 _ h2 with ⟨h3, h4⟩ | ⟨b, n, cur, h3, h4, h5, h6⟩
          · exact .inl ⟨(hout k).trans h3, h4⟩
          · exact .inr ⟨b, n, cur, hlow b h3, (hout k).trans h4, h5, h6.mono hvn⟩
        · obtain ⟨b, n, o, h3, h4, h5⟩ := H2 _ h2
          exact ⟨b, n, o, (hout k).trans h3, h4, h5⟩
  cases xe with
  | normal => exact fin e2
  | exit id => exact e2.elim
  | ret => exact fin e2
def Cfg.withInl (c : Cfg) (tbl : List (Nat × InlF)) : Cfg := { c with hk := inlHook c tbl }
theorem withInl_ok {P : Program} {OB : Nat → Obj → Prop} {c : Cfg} (hC : ∀ nt, CfgOk P OB { c with nt := nt }) (hm : P.follows .mixedOrders = true) {tbl : List (Nat × InlF)} (hT : InlOk P tbl) (nt : Nat) : CfgOk P OB { c.withInl tbl with nt := nt } where
  tbl := (hC nt).tbl
  eqs := (hC nt).eqs
  ctr := (hC nt).ctr
  ext := (hC nt).ext
  extb := (hC nt).extb
  obs := (hC nt).obs
  its := (hC nt).its
  ios := (hC nt).ios
  vas := (hC nt).vas
  hk := fun n => inl_sound hC hm hT n
end Go.Eng

namespace Go.Eng.Ar
open Go.Eng Go.Proofs
def RowsOk (P : Program) : TT → Prop
  | [] => True
  | (t, i) :: r => TIOk P t i ∧ RowsOk P r
theorem rowsOk_get {P : Program} : ∀ {tt : TT} {t : Nat} {i : TInfo}, RowsOk P tt → tt.get t = some i → TIOk P t i
  | [], _, _, _, h => by simp [TT.get] at h
  | (t', i') :: r, t, i, hr, h => by
    simp only [TT.get] at h
    cases hb : Nat.beq t' t with
    | true =>
      rw [hb] at h
      have := Nat.eq_of_beq_eq_true hb
      subst this
      simp only [cond_true, Option.some.injEq] at h
      subst h
      exact hr.1
    | false => rw [hb] at h; exact rowsOk_get hr.2 h
def i3 : TInfo := { kind := .int .i64, size := 1, bytes := 8, zero := .int .i64 0 }
theorem row3 : TIOk Tryz.prog 3 i3 := ⟨Tryz.underlying3, ⟨Tryz.t3, by kernel_rfl, by kernel_rfl, by kernel_rfl, by kernel_rfl⟩, rfl⟩
def i4 : TInfo := { kind := .bool, size := 1, bytes := 1, zero := .bool false }
theorem row4 : TIOk Tryz.prog 4 i4 := ⟨Tryz.underlying4, ⟨Tryz.t4, by kernel_rfl, by kernel_rfl, by kernel_rfl, by kernel_rfl⟩, rfl⟩
def i5 : TInfo := { kind := .int .u8, size := 1, bytes := 1, zero := .int .u8 0 }
theorem row5 : TIOk Tryz.prog 5 i5 := ⟨Tryz.underlying5, ⟨Tryz.t5, by kernel_rfl, by kernel_rfl, by kernel_rfl, by kernel_rfl⟩, rfl⟩
def i9 : TInfo := { kind := .str, size := 1, bytes := 16, zero := .string ByteArray.empty }
theorem row9 : TIOk Tryz.prog 9 i9 := ⟨Tryz.underlying9, ⟨Tryz.t9, by kernel_rfl, by kernel_rfl, by kernel_rfl, by kernel_rfl⟩, rfl⟩
def i23 : TInfo := { kind := .struct [(3, 0), (3, 1), (3, 2)], size := 3, bytes := 24, zero := .agg #[.int .i64 0, .int .i64 0, .int .i64 0] }
theorem row23 : TIOk Tryz.prog 23 i23 := ⟨⟨_, Tryz.underlying23, rfl⟩, ⟨Tryz.t23, by kernel_rfl, by kernel_rfl, by kernel_rfl, by kernel_rfl⟩, rfl⟩
def i25 : TInfo := { kind := .struct [(3, 0), (3, 1)], size := 2, bytes := 16, zero := .agg #[.int .i64 0, .int .i64 0] }
theorem row25 : TIOk Tryz.prog 25 i25 := ⟨⟨_, Tryz.underlying25, rfl⟩, ⟨Tryz.t25, by kernel_rfl, by kernel_rfl, by kernel_rfl, by kernel_rfl⟩, rfl⟩
def i28 : TInfo := { kind := .struct [(3, 0), (3, 1)], size := 2, bytes := 16, zero := .agg #[.int .i64 0, .int .i64 0] }
theorem row28 : TIOk Tryz.prog 28 i28 := ⟨⟨_, Tryz.underlying28, rfl⟩, ⟨Tryz.t28, by kernel_rfl, by kernel_rfl, by kernel_rfl, by kernel_rfl⟩, rfl⟩
def i29 : TInfo := { kind := .int .i64, size := 1, bytes := 8, zero := .int .i64 0 }
theorem row29 : TIOk Tryz.prog 29 i29 := ⟨Tryz.underlying29, ⟨Tryz.t29, by kernel_rfl, by kernel_rfl, by kernel_rfl, by kernel_rfl⟩, rfl⟩
def i39 : TInfo := { kind := .slice 53, size := 1, bytes := 24, zero := .slice none 0 0 }
theorem row39 : TIOk Tryz.prog 39 i39 := ⟨Tryz.underlying39, ⟨Tryz.t39, by kernel_rfl, by kernel_rfl, by kernel_rfl, by kernel_rfl⟩, rfl⟩
def i41 : TInfo := { kind := .struct [(3, 0), (3, 1), (39, 2)], size := 3, bytes := 40, zero := .agg #[.int .i64 0, .int .i64 0, .slice none 0 0] }
theorem row41 : TIOk Tryz.prog 41 i41 := ⟨⟨_, Tryz.underlying41, rfl⟩, ⟨Tryz.t41, by kernel_rfl, by kernel_rfl, by kernel_rfl, by kernel_rfl⟩, rfl⟩
def i53 : TInfo := { kind := .struct [(23, 0), (3, 3), (3, 4)], size := 5, bytes := 40, zero := .agg #[.int .i64 0, .int .i64 0, .int .i64 0, .int .i64 0, .int .i64 0] }
theorem row53 : TIOk Tryz.prog 53 i53 := ⟨⟨_, Tryz.underlying53, rfl⟩, ⟨Tryz.t53, by kernel_rfl, by kernel_rfl, by kernel_rfl, by kernel_rfl⟩, rfl⟩
def i59 : TInfo := { kind := .cpx .f64, size := 1, bytes := 16, zero := .complex .f64 0 0 }
theorem row59 : TIOk Tryz.prog 59 i59 := ⟨Tryz.underlying59, ⟨Tryz.t59, by kernel_rfl, by kernel_rfl, by kernel_rfl, by kernel_rfl⟩, rfl⟩
def i65 : TInfo := { kind := .slice 23, size := 1, bytes := 24, zero := .slice none 0 0 }
theorem row65 : TIOk Tryz.prog 65 i65 := ⟨Tryz.underlying65, ⟨Tryz.t65, by kernel_rfl, by kernel_rfl, by kernel_rfl, by kernel_rfl⟩, rfl⟩
def i66 : TInfo := { kind := .slice 76, size := 1, bytes := 24, zero := .slice none 0 0 }
theorem row66 : TIOk Tryz.prog 66 i66 := ⟨Tryz.underlying66, ⟨Tryz.t66, by kernel_rfl, by kernel_rfl, by kernel_rfl, by kernel_rfl⟩, rfl⟩
def i75 : TInfo := { kind := .struct [(66, 0), (3, 1)], size := 2, bytes := 32, zero := .agg #[.slice none 0 0, .int .i64 0] }
theorem row75 : TIOk Tryz.prog 75 i75 := ⟨⟨_, Tryz.underlying75, rfl⟩, ⟨Tryz.t75, by kernel_rfl, by kernel_rfl, by kernel_rfl, by kernel_rfl⟩, rfl⟩
def i76 : TInfo := { kind := .slice 3, size := 1, bytes := 24, zero := .slice none 0 0 }
theorem row76 : TIOk Tryz.prog 76 i76 := ⟨Tryz.underlying76, ⟨Tryz.t76, by kernel_rfl, by kernel_rfl, by kernel_rfl, by kernel_rfl⟩, rfl⟩
def i78 : TInfo := { kind := .struct [(3, 0), (76, 1)], size := 2, bytes := 32, zero := .agg #[.int .i64 0, .slice none 0 0] }
theorem row78 : TIOk Tryz.prog 78 i78 := ⟨⟨_, Tryz.underlying78, rfl⟩, ⟨Tryz.t78, by kernel_rfl, by kernel_rfl, by kernel_rfl, by kernel_rfl⟩, rfl⟩
def i81 : TInfo := { kind := .struct [(3, 0), (76, 1), (76, 2), (76, 3)], size := 4, bytes := 80, zero := .agg #[.int .i64 0, .slice none 0 0, .slice none 0 0, .slice none 0 0] }
theorem row81 : TIOk Tryz.prog 81 i81 := ⟨⟨_, Tryz.underlying81, rfl⟩, ⟨Tryz.t81, by kernel_rfl, by kernel_rfl, by kernel_rfl, by kernel_rfl⟩, rfl⟩
def i82 : TInfo := { kind := .array 2 3, size := 2, bytes := 16, zero := .agg #[.int .i64 0, .int .i64 0] }
theorem row82 : TIOk Tryz.prog 82 i82 := ⟨Tryz.underlying82, ⟨Tryz.t82, by kernel_rfl, by kernel_rfl, by kernel_rfl, by kernel_rfl⟩, rfl⟩
def i92 : TInfo := { kind := .array 2 28, size := 4, bytes := 32, zero := .agg #[.int .i64 0, .int .i64 0, .int .i64 0, .int .i64 0] }
theorem row92 : TIOk Tryz.prog 92 i92 := ⟨Tryz.underlying92, ⟨Tryz.t92, by kernel_rfl, by kernel_rfl, by kernel_rfl, by kernel_rfl⟩, rfl⟩
def i113 : TInfo := { kind := .struct [(78, 0), (81, 2)], size := 6, bytes := 112, zero := .agg #[.int .i64 0, .slice none 0 0, .int .i64 0, .slice none 0 0, .slice none 0 0, .slice none 0 0] }
theorem row113 : TIOk Tryz.prog 113 i113 := ⟨⟨_, Tryz.underlying113, rfl⟩, ⟨Tryz.t113, by kernel_rfl, by kernel_rfl, by kernel_rfl, by kernel_rfl⟩, rfl⟩
def i118 : TInfo := { kind := .slice 82, size := 1, bytes := 24, zero := .slice none 0 0 }
theorem row118 : TIOk Tryz.prog 118 i118 := ⟨Tryz.underlying118, ⟨Tryz.t118, by kernel_rfl, by kernel_rfl, by kernel_rfl, by kernel_rfl⟩, rfl⟩
def i132 : TInfo := { kind := .struct [(23, 0), (23, 3)], size := 6, bytes := 48, zero := .agg #[.int .i64 0, .int .i64 0, .int .i64 0, .int .i64 0, .int .i64 0, .int .i64 0] }
theorem row132 : TIOk Tryz.prog 132 i132 := ⟨⟨_, Tryz.underlying132, rfl⟩, ⟨Tryz.t132, by kernel_rfl, by kernel_rfl, by kernel_rfl, by kernel_rfl⟩, rfl⟩
def i141 : TInfo := { kind := .ptr 53, size := 1, bytes := 8, zero := .pointer none }
theorem row141 : TIOk Tryz.prog 141 i141 := ⟨Tryz.underlying141, ⟨Tryz.t141, by kernel_rfl, by kernel_rfl, by kernel_rfl, by kernel_rfl⟩, rfl⟩
def i143 : TInfo := { kind := .slice 147, size := 1, bytes := 24, zero := .slice none 0 0 }
theorem row143 : TIOk Tryz.prog 143 i143 := ⟨Tryz.underlying143, ⟨Tryz.t143, by kernel_rfl, by kernel_rfl, by kernel_rfl, by kernel_rfl⟩, rfl⟩
def i147 : TInfo := { kind := .struct [(53, 0), (28, 5), (28, 7)], size := 9, bytes := 72, zero := .agg #[.int .i64 0, .int .i64 0, .int .i64 0, .int .i64 0, .int .i64 0, .int .i64 0, .int .i64 0, .int .i64 0, .int .i64 0] }
theorem row147 : TIOk Tryz.prog 147 i147 := ⟨⟨_, Tryz.underlying147, rfl⟩, ⟨Tryz.t147, by kernel_rfl, by kernel_rfl, by kernel_rfl, by kernel_rfl⟩, rfl⟩
def i150 : TInfo := { kind := .array 2 3, size := 2, bytes := 16, zero := .agg #[.int .i64 0, .int .i64 0] }
theorem row150 : TIOk Tryz.prog 150 i150 := ⟨Tryz.underlying150, ⟨Tryz.t150, by kernel_rfl, by kernel_rfl, by kernel_rfl, by kernel_rfl⟩, rfl⟩
def i152 : TInfo := { kind := .flt .f64, size := 1, bytes := 8, zero := .float .f64 0 }
theorem row152 : TIOk Tryz.prog 152 i152 := ⟨Tryz.underlying152, ⟨Tryz.t152, by kernel_rfl, by kernel_rfl, by kernel_rfl, by kernel_rfl⟩, rfl⟩
def i164 : TInfo := { kind := .int .u64, size := 1, bytes := 8, zero := .int .u64 0 }
theorem row164 : TIOk Tryz.prog 164 i164 := ⟨Tryz.underlying164, ⟨Tryz.t164, by kernel_rfl, by kernel_rfl, by kernel_rfl, by kernel_rfl⟩, rfl⟩
def i176 : TInfo := { kind := .slice 9, size := 1, bytes := 24, zero := .slice none 0 0 }
theorem row176 : TIOk Tryz.prog 176 i176 := ⟨Tryz.underlying176, ⟨Tryz.t176, by kernel_rfl, by kernel_rfl, by kernel_rfl, by kernel_rfl⟩, rfl⟩
def i186 : TInfo := { kind := .slice 29, size := 1, bytes := 24, zero := .slice none 0 0 }
theorem row186 : TIOk Tryz.prog 186 i186 := ⟨Tryz.underlying186, ⟨Tryz.t186, by kernel_rfl, by kernel_rfl, by kernel_rfl, by kernel_rfl⟩, rfl⟩
def i192 : TInfo := { kind := .slice 222, size := 1, bytes := 24, zero := .slice none 0 0 }
theorem row192 : TIOk Tryz.prog 192 i192 := ⟨Tryz.underlying192, ⟨Tryz.t192, by kernel_rfl, by kernel_rfl, by kernel_rfl, by kernel_rfl⟩, rfl⟩
def i194 : TInfo := { kind := .struct [(3, 0), (3, 1), (192, 2)], size := 3, bytes := 40, zero := .agg #[.int .i64 0, .int .i64 0, .slice none 0 0] }
theorem row194 : TIOk Tryz.prog 194 i194 := ⟨⟨_, Tryz.underlying194, rfl⟩, ⟨Tryz.t194, by kernel_rfl, by kernel_rfl, by kernel_rfl, by kernel_rfl⟩, rfl⟩
def i197 : TInfo := { kind := .struct [(76, 0), (3, 1), (76, 2), (3, 3)], size := 4, bytes := 64, zero := .agg #[.slice none 0 0, .int .i64 0, .slice none 0 0, .int .i64 0] }
theorem row197 : TIOk Tryz.prog 197 i197 := ⟨⟨_, Tryz.underlying197, rfl⟩, ⟨Tryz.t197, by kernel_rfl, by kernel_rfl, by kernel_rfl, by kernel_rfl⟩, rfl⟩
def i206 : TInfo := { kind := .struct [(3, 0), (3, 1)], size := 2, bytes := 16, zero := .agg #[.int .i64 0, .int .i64 0] }
theorem row206 : TIOk Tryz.prog 206 i206 := ⟨⟨_, Tryz.underlying206, rfl⟩, ⟨Tryz.t206, by kernel_rfl, by kernel_rfl, by kernel_rfl, by kernel_rfl⟩, rfl⟩
def i210 : TInfo := { kind := .slice 5, size := 1, bytes := 24, zero := .slice none 0 0 }
theorem row210 : TIOk Tryz.prog 210 i210 := ⟨Tryz.underlying210, ⟨Tryz.t210, by kernel_rfl, by kernel_rfl, by kernel_rfl, by kernel_rfl⟩, rfl⟩
def i215 : TInfo := { kind := .iface, size := 1, bytes := 16, zero := .nilIface }
theorem row215 : TIOk Tryz.prog 215 i215 := ⟨⟨_, Tryz.underlying215⟩, ⟨Tryz.t215, by kernel_rfl, by kernel_rfl, by kernel_rfl, by kernel_rfl⟩, rfl⟩
def i222 : TInfo := { kind := .struct [(76, 0), (3, 1)], size := 2, bytes := 32, zero := .agg #[.slice none 0 0, .int .i64 0] }
theorem row222 : TIOk Tryz.prog 222 i222 := ⟨⟨_, Tryz.underlying222, rfl⟩, ⟨Tryz.t222, by kernel_rfl, by kernel_rfl, by kernel_rfl, by kernel_rfl⟩, rfl⟩
def i248 : TInfo := { kind := .int .u64, size := 1, bytes := 8, zero := .int .u64 0 }
theorem row248 : TIOk Tryz.prog 248 i248 := ⟨Tryz.underlying248, ⟨Tryz.t248, by kernel_rfl, by kernel_rfl, by kernel_rfl, by kernel_rfl⟩, rfl⟩
def tt : TT := [(3, i3), (4, i4), (5, i5), (9, i9), (23, i23), (25, i25), (28, i28), (29, i29), (39, i39), (41, i41), (53, i53), (59, i59), (65, i65), (66, i66), (75, i75), (76, i76), (78, i78), (81, i81), (82, i82), (92, i92), (113, i113), (118, i118), (132, i132), (141, i141), (143, i143), (147, i147), (150, i150), (152, i152), (164, i164), (176, i176), (186, i186), (192, i192), (194, i194), (197, i197), (206, i206), (210, i210), (215, i215), (222, i222), (248, i248)]
theorem rows : RowsOk Tryz.prog tt := ⟨row3, row4, row5, row9, row23, row25, row28, row29, row39, row41, row53, row59, row65, row66, row75, row76, row78, row81, row82, row92, row113, row118, row132, row141, row143, row147, row150, row152, row164, row176, row186, row192, row194, row197, row206, row210, row215, row222, row248, trivial⟩
theorem tbl : TblOk Tryz.prog tt := ⟨fun _ _ h => rowsOk_get rows h, by kernel_rfl⟩
end Go.Eng.Ar

namespace Go.Eng.Ar
open Go.Eng Go.Proofs
set_option linter.all false
theorem zB : (∀ {α β : Type} {a c : α} {b d : β}, ((a, b) = (c, d)) = (a = c ∧ b = d)) ∧ ((!true) = false) ∧ ((!false) = true) ∧ (∀ {b : Bool}, (true = b) = (b = true)) ∧ (∀ {p : Prop} [Decidable p], (decide p = true) = p) ∧ (∀ {p : Prop} [Decidable p], decide p = false ↔ ¬p) ∧ (∀ (b : Bool), ((!b) = true) = (b = false)) ∧ (∀ (b : Bool), ((!b) = false) = (b = true)) ∧ (∀ (a b : Bool), ((a && b) = true) = (a = true ∧ b = true)) ∧ (∀ (p : Prop), (p ∧ True) = p) ∧ (∀ (p : Prop), (True ∧ p) = p) ∧ (∀ {a b : Int}, ¬a < b ↔ b ≤ a) ∧ (∀ {a b : Int}, ¬a ≤ b ↔ b < a) ∧ (∀ {α : Type} [LT α] {a b : α}, a > b ↔ b < a) ∧ (∀ {α : Type} [LE α] {a b : α}, a ≥ b ↔ b ≤ a) :=
  ⟨Prod.mk.injEq _ _ _ _, Bool.not_true, Bool.not_false, Bool.true_eq _, decide_eq_true_eq, decide_eq_false_iff_not, Bool.not_eq_true', Bool.not_eq_false', Bool.and_eq_true, and_true, true_and, Int.not_lt, Int.not_le, gt_iff_lt, ge_iff_le⟩
abbrev I64 : Ty := .int .i64
abbrev F64 : Ty := .flt .f64
abbrev C128 : Ty := .cpx .f64
abbrev PairT : Ty := .cons I64 (.cons I64 .nil)
abbrev RangeT : Ty := PairT
abbrev EndsT : Ty := .cons RangeT (.cons RangeT .nil)
abbrev PlaceT : Ty := .cons I64 (.cons I64 (.cons I64 .nil))
abbrev SpkT : Ty := .cons PlaceT (.cons I64 (.cons I64 .nil))
abbrev ArrT : Ty := .cons I64 (.cons I64 (.cons (.sl SpkT) .nil))
abbrev WayT : Ty := .cons PlaceT (.cons PlaceT .nil)
abbrev RayT : Ty := .cons SpkT (.cons RangeT (.cons RangeT .nil))
abbrev TaskT : Ty := .cons (.sl (.sl I64)) (.cons I64 .nil)
abbrev OpenT : Ty := .cons I64 (.cons (.sl I64) .nil)
abbrev WeightsT : Ty := .cons I64 (.cons (.sl I64) (.cons (.sl I64) (.cons (.sl I64) .nil)))
abbrev BoundT : Ty := .cons (.sl I64) (.cons I64 .nil)
abbrev ProgT : Ty := .cons I64 (.cons I64 (.cons (.sl BoundT) .nil))
abbrev CornerT : Ty := .cons (.sl I64) (.cons I64 (.cons (.sl I64) (.cons I64 .nil)))
abbrev sI (t : Nat) (n : Int) : Fact := .slot t (.one (.d I64 n))
abbrev sB (t : Nat) (b : Bool) : Fact := .slot t (.one (.d .bool b))
abbrev cI (k off : Nat) (n : Int) : Fact := .cell k off (.d I64 n)
theorem eqF_int (w : World) (d : Nat) (xs ys : Array Value) (nm tag pk : String) (off bo : Nat) (e : Bool) (r : List Field) {x y : Int} (hn : nm ≠ "_") (hx : xs[off]? = some (.int .i64 x)) (hy : ys[off]? = some (.int .i64 y)) :
    (Op.eqFields (d + 1) xs ys (⟨nm, 3, off, e, tag, pk, bo⟩ :: r)).run Tryz.prog w = if x = y then (Op.eqFields (d + 1) xs ys r).run Tryz.prog w else .ok false w := by
  have p1 : (part 3 xs off).run Tryz.prog w = .ok (.int .i64 x) w := by rw [run_part row3, hx]; rfl
  have p2 : (part 3 ys off).run Tryz.prog w = .ok (.int .i64 y) w := by rw [run_part row3, hy]; rfl
  have p3 := run_equalIn_int (P := Tryz.prog) w d 3 .i64 .i64 x y Tryz.underlying3
  simp only [Op.eqFields]
  rw [if_pos hn]
  simp only [Sem.run_bind, p1, p2, p3, Result.andThen_ok]
  by_cases h : x = y
  · simp [h]
  · simp [h]
theorem eqOf {t : Nat} {ty : Ty} (hg : Tryz.prog.eqGuardType Tryz.prog.depth t = false)
    (hE : ∀ (w : World) (V : View) (x y : ty.Den) (l m : List Value), Rep V ty x l → Rep V ty y m → (Op.equalIn 10000 t (.agg l.toArray) (.agg m.toArray)).run Tryz.prog w = .ok (ty.beq x y) w) : EqOk Tryz.prog t ty := by
  intro w V x y l m o p hx hy
  refine ⟨fun op => run_eqGuard_agg w op t o p _ _ hg, ?_, ?_⟩
  · rw [run_eql_struct, hE w V x y l m hx hy]; rfl
  · rw [run_neq_struct, hE w V x y l m hx hy]; rfl
theorem eq82 : EqOk Tryz.prog 82 PairT := by
  refine eqOf (by kernel_rfl) fun w V x y l m hx hy => ?_
  obtain ⟨l1, l2, rfl, h1, l3, l4, rfl, h2, h3⟩ := hx
  obtain ⟨m1, m2, rfl, g1, m3, m4, rfl, g2, g3⟩ := hy
  obtain ⟨x1, x2, u⟩ := x
  obtain ⟨y1, y2, u'⟩ := y
  subst h1 h2 h3 g1 g2 g3
  obtain ⟨ti, hi, _⟩ := row3.info
  have hc : Tryz.prog.cellsOf 3 = 1 := by kernel_rfl
  have p1 : (part 3 #[.int .i64 x1, .int .i64 x2] 0).run Tryz.prog w = .ok (.int .i64 x1) w := by rw [run_part row3]; rfl
  have p2 : (part 3 #[.int .i64 y1, .int .i64 y2] 0).run Tryz.prog w = .ok (.int .i64 y1) w := by rw [run_part row3]; rfl
  have p3 : (part 3 #[.int .i64 x1, .int .i64 x2] 1).run Tryz.prog w = .ok (.int .i64 x2) w := by rw [run_part row3]; rfl
  have p4 : (part 3 #[.int .i64 y1, .int .i64 y2] 1).run Tryz.prog w = .ok (.int .i64 y2) w := by rw [run_part row3]; rfl
  rw [run_equalIn_array w 9999 _ _ (show Tryz.prog.underlying 82 = some (.array 2 3) from row82.desc) hi, hc, show List.range 2 = [0, 1] from rfl]
  show (Op.eqItems 9999 3 1 #[.int .i64 x1, .int .i64 x2] #[.int .i64 y1, .int .i64 y2] [0, 1]).run Tryz.prog w = _
  simp only [Op.eqItems, Sem.run_bind, Nat.zero_mul, Nat.one_mul, p1, p2, p3, p4, Result.andThen_ok, run_equalIn_int w 9998 3 .i64 .i64 _ _ Tryz.underlying3]
  simp only [Ty.beq, Bool.and_true]
  by_cases e1 : x1 = y1
  · subst e1
    by_cases e2 : x2 = y2
    · subst e2
      simp [Sem.run_bind, p3, p4, run_equalIn_int w 9998 3 .i64 .i64 _ _ Tryz.underlying3]
    · simp [e2, Sem.run_bind, p3, p4, run_equalIn_int w 9998 3 .i64 .i64 _ _ Tryz.underlying3]
  · simp [e1]
theorem eq28 : EqOk Tryz.prog 28 RangeT := by
  refine eqOf Tryz.eqGuardType28 fun w V x y l m hx hy => ?_
  obtain ⟨l1, l2, rfl, h1, l3, l4, rfl, h2, h4⟩ := hx
  obtain ⟨m1, m2, rfl, g1, m3, m4, rfl, g2, g4⟩ := hy
  obtain ⟨x1, x2, u⟩ := x
  obtain ⟨y1, y2, u'⟩ := y
  subst h1 h2 h4 g1 g2 g4
  have hS : Tryz.prog.fieldsOf 28 = #[⟨"Lo", 3, 0, false, "", "", 0⟩, ⟨"Hi", 3, 1, false, "", "", 8⟩] := by kernel_rfl
  rw [run_equalIn_struct w 9999 28 _ _ (by rw [Tryz.underlying28, hS]) Tryz.stoodInHeld28, hS]
  rw [eqF_int w 9998 _ _ "Lo" "" "" 0 0 false _ (by decide) (x := x1) (y := y1) rfl rfl, eqF_int w 9998 _ _ "Hi" "" "" 1 8 false _ (by decide) (x := x2) (y := y2) rfl rfl]
  simp only [Ty.beq, Op.eqFields, Sem.run_pure, Bool.and_true]
  by_cases e1 : x1 = y1 <;> by_cases e2 : x2 = y2 <;> simp [e1, e2]
theorem eqsOk : ∀ t ∈ ([28, 82] : List Nat), ∀ ty, tyOf tt 20 t = some ty → EqOk Tryz.prog t ty := by
  intro t ht ty h
  have h28 : tyOf tt 20 28 = some RangeT := by kernel_rfl
  have h82 : tyOf tt 20 82 = some PairT := by kernel_rfl
  simp only [List.mem_cons, List.not_mem_nil, or_false] at ht
  rcases ht with rfl | rfl
  · rw [h28] at h; cases h; exact eq28
  · rw [h82] at h; cases h; exact eq82
theorem ext166 : ∃ fn, Tryz.prog.funcs[166]? = some fn ∧ (fn.name == "runtime.NumGoroutine") = false ∧ fn.body.isNone = true ∧ Extern.findNext fn = none ∧ Extern.find fn = some Extern.MathSqrt.sqrt :=
  ⟨Tryz.f166, Tryz.func166, by kernel_rfl, by kernel_rfl, by kernel_rfl, by kernel_rfl⟩
def OB (_ : Nat) (_ : Obj) : Prop := False
def Ok (f : Nat) (sp : Spec) : Prop := Holds Tryz.prog OB f sp ∧ Enters Tryz.prog f
def All : List (Nat × Spec) → Prop
  | [] => True
  | p :: r => Ok p.1 p.2 ∧ All r
theorem all_get : ∀ {ctr : List (Nat × Spec)} {f : Nat} {sp : Spec}, All ctr → getSpec f ctr = some sp → Ok f sp
  | [], _, _, _, h => by simp [getSpec] at h
  | (g, s) :: r, f, sp, ha, h => by
    simp only [getSpec] at h
    cases hb : Nat.beq g f with
    | true =>
      rw [hb] at h
      have := Nat.eq_of_beq_eq_true hb
      subst this
      simp only [cond_true, Option.some.injEq] at h
      subst h
      exact ha.1
    | false => rw [hb] at h; exact all_get ha.2 h
structure Xt where
  its : List (Nat × ISpec) := []
  clos : List (Nat × List Ty) := []
  fuel : Nat := 0
@[reducible] def cfg (X : Xt) (ctr : List (Nat × Spec)) (nt : Nat) : Cfg := { tt := tt, eqs := [28, 82], ctr := ctr, nt := nt, ext := [166], extb := [(110, .f64)], its := X.its, clos := X.clos, fuel := X.fuel }
def bodyOf (f : Func) : Code := match f.body with | some b => b | none => .skip
def Its : List (Nat × ISpec) → Prop
  | [] => True
  | p :: r => (IHolds Tryz.prog p.1 p.2 ∧ Enters Tryz.prog p.1) ∧ Its r
theorem its_get : ∀ {l : List (Nat × ISpec)} {g : Nat} {sp : ISpec}, Its l → getIt g l = some sp → IHolds Tryz.prog g sp ∧ Enters Tryz.prog g
  | [], _, _, _, h => by simp [getIt] at h
  | (g, s) :: r, f, sp, ha, h => by
    simp only [getIt] at h
    cases hb : Nat.beq g f with
    | true =>
      rw [hb] at h
      have := Nat.eq_of_beq_eq_true hb
      subst this
      simp only [cond_true, Option.some.injEq] at h
      subst h
      exact ha.1
    | false => rw [hb] at h; exact its_get ha.2 h
theorem mixed : Tryz.prog.follows .mixedOrders = true := by kernel_rfl
theorem extOk (f : Nat) (k : FloatKind) (h : getEx f [(110, .f64)] = some k) : ∃ fn F, Tryz.prog.funcs[f]? = some fn ∧ (fn.name == "runtime.NumGoroutine") = false ∧ fn.body.isNone = true ∧ Extern.findNext fn = none ∧ Extern.find fn = some F ∧
    ∀ (n : Nat) w, (F #[.float k n]).run Tryz.prog w = .ok (.int (bitK k) n) w := by
  simp only [getEx] at h
  cases h1 : Nat.beq 110 f with
  | true =>
    rw [h1] at h
    have := Nat.eq_of_beq_eq_true h1
    subst this
    simp only [cond_true, Option.some.injEq] at h
    subst h
    exact ⟨Tryz.f110, Extern.MathFloatBits.float64bits, Tryz.func110, by kernel_rfl, by kernel_rfl, by kernel_rfl, by kernel_rfl, fun n w => rfl⟩
  | false => rw [h1] at h; simp at h
theorem cfgOk {X : Xt} (hX : Its X.its) {ctr : List (Nat × Spec)} {nt : Nat} (h : All ctr) : CfgOk Tryz.prog OB (cfg X ctr nt) where
  tbl := tbl
  eqs := eqsOk
  ctr := fun f sp hf => all_get h hf
  ext := fun f hf => by
    have : f = 166 := by simpa [memN_iff] using hf
    subst this
    exact ext166
  extb := extOk
  obs := fun t i hi => by simp [obOf] at hi
  its := fun g isp h => its_get hX h
theorem mkX {X : Xt} (hX : Its X.its) {ctr : List (Nat × Spec)} (hctr : All ctr) {f nt : Nat} {fn : Func} {sp : Spec} (hf : Tryz.prog.funcs[f]? = some fn) (hb : fn.body = some (bodyOf fn)) (hnt : fn.ntmps = nt) (hps : (Nat.ble sp.pats.length nt && Nat.ble nt 1000000) = true)
    (hob : Nat.ble (obCount sp.pats) 1 = true) (hd : dstOk nt (bodyOf fn) = true) (hn : (fn.name == "runtime.NumGoroutine") = false) (anns : (argTy sp.pats).Den → List (St → LoopAnn))
    (h : ∀ x, sp.pre x → bodyVC (cfg X ctr nt) (par (cfg X ctr nt)) (anns x) fn.results.toList (bodyOf fn) sp x) : Ok f sp :=
  ⟨fn_sound (cfgOk hX hctr) (par_sound mixed (cfgOk hX hctr)) hf hb hnt (Nat.le_of_ble_eq_true (Bool.and_eq_true _ _ ▸ hps : _ ∧ _).1) (Nat.le_of_ble_eq_true (Bool.and_eq_true _ _ ▸ hps : _ ∧ _).2) (Nat.le_of_ble_eq_true hob) rfl hd anns h, fn, hf, hn, by rw [hb]; rfl⟩
theorem mk {ctr : List (Nat × Spec)} (hctr : All ctr) {f nt : Nat} {fn : Func} {sp : Spec} (hf : Tryz.prog.funcs[f]? = some fn) (hb : fn.body = some (bodyOf fn)) (hnt : fn.ntmps = nt) (hps : (Nat.ble sp.pats.length nt && Nat.ble nt 1000000) = true)
    (hob : Nat.ble (obCount sp.pats) 1 = true) (hd : dstOk nt (bodyOf fn) = true) (hn : (fn.name == "runtime.NumGoroutine") = false) (anns : (argTy sp.pats).Den → List (St → LoopAnn))
    (h : ∀ x, sp.pre x → bodyVC (cfg {} ctr nt) (par (cfg {} ctr nt)) (anns x) fn.results.toList (bodyOf fn) sp x) : Ok f sp := mkX (X := {}) True.intro hctr hf hb hnt hps hob hd hn anns h
end Go.Eng.Ar

namespace Go.Eng.Ar
open Go.Eng Go.Proofs Go.Lib
set_option linter.all false
set_option maxRecDepth 100000
set_option maxHeartbeats 8000000
abbrev PowT : Ty := chain (List.replicate 20 (.int .u64))
def powD : PowT.Den := ((1 : Int), (10 : Int), (100 : Int), (1000 : Int), (10000 : Int), (100000 : Int), (1000000 : Int), (10000000 : Int), (100000000 : Int), (1000000000 : Int), (10000000000 : Int), (100000000000 : Int), (1000000000000 : Int), (10000000000000 : Int), (100000000000000 : Int), (1000000000000000 : Int), (10000000000000000 : Int), (100000000000000000 : Int), (1000000000000000000 : Int), (10000000000000000000 : Int), ())
theorem rep_ints {V : View} {k : IntKind} : ∀ (n : Nat) (x : (chain (List.replicate n (.int k))).Den) (l : List Value), Rep V (chain (List.replicate n (.int k))) x l → l = (chL (.int k) n x).map (Value.int k)
  | 0, _, l, h => h
  | n + 1, x, l, h => by
    obtain ⟨l1, l2, rfl, h1, h2⟩ := h
    have h1 : l1 = [.int k x.1] := h1
    rw [h1, rep_ints n x.2 l2 h2]
    rfl
theorem rep_pow {V : View} {l : List Value} (h : Rep V PowT powD l) : l = pow10Tab.map (Value.int .u64) := by
  rw [rep_ints 20 powD l h]
  have : chL (.int .u64) 20 powD = pow10Tab := by decide +kernel
  rw [this]
theorem xv_int {V : View} {k : IntKind} {n : Int} {v : Value} (h : RepV V (.int k) n v) : v = .int k n := by
  obtain ⟨l, h1, ⟨h2, _⟩ | ⟨_, h2⟩⟩ := h
  · cases h2
  · have h1 : l = [.int k n] := h1
    rw [h1] at h2; simpa using h2.symm
theorem xv_str {V : View} {s : ByteArray} {v : Value} (h : RepV V .str s v) : v = .string s := by
  obtain ⟨l, h1, ⟨h2, _⟩ | ⟨_, h2⟩⟩ := h
  · cases h2
  · have h1 : l = [.string s] := h1
    rw [h1] at h2; simpa using h2.symm
theorem xpost_same {OB : Nat → Obj → Prop} {w : World} : CPost OB w w [] := ⟨rfl, rfl, rfl, Nat.le_refl _, fun _ _ _ => rfl, fun _ h => by cases h⟩
theorem post_bytes {OB : Nat → Obj → Prop} {w : World} {e : TypeId} {t : ByteArray} : CPost OB w (bytesWorld w e t) [] := by
  refine ⟨rfl, rfl, rfl, ?_, fun b hb _ => bytesWorld_at_old w e t b hb, fun _ h => by cases h⟩
  simp [bytesWorld, World.freeze, World.alloc, World.drew, -World.alloc_eq, -World.drew_eq]
theorem post_below {OB : Nat → Obj → Prop} {w w' : World} (h : RowKit.Below w.heap.size w w') : CPost OB w w' [] :=
  ⟨h.os, h.tape, h.output, h.size, fun b hb _ => h.block b hb, fun _ h => by cases h⟩
@[reducible] def sItoa : Spec := { pats := [.dat I64, .gw 2 PowT], res := [{ t := .str }], pre := fun x => (-9223372036854775808 ≤ x.1 ∧ x.1 ≤ 9223372036854775807) ∧ x.2.1 = powD, f := fun x => (bA (itoa x.1), ()) }
theorem hItoa : Ok 125 sItoa := by
  refine ⟨?_, Tryz.f125, Tryz.func125, by kernel_rfl, by kernel_rfl⟩
  rintro w M ⟨(n : Int), (x : PowT.Den), _⟩ vs bs hM ⟨v, vs', rfl, hv, ⟨c, el, f, h1, h2, h3, h4⟩, rfl, rfl⟩ ⟨⟨(hn0 : -9223372036854775808 ≤ n), (hn1 : n ≤ 9223372036854775807)⟩, (hx : x = powD)⟩
  obtain rfl := xv_int hv
  subst hx
  have hc := rep_pow h4
  refine (Any.strconv_Itoa Tryz.laysM171 n hn0 hn1 w ?_).mono ?_
  · unfold Lib.TabIs World.var?
    rw [show Tryz.prog.globalNamed _ = some 2 from by kernel_rfl]
    simp only [Option.bind_some, h1]
    congr 1
    exact Array.toList_inj.1 (by rw [hc])
  rintro e w' ⟨rfl, k, os, rfl⟩
  refine ⟨[.string _], none, rfl, ⟨rfl, rfl, rfl, (by show w.heap.size ≤ (w.heap ++ os).size; simp), fun b hb _ => ?_, fun _ h => by cases h⟩, _, _, rfl, RepV.mk1 rfl rfl, rfl, rfl⟩
  show (w.heap ++ os)[b]? = w.heap[b]?
  exact Array.getElem?_append_left hb
def atoiR (l : List UInt8) : Int × Bool × Unit := match atoiAll l with
  | .ok v => (v, false, ())
  | .range => (atoiSat l, true, ())
  | _ => (0, true, ())
theorem err_cell {V : View} {w : World} {M : Nat → Prop} {g : Nat} {b : Bool} (h : ∃ c el f, w.heap[g]? = some (.cells c el f) ∧ ¬ M g ∧ c.size = Ty.size .err ∧ Rep V .err b c.toList) :
    ∃ ev, w.cell? ⟨g, 0, none⟩ = some ev ∧ (ev = .nilIface ∨ ∃ te pe, ev = .iface te pe) := by
  obtain ⟨c, el, f, h1, _, _, h4⟩ := h
  have key : ∀ ev, c.toList = [ev] → w.cell? ⟨g, 0, none⟩ = some ev := fun ev he => by
    rw [cell_of h1, ← Array.getElem?_toList, he]; rfl
  rcases h4 with ⟨_, h5⟩ | ⟨_, t, u, h5⟩
  · exact ⟨_, key _ h5, .inl rfl⟩
  · exact ⟨_, key _ h5, .inr ⟨t, u, rfl⟩⟩
@[reducible] def sAtoi : Spec := { pats := [.dat .str, .gw 3 .err, .gw 4 .err], res := [{ t := I64 }, { t := .err }], pre := fun x => x.1.size ≤ 1000000, f := fun x => atoiR (bL x.1) }
theorem hAtoi : Ok 159 sAtoi := by
  refine ⟨?_, Tryz.f159, Tryz.func159, by kernel_rfl, by kernel_rfl⟩
  rintro w M ⟨(s : ByteArray), (b0 : Bool), (b1 : Bool), _⟩ vs bs hM ⟨v, vs', rfl, hv, g0, g1, rfl, rfl⟩ (hs : s.size ≤ 1000000)
  obtain rfl := xv_str hv
  obtain ⟨e0, hv0, he0⟩ := err_cell g0
  obtain ⟨e1, hv1, he1⟩ := err_cell g1
  cases hr : atoiAll s.data.toList with
  | ok n =>
    refine (Tryz.strconv_Atoi_ok s (by omega) n hr w).mono ?_
    rintro e w' ⟨rfl, hw⟩
    have hf : sAtoi.f (s, b0, b1, ()) = (n, false, ()) := by show atoiR s.data.toList = _; simp only [atoiR, hr]
    rw [hf]
    refine ⟨[.int .i64 n, .nilIface], none, rfl, ?_, _, _, rfl, RepV.mk1 rfl rfl, _, _, rfl, RepV.mk1 rfl (.inl ⟨rfl, rfl⟩), rfl, rfl⟩
    rcases hw with rfl | ⟨t, rfl⟩
    · exact xpost_same
    · exact post_bytes
  | range =>
    refine (Tryz.strconv_Atoi_range s (by omega) hr e1 w hv1 he1).mono ?_
    rintro e w' ⟨N, rfl, hN, hN2, hB⟩
    have hf : sAtoi.f (s, b0, b1, ()) = (atoiSat s.data.toList, true, ()) := by show atoiR s.data.toList = _; simp only [atoiR, hr]
    rw [hf]
    refine ⟨[.int .i64 _, .iface 252 (.pointer (some ⟨N, 0, none⟩))], none, rfl, post_below hB, _, _, rfl, RepV.mk1 rfl rfl, _, _, rfl, RepV.mk1 rfl (.inr ⟨rfl, _, _, rfl⟩), rfl, rfl⟩
  | _ =>
    refine (Tryz.strconv_Atoi_syntax s (by omega) (fun v h => by rw [hr] at h; cases h) (fun h => by rw [hr] at h; cases h) e0 w hv0 he0).mono ?_
    rintro e w' ⟨N, rfl, hN, hN2, hB⟩
    have hf : sAtoi.f (s, b0, b1, ()) = (0, true, ()) := by show atoiR s.data.toList = _; simp only [atoiR, hr]
    rw [hf]
    refine ⟨[.int .i64 0, .iface 252 (.pointer (some ⟨N, 0, none⟩))], none, rfl, post_below hB, _, _, rfl, RepV.mk1 rfl rfl, _, _, rfl, RepV.mk1 rfl (.inr ⟨rfl, _, _, rfl⟩), rfl, rfl⟩
@[reducible] def sTrim : Spec := { pats := [.dat .str, .dat .str], res := [{ t := .str }], pre := fun _ => True, f := fun x => (bA (trimPrefix (bL x.1) (bL x.2.1)), ()) }
theorem hTrim : Ok 160 sTrim := by
  refine ⟨?_, Tryz.f160, Tryz.func160, by kernel_rfl, by kernel_rfl⟩
  rintro w M ⟨(s : ByteArray), (p : ByteArray), _⟩ vs bs hM ⟨v, vs', rfl, hv, u, us, rfl, hu, rfl, rfl⟩ _
  obtain rfl := xv_str hv
  obtain rfl := xv_str hu
  refine (Tryz.strings_TrimPrefix s p w).mono ?_
  rintro e w' ⟨rfl, rfl⟩
  exact ⟨[.string _], none, rfl, xpost_same, _, _, rfl, RepV.mk1 rfl rfl, rfl, rfl⟩
theorem cutB_len (c : UInt8) (s : ByteArray) : (cutB c s).length ≤ s.size + 1 := by
  have := pieces_len c (bL s)
  rw [bL_len] at this
  simpa [cutB] using this
@[reducible] def sSplit : Spec := { pats := [.dat .str, .dat .str, .gw 1 I64], res := [{ t := .sl .str }], pre := fun x => x.1.size ≤ 1000000 ∧ x.2.1 = bA [59], f := fun x => (cutB 59 x.1, ()) }
theorem hSplit : Ok 127 sSplit := by
  refine ⟨?_, Tryz.f127, Tryz.func127, by kernel_rfl, by kernel_rfl⟩
  rintro w M ⟨(s : ByteArray), (p : ByteArray), (m : Int), _⟩ vs bs hM ⟨v, vs', rfl, hv, u, us, rfl, hu, ⟨c, el, f, h1, _, _, h4⟩, rfl, rfl⟩ ⟨(hs : s.size ≤ 1000000), (hp : p = bA [59])⟩
  obtain rfl := xv_str hv
  obtain rfl := xv_str hu
  subst hp
  have hm : w.cell? ⟨1, 0, none⟩ = some (.int .i64 m) := by
    have h4 : c.toList = [.int .i64 m] := h4
    rw [cell_of h1, ← Array.getElem?_toList, h4]; rfl
  refine (Tryz.strings_Split s (bA [59]) m w (by omega) hm (by rw [bA_size]; decide)).mono ?_
  rintro e w' ⟨rfl, rfl⟩
  rw [splitB_cut]
  have hlen := cutB_count 59 s
  have hle := cutB_len 59 s
  refine ⟨[.slice (some ⟨w.heap.size, 0, none⟩) (countB s (bA [59]) + 1) (countB s (bA [59]) + 1)], none, rfl, ⟨rfl, rfl, rfl, by simp, fun b hb _ => heap_alloc_old w _ hb, fun _ h => by cases h⟩, _, _, rfl,
    RepV.mk1 rfl ⟨some ⟨w.heap.size, 0, none⟩, countB s (bA [59]) + 1, ?_, ?_, ?_, (fun h => by cases h), fun ad had _ => ?_⟩, rfl, rfl⟩
  · show [_] = [Value.slice _ (cutB 59 s).length _]
    rw [hlen]
  · show (cutB 59 s).length ≤ _
    omega
  · unfold maxLen; omega
  · obtain rfl := Option.some.inj had
    refine ⟨rfl, ((cutB 59 s).map Value.string).toArray, ⟨fun hh => absurd (hM _ hh) (Nat.lt_irrefl _), by simp, _, _, heap_alloc_new w _⟩, ?_, fun i y hy => ?_⟩
    · show 0 + (cutB 59 s).length * 1 ≤ ((cutB 59 s).map Value.string).toArray.size
      simp
    · have hi := (List.getElem?_eq_some_iff.1 hy).1
      have hc : ((cutB 59 s).map Value.string)[i]? = some (.string y) := by rw [List.getElem?_map]; show Option.map _ (lget (α := ByteArray) (cutB 59 s) i) = _; rw [hy]; rfl
      have hlt := (List.getElem?_eq_some_iff.1 hc).1
      show Rep _ .str y ((((cutB 59 s).map Value.string).toArray.toList.drop (0 + i * 1)).take 1)
      rw [Nat.zero_add, Nat.mul_one, List.toList_toArray, List.drop_eq_getElem_cons hlt]
      simp only [List.take_succ_cons, List.take_zero]
      rw [List.getElem?_eq_getElem hlt] at hc
      rw [Option.some.inj hc]
      rfl
def cutP (s : ByteArray) : ByteArray × ByteArray × Bool × Unit := (bA (Lib.cut (bL s) [32]).1, bA (Lib.cut (bL s) [32]).2.1, (Lib.cut (bL s) [32]).2.2, ())
theorem post_drew {OB : Nat → Obj → Prop} {w : World} {n : Nat} : CPost OB w (w.drewN n) [] := post_below (Go.RowKit.Below.trans (⟨rfl, rfl, rfl, Nat.le_refl _, fun _ _ => rfl⟩ : RowKit.Below w.heap.size w w) ⟨rfl, rfl, rfl, Nat.le_refl _, fun _ _ => rfl⟩)
@[reducible] def sCut : Spec := { pats := [.dat .str, .dat .str, .gw 1 I64], res := [{ t := .str }, { t := .str }, { t := .bool }], pre := fun x => x.1.size ≤ 1000000 ∧ x.2.1 = bA [32], f := fun x => cutP x.1 }
theorem hCut : Ok 128 sCut := by
  refine ⟨?_, Tryz.f128, Tryz.func128, by kernel_rfl, by kernel_rfl⟩
  rintro w M ⟨(s : ByteArray), (p : ByteArray), (m : Int), _⟩ vs bs hM ⟨v, vs', rfl, hv, u, us, rfl, hu, ⟨c, el, f, h1, _, _, h4⟩, rfl, rfl⟩ ⟨(hs : s.size ≤ 1000000), (hp : p = bA [32])⟩
  obtain rfl := xv_str hv
  obtain rfl := xv_str hu
  subst hp
  have hm : w.cell? ⟨1, 0, none⟩ = some (.int .i64 m) := by
    have h4 : c.toList = [.int .i64 m] := h4
    rw [cell_of h1, ← Array.getElem?_toList, h4]; rfl
  refine (Tryz.strings_Cut s (bA [32]) m w (by omega) hm).mono ?_
  rintro e w' ⟨rfl, n, rfl⟩
  refine ⟨[.string _, .string _, .bool _], none, rfl, post_drew, _, _, rfl, RepV.mk1 rfl rfl, _, _, rfl, RepV.mk1 rfl rfl, _, _, rfl, RepV.mk1 rfl rfl, rfl, rfl⟩
end Go.Eng.Ar

namespace Go.Eng.Ar
open Go.Eng Go.Proofs Go.ChangeShapes Go.WideShapes Go.ChangeAt Go.RowKit
set_option linter.all false
set_option maxRecDepth 100000
abbrev laidG : List (String × DataW Unit) := Go.Proofs.YtjgfbifggolibaaGreatDoor.Rows.arrayWaysRow.laid
theorem own : ownKnob Tryz.prog.godebug = none := by kernel_rfl
theorem laidOut : laidOutB Tryz.prog = true := by kernel_rfl
theorem gSyn : Tryz.prog.globalNamed "strconv.ErrSyntax" = some 3 := by kernel_rfl
theorem tSyn : (Tryz.prog.globals[3]?).map (·.type) = some 215 := by kernel_rfl
theorem gRng : Tryz.prog.globalNamed "strconv.ErrRange" = some 4 := by kernel_rfl
theorem tRng : (Tryz.prog.globals[4]?).map (·.type) = some 215 := by kernel_rfl
theorem gPow : Tryz.prog.globalNamed "internal/strconv.uint64pow10" = some 2 := by kernel_rfl
theorem tPow : (Tryz.prog.globals[2]?).map (·.type) = some 257 := by kernel_rfl
theorem uPow : ∃ e, Tryz.prog.underlying 257 = some (.array 20 e) ∧ Tryz.prog.underlying e = some (.int .u64) ∧ Tryz.prog.cellsOf e = 1 ∧ Tryz.prog.cellsOf 257 = 20 := ⟨_, Tryz.underlying257, by kernel_rfl, by kernel_rfl, by kernel_rfl⟩
section
variable {P : Program} {W : World}
theorem var_heap {n : String} {g : Nat} {cs : Array Value} (hg : P.globalNamed n = some g) (hv : W.var? P n = some cs) : ∃ el f, W.heap[g]? = some (.cells cs el f) := by
  simp only [World.var?, hg, Option.bind_some] at hv
  split at hv
  · rename_i c el f hh
    simp only [Option.some.injEq] at hv
    exact ⟨el, f, by rw [hh, hv]⟩
  · cases hv
theorem err_of {n nm : String} {d : DataW Unit} {r : List (String × DataW Unit)} {g : Nat} {ti : TypeId} {ms : Array (String × TypeId)}
    (h : laidMet P ((n, .iface nm d) :: r) W) (hg : P.globalNamed n = some g) (ht : (P.globals[g]?).map (·.type) = some ti) (hi : P.underlying ti = some (.interface ms)) :
    ∃ c el f, W.heap[g]? = some (.cells c el f) ∧ c.size = 1 ∧ ∃ u v, c.toList = [.iface u v] := by
  obtain ⟨ps, ⟨g0, t0, cs0, f0, p0, q0, hg0, ht0, hv0, hd0, _, _⟩, _, _⟩ := h
  obtain rfl := Option.some.inj (hg.symm.trans hg0)
  obtain rfl := Option.some.inj (ht.symm.trans ht0)
  obtain ⟨el, f, hh⟩ := var_heap hg hv0
  obtain ⟨f1, u, v, e, _, _⟩ := iface_of_trod hi hd0
  exact ⟨cs0, el, f, hh, by rw [← Array.length_toList, e]; rfl, u, v, e⟩
theorem ints_of {n : String} {k : IntKind} {l : List Int} {r : List (String × DataW Unit)} {g : Nat} {t e : TypeId} {m : Nat}
    (h : laidMet P ((n, .agg (l.map fun a => .lit (.int k a))) :: r) W) (hg : P.globalNamed n = some g) (ht : (P.globals[g]?).map (·.type) = some t)
    (hu : P.underlying t = some (.array m e)) (he : P.underlying e = some (.int k)) (hc : P.cellsOf e = 1) (hct : P.cellsOf t = m) (hl : l.length = m) :
    ∃ c el f, W.heap[g]? = some (.cells c el f) ∧ c.toList = l.map (Value.int k) := by
  obtain ⟨ps, ⟨g0, t0, cs0, f0, p0, q0, hg0, ht0, hv0, hd0, _, _⟩, _, _⟩ := h
  obtain rfl := Option.some.inj (hg.symm.trans hg0)
  obtain rfl := Option.some.inj (ht.symm.trans ht0)
  obtain ⟨el, f, hh⟩ := var_heap hg hv0
  refine ⟨cs0, el, f, hh, ?_⟩
  obtain ⟨xs, n', _, hx, hlen, hn, hel⟩ := DataW.trod_array hu hd0
  rw [hct] at hlen
  simp only [Prod.mk.injEq, DataW.agg.injEq] at hx
  obtain ⟨hx, _⟩ := hx
  refine List.ext_getElem? fun i => ?_
  rcases Nat.lt_or_ge i m with hi | hi
  · have hE := hel i hi
    rw [hc] at hE
    have hxi : xs[i]? = some xs[i] := List.getElem?_eq_getElem (by omega)
    rw [hxi] at hE
    obtain ⟨a, e1, e2, _⟩ := DataW.trod_int he hE
    have hd : xs[i].1 = .lit (.int k a) := by rw [e2]
    have h1 : (xs.map (·.1))[i]? = some (.lit (.int k a)) := by rw [List.getElem?_map, hxi, Option.map_some, hd]
    rw [← hx, List.getElem?_map] at h1
    have h2 : l[i]? = some a := by
      cases hq : l[i]? with
      | none => rw [hq] at h1; cases h1
      | some b =>
        rw [hq] at h1
        simp only [Option.map_some, Option.some.injEq, DataW.lit.injEq, Lit.int.injEq, true_and] at h1
        rw [h1]
    rw [List.getElem?_map, h2]
    have h3 : ((cs0.toList.drop (i * 1)).take 1)[0]? = some (.int k a) := by rw [e1]; rfl
    rw [List.getElem?_take, if_pos (by decide), List.getElem?_drop] at h3
    simpa using h3
  · rw [List.getElem?_eq_none (by rw [hlen]; exact hi), List.getElem?_eq_none (by rw [List.length_map, hl]; exact hi)]
end
theorem rep_chain {V : View} {k : IntKind} : ∀ (n : Nat) (x : (chain (List.replicate n (.int k))).Den), Rep V (chain (List.replicate n (.int k))) x ((chL (.int k) n x).map (Value.int k))
  | 0, _ => rfl
  | n + 1, x => ⟨[.int k x.1], _, rfl, rfl, rep_chain n x.2⟩
def Globs (W : World) : Prop := ∃ b0 b1 mx, ArgsOK OB W (fun _ => False) [.gw 3 .err, .gw 4 .err, .gw 2 PowT, .gw 1 I64] (b0, b1, powD, mx, ()) [] []
theorem globs_of {W : World} (h : laidMetH Tryz.prog laidG W) (hs : W.ShapedOpen Tryz.prog) : Globs W := by
  rw [MakeChecks.laidMetH_plain _ _ _ (by kernel_rfl)] at h
  have hp := h.tail.tail
  obtain ⟨e, u1, u2, u3, u4⟩ := uPow
  obtain ⟨c2, el2, f2, hh2, hl2⟩ := ints_of (l := [1, 10, 100, 1000, 10000, 100000, 1000000, 10000000, 100000000, 1000000000, 10000000000, 100000000000, 1000000000000, 10000000000000, 100000000000000, 1000000000000000, 10000000000000000, 100000000000000000, 1000000000000000000, 10000000000000000000]) (k := .u64) hp gPow tPow u1 u2 u3 u4 rfl
  obtain ⟨ms, u215⟩ : ∃ ms, Tryz.prog.underlying 215 = some (.interface ms) := ⟨_, Tryz.underlying215⟩
  obtain ⟨c1, el1, f1, hh1, hn1, t1, v1, hl1⟩ := err_of hp.tail.tail gRng tRng u215
  obtain ⟨c0, el0, f0, hh0, hn0, t0, v0, hl0⟩ := err_of hp.tail.tail.tail gSyn tSyn u215
  have h0 : ((begin Tryz.prog (fun _ _ => 0) default).world.heap[1]?).bind Obj.row? = some (#[.int .i64 0], 3) := by kernel_rfl
  obtain ⟨mx, hmx⟩ := cell_of_shapedOpen_int hs (g := 1) (of_decide_eq_true (by kernel_rfl)) h0 rfl (by kernel_rfl) (by kernel_rfl) Tryz.underlying3
  obtain ⟨c3, hh3, hn3, _⟩ := hs.1 1 _ _ (of_decide_eq_true (by kernel_rfl)) h0
  have hl3 : c3.toList = [.int .i64 mx] := by
    simp only [World.cell?, hh3] at hmx
    have hn3 : c3.size = 1 := hn3
    match hc : c3.toList, (show c3.toList.length = 1 by rw [Array.length_toList]; exact hn3) with
    | [v], _ =>
      have : c3 = #[v] := by rw [← Array.toArray_toList (xs := c3), hc]
      rw [this] at hmx
      simp at hmx
      rw [hmx]
  refine ⟨true, true, mx, ⟨c0, el0, f0, hh0, id, hn0, ?_⟩, ⟨c1, el1, f1, hh1, id, hn1, ?_⟩, ⟨c2, el2, f2, hh2, id, ?_, ?_⟩, ⟨c3, _, _, hh3, id, hn3, ?_⟩, rfl, rfl⟩
  · exact .inr ⟨rfl, t0, v0, hl0⟩
  · exact .inr ⟨rfl, t1, v1, hl1⟩
  · rw [← Array.length_toList, hl2]; rfl
  · have : Rep (fun b c => ¬ False ∧ ∃ el f, W.heap[b]? = some (.cells c el f)) PowT powD _ := rep_chain 20 powD
    rw [hl2]
    have e : chL (.int .u64) 20 powD = [1, 10, 100, 1000, 10000, 100000, 1000000, 10000000, 100000000, 1000000000, 10000000000, 100000000000, 1000000000000, 10000000000000, 100000000000000, 1000000000000000, 10000000000000000, 100000000000000000, 1000000000000000000, 10000000000000000000] := by decide +kernel
    rw [e] at this
    exact this
  · rw [hl3]; rfl
theorem kept_of {W W' : World} (h : Below W.heap.size W W') (may : MemPlace → Prop) : W.keptBut W' may := by
  refine ⟨h.os, h.output, fun i hi => ?_⟩
  rw [h.block i hi]
  split
  · rename_i h1 h2
    rw [h1] at h2
    simp only [Option.some.injEq, Obj.cells.injEq] at h2
    obtain ⟨rfl, rfl, rfl⟩ := h2
    exact ⟨rfl, rfl, rfl, fun _ _ => rfl⟩
  · rename_i h1 h2
    rw [h1] at h2
    simp only [Option.some.injEq, Obj.map.injEq] at h2
    obtain ⟨rfl, rfl⟩ := h2
    exact .inr ⟨rfl, rfl⟩
  · rfl
def readAll (P : Program) : List TypeId → Bool
  | [] => true
  | t :: r => P.readableRec t && decide (t < P.types.size) && readAll P r
theorem trodAll_stays {P : Program} (hl : laidOutB P = true) {H : Type} {enc : TypeId × Value → H} {W W' : World} (hb : Below W.heap.size W W') : ∀ {ts : List TypeId} {vs : List Value} {ds : List (DataW H)} {ps : List MemPlace}, readAll P ts = true →
    DataW.TrodAll enc P W 0 (fun _ => true) true ts vs ds ps → DataW.TrodAll enc P W' 0 (fun b => decide (b < W.heap.size)) true ts vs ds ps
  | [], [], [], _, _, h => h
  | t :: ts, v :: vs, d :: ds, ps, hr, ⟨p, q, h1, h2, h3⟩ => by
    simp only [readAll, Bool.and_eq_true, decide_eq_true_eq] at hr
    have hlt := DataW.TrodAll.lt (show DataW.TrodAll enc P W 0 (fun _ => true) true (t :: ts) (v :: vs) (d :: ds) ps from ⟨p, q, h1, h2, h3⟩)
    subst h3
    exact ⟨p, q, Below.trod hl hr.1.1 hr.1.2 h1 hb (fun x hx => hlt x (List.mem_append.2 (.inl hx))), trodAll_stays hl hb hr.2 h2, rfl⟩
theorem law_post {H : Type} {enc : TypeId × Value → H} {f : Func} {s : ChangeSpec} {W W' : World} {args : Array Value} {ds gs : List (DataW H)} {before : List MemPlace}
    (hW : DataW.Whole enc Tryz.prog f.params.toList s.vars false W args.toList ds gs before) (hv : s.vars = []) (hr : f.resultTypes.toList = [4]) (hs : f.resultTypes.size = 1) (hfn : s.fn H (ds ++ gs) = { results := [.lit (.bool true)], args := ds }) (hread : readAll Tryz.prog f.params.toList = true)
    (hb : Below W.heap.size W W') : s.post enc Tryz.prog f false true false false W args (.bool true) W' := by
  have hW0 := hW
  obtain ⟨p, q, hA, hV, rfl, _, _⟩ := hW
  rw [hv] at hV
  obtain ⟨rfl, rfl⟩ := trodVars_none hV
  refine ⟨ds, [], p ++ [], [], p, [], hW0, ?_, ?_, ?_, kept_of hb _, fun h => by cases h⟩
  · rw [hfn, hr, hs]
    exact trodAll_cons_mk (shut_bool Tryz.underlying4 true) trodAll_mk0
  · rw [hfn]
    exact trodAll_stays laidOut hb hread hA
  · rw [hfn, hv]
    rfl
theorem door_met (os : Os) (args : Array Value) : laidMetH Tryz.prog laidG ((World.laidAll Tryz.prog os laidG).forCall (fun _ _ => 0) ⟨#[], args, []⟩).memory := by
  rw [MakeChecks.laidMetH_plain _ _ _ (by kernel_rfl)]; exact laidMet_laidAll _ (by kernel_rfl) (by kernel_rfl)
theorem law_lifted {F : Nat} {fn : Func} {s : ChangeSpec} (h : ∀ (H : Type) (enc : TypeId × Value → H) (W : World) (args : Array Value) (ds : List (DataW H)) (ps : List MemPlace) (base : Nat), Globs W → DataW.TrodAll enc Tryz.prog W 0 (fun _ => true) true fn.params.toList args.toList ds ps → (∀ (j : Nat) t v, fn.params.toList[j]? = some t → args.toList[j]? = some v → Value.okWide Tryz.prog W .any base t v) →
      Calls Tryz.prog F args W fun e W' => e = .returned (.bool true) ∧ Below W.heap.size W W')
    (hf : Tryz.prog.funcs[F]? = some fn) (hinit : Tryz.prog.inits.idxOf? F = none) (hv : s.vars = []) (hr : fn.resultTypes.toList = [4]) (hs : fn.resultTypes.size = 1)
    (hread : readAll Tryz.prog fn.params.toList = true) (hfn : ∀ (H : Type) (ds : List (DataW H)), ds.length = fn.params.size → s.fn H (ds ++ []) = { results := [.lit (.bool true)], args := ds })
    (os : Os) (started : os.Started) (H : Type) (enc : TypeId × Value → H)
    (wit : ∃ (w : World) (tape : Tape) (i : Input), w.os = os ∧ (w.forCall tape i).Shaped Tryz.checked.prog ∧ i.vars = [] ∧ Input.okWide Tryz.checked.prog (w.forCall tape i) .any w.heap.size F i ∧
      ((s.pre enc Tryz.checked.prog fn [] false (w.forCall tape i).memory i.args ∧ laidMetH Tryz.prog laidG (w.forCall tape i).memory) ∧ sizedMet enc Tryz.checked.prog fn (OpenSpec.ofChange s) false (w.forCall tape i).memory i.args) ∧ ({} : Assume).holds Tryz.checked.prog (lone (Frame.enter Tryz.checked.prog F i.args .normal) [] (w.forCall tape i))) :
    ReturnsInHanded {} Tryz.checked os F .any (fun w args => (s.pre enc Tryz.prog fn [] false w args ∧ laidMetH Tryz.prog laidG w) ∧ sizedMet enc Tryz.prog fn (OpenSpec.ofChange s) false w args) (s.post enc Tryz.prog fn false true false false) := by
  refine returnsInHanded_of_calls (C := Tryz.checked) own started hinit wit ?_
  intro w tape i _ hsh _ hok hpre hholds
  obtain ⟨_, _, _, fn', hfn', _, _, _, _, hval⟩ := hok
  have e : fn' = fn := Option.some.inj (hfn'.symm.trans hf)
  subst e
  obtain ⟨⟨⟨ds, gs, before, hw, hc⟩, hx⟩, hz⟩ := hpre
  have hW0 := DataW.Whole.of_heap (w' := w.forCall tape i) (by rfl) hw
  have hL : laidMetH Tryz.prog laidG (w.forCall tape i) := hx.of_heap (by rfl)
  have hW := hW0
  obtain ⟨p, q, hA, hV, rfl, _, _⟩ := hW
  have hV' : DataW.TrodVars enc Tryz.prog (w.forCall tape i) (fun _ => true) [] gs q := by rw [← hv]; exact hV
  obtain ⟨rfl, rfl⟩ := trodVars_none hV'
  have hlen : ds.length = fn'.params.size := by
    have := (Go.trodAll_length hA).2
    simpa using this
  refine (h _ _ _ _ _ _ _ (globs_of hL hsh) hA (fun j t v h1 h2 => hval j t v (by simpa using h1) (by simpa using h2))).mono fun e W' ⟨he, hb⟩ => ?_
  subst he
  exact ChangeSpec.post_blind (law_post hW0 hv hr hs (hfn H ds hlen) hread hb)
end Go.Eng.Ar

namespace Go.Eng.Ar
open Go.Eng Go.Proofs
set_option linter.all false
set_option maxRecDepth 100000
set_option maxHeartbeats 8000000
abbrev fWithin (n lo hi : Int) : Bool := decide (lo ≤ n ∧ n ≤ hi)
@[reducible] def sWithin : Spec := { pats := [.dat I64, .dat I64, .dat I64], res := [{ t := .bool }], pre := fun _ => True, f := fun x => (fWithin x.1 x.2.1 x.2.2.1, ()) }
theorem h88 : Ok 88 sWithin := by
  refine mk (ctr := []) trivial (nt := 15) Tryz.func88 rfl rfl rfl rfl (by kernel_rfl) (by kernel_rfl) (fun _ => []) ?_
  rintro ⟨(n : Int), (lo : Int), (hi : Int), _⟩ _
  repeat' (intro hzz; (try (rename Two => hq; cases hq)); (try dsimp only at hzz); (try simp only [resTy, argTy, eqD, inR, big, wantOf, zB] at hzz); (try simp only [resTy, argTy, eqD, inR, big, wantOf, zB, fWithin] at hzz); (try (revert hzz; intro _)))
  all_goals try (rename Unit => hq; clear hq)
  all_goals try ((with_reducible refine Held.mk ?_); (with_reducible (first | refine Frz.mk ?_ | refine And.intro (Frz.mk ?_) ?_ | refine And.intro ?_ (Frz.mk ?_))); repeat' first | exact True.intro | (change _ = _; with_reducible rfl) | refine And.intro ?_ ?_ | (with_reducible refine Frz.mk ?_))
  all_goals try (refine Held.mk ?_; (try dsimp only at *); (try simp only [resTy, argTy, eqD, inR, big, wantOf, zB] at *); (try simp only [resTy, argTy, eqD, inR, big, wantOf, zB, fWithin] at *))
  all_goals (first | (simp only [decide_eq_decide]; omega) | (symm; simp only [decide_eq_false_iff_not]; omega) | trace_state)
theorem h29 : Ok 29 sWithin := by
  refine mk (ctr := []) trivial (nt := 15) Tryz.func29 rfl rfl rfl rfl (by kernel_rfl) (by kernel_rfl) (fun _ => []) ?_
  rintro ⟨(n : Int), (lo : Int), (hi : Int), _⟩ _
  repeat' (intro hzz; (try (rename Two => hq; cases hq)); (try dsimp only at hzz); (try simp only [resTy, argTy, eqD, inR, big, wantOf, zB] at hzz); (try simp only [resTy, argTy, eqD, inR, big, wantOf, zB, fWithin] at hzz); (try (revert hzz; intro _)))
  all_goals try (rename Unit => hq; clear hq)
  all_goals try ((with_reducible refine Held.mk ?_); (with_reducible (first | refine Frz.mk ?_ | refine And.intro (Frz.mk ?_) ?_ | refine And.intro ?_ (Frz.mk ?_))); repeat' first | exact True.intro | (change _ = _; with_reducible rfl) | refine And.intro ?_ ?_ | (with_reducible refine Frz.mk ?_))
  all_goals try (refine Held.mk ?_; (try dsimp only at *); (try simp only [resTy, argTy, eqD, inR, big, wantOf, zB] at *); (try simp only [resTy, argTy, eqD, inR, big, wantOf, zB, fWithin] at *))
  all_goals (first | (simp only [decide_eq_decide]; omega) | (symm; simp only [decide_eq_false_iff_not]; omega) | trace_state)
abbrev pSmall (m : Int) : Prop := 0 ≤ m ∧ m ≤ 9000000000000000000
@[reducible] def sSmall : Spec := { pats := [.dat I64, .dat I64], res := [{ t := .bool }], pre := fun x => pSmall x.2.1, f := fun x => (fWithin x.1 (-x.2.1) x.2.1, ()) }
theorem h134 : Ok 134 sSmall := by
  refine mk (ctr := [(88, sWithin)]) ⟨h88, trivial⟩ (nt := 10) Tryz.func134 rfl rfl rfl rfl (by kernel_rfl) (by kernel_rfl) (fun _ => []) ?_
  rintro ⟨(n : Int), (m : Int), _⟩ ⟨h1, h2⟩
  repeat' (intro hzz; (try (rename Two => hq; cases hq)); (try dsimp only at hzz); (try simp only [resTy, argTy, eqD, inR, big, wantOf, zB] at hzz); (try simp only [resTy, argTy, eqD, inR, big, wantOf, zB, pSmall, fWithin] at hzz); (try (revert hzz; intro _)))
  all_goals try (rename Unit => hq; clear hq)
  all_goals try ((with_reducible refine Held.mk ?_); (with_reducible (first | refine Frz.mk ?_ | refine And.intro (Frz.mk ?_) ?_ | refine And.intro ?_ (Frz.mk ?_))); repeat' first | exact True.intro | (change _ = _; with_reducible rfl) | refine And.intro ?_ ?_ | (with_reducible refine Frz.mk ?_))
  all_goals try (refine Held.mk ?_; (try dsimp only at *); (try simp only [resTy, argTy, eqD, inR, big, wantOf, zB] at *); (try simp only [resTy, argTy, eqD, inR, big, wantOf, zB, pSmall, fWithin] at *))
  all_goals (first | omega | trace_state)
@[reducible] def sUnless : Spec := { pats := [.dat .bool, .dat I64], res := [{ t := I64 }], pre := fun _ => True, f := fun x => (cond x.1 0 x.2.1, ()) }
theorem h85 : Ok 85 sUnless := by
  refine mk (ctr := []) trivial (nt := 7) Tryz.func85 rfl rfl rfl rfl (by kernel_rfl) (by kernel_rfl) (fun _ => []) ?_
  rintro ⟨(b : Bool), (e : Int), _⟩ _
  repeat' (intro hzz; (try (rename Two => hq; cases hq)); (try dsimp only at hzz); (try simp only [resTy, argTy, eqD, inR, big, wantOf, zB] at hzz); (try (revert hzz; intro _)))
  all_goals try (rename Unit => hq; clear hq)
  all_goals try ((with_reducible refine Held.mk ?_); (with_reducible (first | refine Frz.mk ?_ | refine And.intro (Frz.mk ?_) ?_ | refine And.intro ?_ (Frz.mk ?_))); repeat' first | exact True.intro | (change _ = _; with_reducible rfl) | refine And.intro ?_ ?_ | (with_reducible refine Frz.mk ?_))
  all_goals try (refine Held.mk ?_; (try dsimp only at *); (try simp only [resTy, argTy, eqD, inR, big, wantOf, zB] at *))
  all_goals (first | (rename_i h; rw [h]; rfl) | trace_state)
end Go.Eng.Ar

namespace Go.Eng.Ar
open Go.Eng Go.Proofs
set_option linter.all false
set_option maxRecDepth 100000
set_option maxHeartbeats 8000000
def plErr (x y z : Int) : Int := if (-5000 ≤ x ∧ x ≤ 5000) ∧ (-5000 ≤ y ∧ y ≤ 5000) ∧ (-5000 ≤ z ∧ z ≤ 5000) then 0 else 2
@[reducible] def sPlace : Spec := { pats := [.dat PlaceT], res := [{ t := I64 }], pre := fun _ => True, f := fun x => (plErr x.1.1 x.1.2.1 x.1.2.2.1, ()) }
theorem h74 : Ok 74 sPlace := by
  refine mk (ctr := [(134, sSmall), (85, sUnless)]) ⟨h134, h85, trivial⟩ (nt := 17) Tryz.func74 rfl rfl rfl rfl (by kernel_rfl) (by kernel_rfl) (fun _ => []) ?_
  rintro ⟨⟨(x : Int), (y : Int), (z : Int), _⟩, _⟩ _
  repeat' (intro hzz; (try (rename Two => hq; cases hq)); (try dsimp only at hzz); (try simp only [resTy, argTy, eqD, inR, big, wantOf, zB] at hzz); (try simp only [resTy, argTy, eqD, inR, big, wantOf, zB, pSmall, fWithin] at hzz); (try (revert hzz; intro _)))
  all_goals try (rename Unit => hq; clear hq)
  all_goals try ((with_reducible refine Held.mk ?_); (with_reducible (first | refine Frz.mk ?_ | refine And.intro (Frz.mk ?_) ?_ | refine And.intro ?_ (Frz.mk ?_))); repeat' first | exact True.intro | (change _ = _; with_reducible rfl) | refine And.intro ?_ ?_ | (with_reducible refine Frz.mk ?_))
  all_goals try (refine Held.mk ?_; (try dsimp only at *); (try simp only [resTy, argTy, eqD, inR, big, wantOf, zB] at *); (try simp only [resTy, argTy, eqD, inR, big, wantOf, zB, pSmall, fWithin] at *))
  all_goals try omega
  all_goals (simp only [plErr]; split <;> first | rfl | (exfalso; omega) | (rw [decide_eq_true (by omega)]; rfl) | (rw [decide_eq_false (by omega)]; rfl))
def soErr (r v : Int) : Int := if (8000 ≤ r ∧ r ≤ 192000) ∧ (30000 ≤ v ∧ v ≤ 40000) then 0 else 2
@[reducible] def sSound : Spec := { pats := [.dat PairT], res := [{ t := I64 }], pre := fun _ => True, f := fun x => (soErr x.1.1 x.1.2.1, ()) }
theorem h75 : Ok 75 sSound := by
  refine mk (ctr := [(88, sWithin), (85, sUnless)]) ⟨h88, h85, trivial⟩ (nt := 12) Tryz.func75 rfl rfl rfl rfl (by kernel_rfl) (by kernel_rfl) (fun _ => []) ?_
  rintro ⟨⟨(x : Int), (y : Int), _⟩, _⟩ _
  repeat' (intro hzz; (try (rename Two => hq; cases hq)); (try dsimp only at hzz); (try simp only [resTy, argTy, eqD, inR, big, wantOf, zB] at hzz); (try simp only [resTy, argTy, eqD, inR, big, wantOf, zB, fWithin] at hzz); (try (revert hzz; intro _)))
  all_goals try (rename Unit => hq; clear hq)
  all_goals try ((with_reducible refine Held.mk ?_); (with_reducible (first | refine Frz.mk ?_ | refine And.intro (Frz.mk ?_) ?_ | refine And.intro ?_ (Frz.mk ?_))); repeat' first | exact True.intro | (change _ = _; with_reducible rfl) | refine And.intro ?_ ?_ | (with_reducible refine Frz.mk ?_))
  all_goals try (refine Held.mk ?_; (try dsimp only at *); (try simp only [resTy, argTy, eqD, inR, big, wantOf, zB] at *); (try simp only [resTy, argTy, eqD, inR, big, wantOf, zB, fWithin] at *))
  all_goals try omega
  all_goals (simp only [soErr]; split <;> first | rfl | (exfalso; omega) | (rw [decide_eq_true (by omega)]; rfl) | (rw [decide_eq_false (by omega)]; rfl))
end Go.Eng.Ar

namespace Go.Eng.Ar
open Go.Eng Go.Proofs
set_option linter.all false
set_option maxRecDepth 100000
set_option maxHeartbeats 8000000
def gnErr (g d : Int) : Int := if (0 ≤ g ∧ g ≤ 1000) ∧ (0 ≤ d ∧ d ≤ 10000) then 0 else 2
@[reducible] def sGains : Spec := { pats := [.dat I64, .dat I64], res := [{ t := I64 }], pre := fun _ => True, f := fun x => (gnErr x.1 x.2.1, ()) }
theorem h86 : Ok 86 sGains := by
  refine mk (ctr := [(88, sWithin), (85, sUnless)]) ⟨h88, h85, trivial⟩ (nt := 12) Tryz.func86 rfl rfl rfl rfl (by kernel_rfl) (by kernel_rfl) (fun _ => []) ?_
  rintro ⟨(x : Int), (y : Int), _⟩ _
  repeat' (intro hzz; (try (rename Two => hq; cases hq)); (try dsimp only at hzz); (try simp only [resTy, argTy, eqD, inR, big, wantOf, zB] at hzz); (try simp only [resTy, argTy, eqD, inR, big, wantOf, zB, fWithin] at hzz); (try (revert hzz; intro _)))
  all_goals try (rename Unit => hq; clear hq)
  all_goals try ((with_reducible refine Held.mk ?_); (with_reducible (first | refine Frz.mk ?_ | refine And.intro (Frz.mk ?_) ?_ | refine And.intro ?_ (Frz.mk ?_))); repeat' first | exact True.intro | (change _ = _; with_reducible rfl) | refine And.intro ?_ ?_ | (with_reducible refine Frz.mk ?_))
  all_goals try (refine Held.mk ?_; (try dsimp only at *); (try simp only [resTy, argTy, eqD, inR, big, wantOf, zB] at *); (try simp only [resTy, argTy, eqD, inR, big, wantOf, zB, fWithin] at *))
  all_goals try omega
  all_goals (simp only [gnErr]; split <;> first | rfl | (exfalso; omega) | (rw [decide_eq_true (by omega)]; rfl) | (rw [decide_eq_false (by omega)]; rfl))
end Go.Eng.Ar

namespace Go.Eng.Ar
open Go.Eng Go.Proofs
set_option linter.all false
set_option maxRecDepth 100000
set_option maxHeartbeats 8000000
def firstI : List Int → Int
  | [] => 0
  | e :: r => if e = 0 then firstI r else e
theorem drop_get {xs : List Int} {i : Nat} (h : i < xs.length) : xs.drop i = xs.getD i 0 :: xs.drop (i + 1) := by
  rw [List.drop_eq_getElem_cons h]
  simp [List.getD, List.getElem?_eq_getElem h]
theorem getD_i (xs : List Int) (i : Nat) : List.getD xs ((i : Int)).toNat (Ty.dflt I64) = xs.getD i 0 := rfl
theorem firstI_step {xs : List Int} {i : Nat} (h : i < xs.length) : firstI (xs.drop i) = if xs.getD i 0 = 0 then firstI (xs.drop (i + 1)) else xs.getD i 0 := by
  rw [drop_get h]; rfl
def pLen (n : Nat) : Prop := (n : Int) ≤ 4611686018427387904
theorem pLen.out {n : Nat} (h : pLen n) : (n : Int) ≤ 4611686018427387904 := h
@[reducible] def sFirst : Spec := { pats := [.dat (.sl I64)], res := [{ t := I64 }], pre := fun x => pLen (List.length (α := Int) x.1), f := fun x => (firstI x.1, ()) }
def firstAnn (xs : List Int) : LoopAnn := { σ := Nat × Unit, pat := fun i => [sI 7 i.1], inv := fun i => i.1 ≤ xs.length ∧ firstI (xs.drop i.1) = firstI xs, meas := fun i => xs.length - i.1 }
theorem h73 : Ok 73 sFirst := by
  refine mk (ctr := []) trivial (nt := 15) Tryz.func73 rfl rfl rfl rfl (by kernel_rfl) (by kernel_rfl) (fun x => [fun _ => firstAnn x.1]) ?_
  rintro ⟨(xs : List Int), _⟩ (hp : pLen xs.length)
  repeat' (intro hzz; (try (rename Two => hq; cases hq)); (try dsimp only at hzz); (try simp only [resTy, argTy, eqD, inR, big, wantOf, zB] at hzz); (try simp only [resTy, argTy, eqD, inR, big, wantOf, zB, getD_i] at hzz); (try (revert hzz; intro _)))
  all_goals try (rename Unit => hq; clear hq)
  all_goals try ((with_reducible refine Held.mk ?_); (with_reducible (first | refine Frz.mk ?_ | refine And.intro (Frz.mk ?_) ?_ | refine And.intro ?_ (Frz.mk ?_))); repeat' first | exact True.intro | (change _ = _; with_reducible rfl) | refine And.intro ?_ ?_ | (with_reducible refine Frz.mk ?_))
  all_goals try (refine Held.mk ?_; (try dsimp only at *); (try simp only [resTy, argTy, eqD, inR, big, wantOf, zB] at *); (try simp only [resTy, argTy, eqD, inR, big, wantOf, zB, getD_i] at *))
  ·
    refine GHeld.mk ?_
    refine Exists.intro (0, ()) ?_
    refine And.intro (Leaf.mk ?_) ?_
    · repeat' first | exact True.intro | refine And.intro ?_ ?_
      all_goals try ((change _ = _ <;> try dsimp only) <;> try with_reducible rfl)
      all_goals try omega
    exact ⟨Nat.zero_le _, rfl⟩
  · rename_i s hi hg
    obtain ⟨i, u⟩ := s
    dsimp only at hi hg
    exact ⟨Int.natCast_nonneg i, hg⟩
  · rename_i s hi hg hg'
    obtain ⟨i, u⟩ := s
    dsimp only at hi hg hg'
    try simp only [getD_i] at hg' ⊢
    have hlt : i < xs.length := by have : (i : Int) < xs.length := hg; omega
    have h1 := firstI_step hlt
    replace hg' : ¬ xs.getD i 0 = 0 := by simpa using hg'
    rw [if_neg hg', hi.2] at h1
    exact h1.symm
  · rename_i s hi hg hg'
    obtain ⟨i, u⟩ := s
    dsimp only at hi hg hg'
    try simp only [getD_i] at hg' ⊢
    have := hp.out
    have : (i : Int) < xs.length := hg
    have h0 : (0 : Int) ≤ (i : Int) := Int.natCast_nonneg i
    omega
  · rename_i s hi hg hg'
    obtain ⟨i, u⟩ := s
    dsimp only at hi hg hg'
    try simp only [getD_i] at hg' ⊢
    all_goals try dsimp only at hg hg'
    all_goals try simp only [resTy, argTy, eqD, inR, big, wantOf, zB] at hg hg'
    all_goals try simp only [resTy, argTy, eqD, inR, big, wantOf, zB, getD_i] at hg hg'
    have hlt : i < xs.length := by have : (i : Int) < xs.length := hg; omega
    have h1 := firstI_step hlt
    refine GHeld.mk ?_
    refine Exists.intro (i + 1, ()) ?_
    refine And.intro (Leaf.mk ?_) ?_
    · repeat' first | exact True.intro | refine And.intro ?_ ?_
      all_goals try ((change _ = _ <;> try dsimp only) <;> try with_reducible rfl)
      all_goals try omega
    replace hg' : xs.getD i 0 = 0 := by simpa using hg'
    rw [if_pos hg'] at h1
    exact ⟨⟨hlt, h1.symm.trans hi.2⟩, by simp only [firstAnn]; omega⟩
  · rename_i s hi hg
    obtain ⟨i, u⟩ := s
    dsimp only at hi hg
    have h1 := hi.2
    rw [List.drop_eq_nil_of_le (by have : (xs.length : Int) ≤ (i : Int) := hg; omega)] at h1
    exact h1
end Go.Eng.Ar

namespace Go.Eng.Ar
open Go.Eng Go.Proofs
set_option linter.all false
set_option maxRecDepth 100000
set_option maxHeartbeats 8000000
abbrev SpkD : Type := SpkT.Den
abbrev spkZ : SpkD := Ty.dflt SpkT
def spErr (s : SpkD) : Int := if plErr s.1.1 s.1.2.1 s.1.2.2.1 = 0 then gnErr s.2.1 s.2.2.1 else plErr s.1.1 s.1.2.1 s.1.2.2.1
theorem spErr_first (s : SpkD) : firstI [plErr s.1.1 s.1.2.1 s.1.2.2.1, gnErr s.2.1 s.2.2.1] = spErr s := by
  simp only [firstI, spErr]
  split
  · split <;> simp_all
  · rfl
def chkGo (xs : List SpkD) : Nat → Nat → Int × Int
  | 0, _ => (0, 0)
  | k + 1, i => if spErr (xs.getD i spkZ) = 0 then chkGo xs k (i + 1) else ((i : Int), spErr (xs.getD i spkZ))
def hdErr (r v : Int) (n : Nat) : Int := if soErr r v = 0 then (if n = 0 then 10 else if n ≤ 8 then 0 else 8) else soErr r v
theorem hd_eq (r v : Int) (n : Nat) : firstI [soErr r v, bif decide ((0 : Int) < (n : Int)) then 0 else 10, bif decide ((n : Int) ≤ 8) then 0 else 8] = hdErr r v n := by
  simp only [firstI, hdErr]
  split
  · by_cases h1 : n = 0
    · subst h1; rfl
    · rw [decide_eq_true (show (0 : Int) < (n : Int) by omega), if_neg h1]
      by_cases h2 : n ≤ 8
      · rw [decide_eq_true (show (n : Int) ≤ 8 by omega), if_pos h2]; rfl
      · rw [decide_eq_false (show ¬ (n : Int) ≤ 8 by omega), if_neg h2]; rfl
  · rfl
def chkA (r v : Int) (xs : List SpkD) : Int × Int := if hdErr r v xs.length = 0 then chkGo xs xs.length 0 else (0, hdErr r v xs.length)
theorem chkGo_step {xs : List SpkD} {i : Nat} (h : i < xs.length) : chkGo xs (xs.length - i) i = if spErr (xs.getD i spkZ) = 0 then chkGo xs (xs.length - (i + 1)) (i + 1) else ((i : Int), spErr (xs.getD i spkZ)) := by
  obtain ⟨k, hk⟩ : ∃ k, xs.length - i = k + 1 := ⟨xs.length - i - 1, by omega⟩
  rw [hk, show xs.length - (i + 1) = k by omega]; rfl
@[reducible] def sSoundOf : Spec := { pats := [.dat ArrT], res := [{ t := PairT }], pre := fun _ => True, f := fun x => ((x.1.1, x.1.2.1, ()), ()) }
theorem h84 : Ok 84 sSoundOf := by
  refine mk (ctr := []) trivial (nt := 8) Tryz.func84 rfl rfl rfl rfl (by kernel_rfl) (by kernel_rfl) (fun _ => []) ?_
  rintro ⟨⟨(r : Int), (v : Int), (xs : List SpkD), _⟩, _⟩ _
  repeat' (intro hzz; (try (rename Two => hq; cases hq)); (try dsimp only at hzz); (try simp only [resTy, argTy, eqD, inR, big, wantOf, zB] at hzz); (try (revert hzz; intro _)))
  all_goals try (rename Unit => hq; clear hq)
  all_goals try ((with_reducible refine Held.mk ?_); (with_reducible (first | refine Frz.mk ?_ | refine And.intro (Frz.mk ?_) ?_ | refine And.intro ?_ (Frz.mk ?_))); repeat' first | exact True.intro | (change _ = _; with_reducible rfl) | refine And.intro ?_ ?_ | (with_reducible refine Frz.mk ?_))
  all_goals try (refine Held.mk ?_; (try dsimp only at *); (try simp only [resTy, argTy, eqD, inR, big, wantOf, zB] at *))
  all_goals try omega
@[reducible] def sCheck : Spec := { pats := [.dat ArrT], res := [{ t := I64 }, { t := I64 }], pre := fun x => pLen (List.length (α := SpkD) x.1.2.2.1), f := fun x => ((chkA x.1.1 x.1.2.1 x.1.2.2.1).1, (chkA x.1.1 x.1.2.1 x.1.2.2.1).2, ()) }
def chkAnn (r v : Int) (xs : List SpkD) : LoopAnn := { σ := Nat, pat := fun k => [sI 29 k], inv := fun k => k ≤ xs.length ∧ chkGo xs (xs.length - k) k = chkA r v xs, meas := fun k => xs.length - k }
theorem h25 : Ok 25 sCheck := by
  refine mk (ctr := [(73, sFirst), (74, sPlace), (75, sSound), (84, sSoundOf), (85, sUnless), (86, sGains)]) ⟨h73, h74, h75, h84, h85, h86, trivial⟩ (nt := 49) Tryz.func25 rfl rfl rfl rfl (by kernel_rfl) (by kernel_rfl) (fun x => [fun _ => chkAnn x.1.1 x.1.2.1 x.1.2.2.1]) ?_
  rintro ⟨⟨(r : Int), (v : Int), (xs : List SpkD), _⟩, _⟩ (hp : pLen xs.length)
  have hp' := hp.out
  repeat' (intro hzz; (try (rename Two => hq; cases hq)); (try dsimp only at hzz); (try simp only [resTy, argTy, eqD, inR, big, wantOf, zB] at hzz); (try simp only [resTy, argTy, eqD, inR, big, wantOf, zB, hd_eq] at hzz); (try (revert hzz; intro _)))
  all_goals try (rename Unit => hq; clear hq)
  all_goals try ((with_reducible refine Held.mk ?_); (with_reducible (first | refine Frz.mk ?_ | refine And.intro (Frz.mk ?_) ?_ | refine And.intro ?_ (Frz.mk ?_))); repeat' first | exact True.intro | (change _ = _; with_reducible rfl) | refine And.intro ?_ ?_ | (with_reducible refine Frz.mk ?_))
  all_goals try (refine Held.mk ?_; (try dsimp only at *); (try simp only [resTy, argTy, eqD, inR, big, wantOf, zB] at *); (try simp only [resTy, argTy, eqD, inR, big, wantOf, zB, hd_eq] at *))
  all_goals try omega
  · show ((3 : Nat) : Int) ≤ 4611686018427387904
    decide
  · rename_i h
    unfold chkA; rw [if_neg h]; exact ⟨rfl, rfl⟩
  · rename_i h
    refine GHeld.mk ?_
    refine Exists.intro (0 : Nat) ?_
    refine And.intro (Leaf.mk ?_) ?_
    · repeat' first | exact True.intro | refine And.intro ?_ ?_
      all_goals try ((change _ = _ <;> try dsimp only) <;> try with_reducible rfl)
      all_goals try omega
      all_goals (rfl)
    exact ⟨Nat.zero_le _, by unfold chkA; rw [if_pos h]; rfl⟩
  · show ((2 : Nat) : Int) ≤ 4611686018427387904
    decide
  · rename_i k hk hlt h
    have e := hk.2
    have hlt : k < xs.length := by omega
    have h : ¬ spErr (xs.getD k spkZ) = 0 := fun h' => h ((spErr_first _).trans h')
    rw [chkGo_step hlt, if_neg h] at e
    rw [← e]
    exact ⟨rfl, spErr_first _⟩
  · rename_i k hk hlt h
    have e := hk.2
    have hlt : k < xs.length := by omega
    have h : spErr (xs.getD k spkZ) = 0 := (spErr_first _).symm.trans h
    rw [chkGo_step hlt, if_pos h] at e
    refine GHeld.mk ?_
    refine Exists.intro (k + 1) ?_
    refine And.intro (Leaf.mk ?_) ?_
    · repeat' first | exact True.intro | refine And.intro ?_ ?_
      all_goals try ((change _ = _ <;> try dsimp only) <;> try with_reducible rfl)
      all_goals try omega
      all_goals (rfl)
    exact ⟨⟨hlt, e⟩, (show xs.length - (k + 1) < xs.length - k by omega)⟩
  · rename_i k hk hlt
    have e := hk.2
    rw [show xs.length - k = 0 by omega] at e
    rw [← e]; exact ⟨rfl, rfl⟩
end Go.Eng.Ar

namespace Go.Eng
open Ieee
set_option linter.all false
theorem cut_le {n drop B : Nat} {neg : Bool} (h : n < 2 ^ (B + drop)) : Toward.even.cut neg n drop ≤ 2 ^ B := by
  unfold Toward.cut
  dsimp only
  have hgap : ∀ g : Nat, 0 < g → n / g + (if (decide (g < 2 * (n % g)) || (g == 2 * (n % g) && n / g % 2 == 1)) = true then 1 else 0) ≤ n / g + 1 := fun g _ => by split <;> omega
  rw [Nat.one_shiftLeft]
  have hb : ∀ b : Bool, b.toNat ≤ 1 := fun b => by cases b <;> decide
  refine Nat.le_trans (Nat.add_le_add_left (hb _) _) ?_
  rcases Nat.le_total drop (n.log2 + 2) with hd | hd
  · rw [Nat.min_eq_left hd]
    have : n / 2 ^ drop < 2 ^ B := by
      rw [Nat.div_lt_iff_lt_mul (Nat.two_pow_pos _), ← Nat.pow_add]; exact h
    omega
  · rw [Nat.min_eq_right hd]
    have : n / 2 ^ (n.log2 + 2) = 0 := by
      refine Nat.div_eq_of_lt ?_
      have := Nat.lt_log2_self (n := n)
      calc n < 2 ^ (n.log2 + 1) := this
        _ ≤ 2 ^ (n.log2 + 2) := Nat.pow_le_pow_right (by decide) (by omega)
    rw [this]
    have := Nat.two_pow_pos B
    omega
theorem near_le {mag : Nat} {place : Int} {R : Nat} (h1R : 1 ≤ R) (hR : place + mag.log2 + 1022 < R) : ∃ r, double.nearest false mag place = r ∧ r ≤ (R + 1) * 2 ^ 52 := by
  refine ⟨_, rfl, ?_⟩
  unfold Format.nearest
  split
  · exact Nat.zero_le _
  dsimp only
  have hw : ∀ x, double.word false x = x := fun x => rfl
  rw [hw]
  refine Nat.le_trans (Nat.min_le_left _ _) ?_
  have hl : double.leastPlace = -1074 := by decide
  have hf : double.fractionBits = 52 := rfl
  have hbn : double.binade = 2 ^ 52 := rfl
  rw [hl, hf, hbn]
  obtain ⟨last, hlast⟩ : ∃ last, max (place + (mag.log2 : Int) - ((52 : Nat) : Int)) (-1074) = last := ⟨_, rfl⟩
  rw [hlast]
  have hk : Toward.even.cut false (mag <<< (place - last).toNat) (last - place).toNat ≤ 2 ^ 53 := by
    refine cut_le ?_
    rw [Nat.shiftLeft_eq]
    have hm := Nat.lt_log2_self (n := mag)
    calc mag * 2 ^ (place - last).toNat < 2 ^ (mag.log2 + 1) * 2 ^ (place - last).toNat := Nat.mul_lt_mul_of_pos_right hm (Nat.two_pow_pos _)
      _ = 2 ^ (mag.log2 + 1 + (place - last).toNat) := (Nat.pow_add ..).symm
      _ ≤ 2 ^ (53 + (last - place).toNat) := Nat.pow_le_pow_right (by decide) (by omega)
  have h53 : 2 ^ 53 = 2 * 2 ^ 52 := rfl
  rw [h53] at hk
  have hx : (last - -1074).toNat + 2 ≤ R + 1 := by omega
  refine Nat.le_trans (Nat.add_le_add_left hk _) ?_
  rw [← Nat.add_mul]
  exact Nat.mul_le_mul_right _ hx
theorem read_le {r R : Nat} (h1 : 1 ≤ R) (hR : R ≤ 2000) (h : r ≤ R * 2 ^ 52) : ∃ m p, double.read r = .number false m p ∧ m < 2 ^ 53 ∧ p ≤ (R : Int) - 1075 := by
  have hs : double.signWeight = 2 ^ 63 := by decide
  have hb : double.binade = 2 ^ 52 := rfl
  have hi : double.infRung = 2047 * 2 ^ 52 := by decide
  have hl : double.leastPlace = -1074 := by decide
  unfold Format.read
  rw [hs, hb, hi, hl]
  have hr : r < 2 ^ 63 := by omega
  have e1 : r / 2 ^ 63 = 0 := Nat.div_eq_of_lt hr
  have e2 : r % 2 ^ 63 = r := Nat.mod_eq_of_lt hr
  rw [e1, e2]
  dsimp only
  have hn : (0 % 2 == 1) = false := rfl
  rw [hn]
  split
  · rename_i h2
    exact ⟨r, -1074, rfl, by omega, by omega⟩
  · rw [if_pos (by omega)]
    refine ⟨_, _, rfl, by omega, ?_⟩
    omega
theorem rootFrom_lt (n : Nat) : ∀ (todo root : Nat), Datum.rootFrom n todo root < root + 2 ^ todo
  | 0, root => by simp [Datum.rootFrom]
  | todo + 1, root => by
    unfold Datum.rootFrom
    dsimp only
    rw [Nat.one_shiftLeft, Nat.pow_succ]
    split
    · have := rootFrom_lt n todo (root + 2 ^ todo); omega
    · have := rootFrom_lt n todo root
      have := Nat.two_pow_pos todo
      omega
theorem log2_lt {m k : Nat} (h : m < 2 ^ k) (hk : 1 ≤ k) : m.log2 ≤ k - 1 := by
  rcases Nat.eq_zero_or_pos m with rfl | hm
  · simp
  · have := (Nat.log2_lt (by omega)).2 h
    omega
theorem root_le {m : Nat} {i : Int} (hm : m < 2 ^ 53) (hi : i ≤ -2) : ∃ m' p', (Datum.number false m i).root 54 = some (.number false m' p') ∧ (m' = 0 ∨ p' + m'.log2 + 1022 < 1048) := by
  simp only [Datum.root, Bool.false_eq_true, if_false]
  split
  · rename_i h; exact ⟨m, i, rfl, .inl h⟩
  · rename_i hne
    have hl : m.log2 ≤ 52 := log2_lt hm (by decide)
    obtain ⟨more, hmore⟩ : ∃ more, 2 * 54 - m.log2 + ((i - ((2 * 54 - m.log2 : Nat) : Int)) % 2).toNat = more := ⟨_, rfl⟩
    rw [hmore]
    have h1 : 56 ≤ more := by omega
    have h2 : m.log2 + more ≤ 109 := by omega
    obtain ⟨n, hn⟩ : ∃ n, m <<< more = n := ⟨_, rfl⟩
    rw [hn]
    have hnl : n.log2 ≤ 109 := by
      have : n < 2 ^ 110 := by
        rw [← hn, Nat.shiftLeft_eq]
        have hm' := Nat.lt_log2_self (n := m)
        calc m * 2 ^ more < 2 ^ (m.log2 + 1) * 2 ^ more := Nat.mul_lt_mul_of_pos_right hm' (Nat.two_pow_pos _)
          _ = 2 ^ (m.log2 + 1 + more) := (Nat.pow_add ..).symm
          _ ≤ 2 ^ 110 := Nat.pow_le_pow_right (by decide) (by omega)
      exact log2_lt this (by decide)
    refine ⟨_, _, rfl, .inr ?_⟩
    have hw := rootFrom_lt n (n.log2 / 2 + 1) 0
    have hw2 : Datum.rootFrom n (n.log2 / 2 + 1) 0 < 2 ^ 55 := by
      refine Nat.lt_of_lt_of_le (by simpa using hw) (Nat.pow_le_pow_right (by decide) (by omega))
    have hb : ∀ b : Bool, b.toNat ≤ 1 := fun b => by cases b <;> decide
    have hmag : 2 * Datum.rootFrom n (n.log2 / 2 + 1) 0 + (Datum.rootFrom n (n.log2 / 2 + 1) 0 * Datum.rootFrom n (n.log2 / 2 + 1) 0 != n).toNat < 2 ^ 56 := by
      have := hb (Datum.rootFrom n (n.log2 / 2 + 1) 0 * Datum.rootFrom n (n.log2 / 2 + 1) 0 != n)
      omega
    have hlm := log2_lt hmag (by decide)
    omega
theorem cut0_le {m drop : Nat} (hm : m < 2 ^ 53) (hd : 26 ≤ drop) : Toward.zero.cut false m drop ≤ 134217728 := by
  unfold Toward.cut
  dsimp only
  rw [Nat.one_shiftLeft]
  show m / 2 ^ min drop (m.log2 + 2) + 0 ≤ _
  rcases Nat.le_total drop (m.log2 + 2) with h | h
  · rw [Nat.min_eq_left h]
    have h1 : m / 2 ^ drop ≤ m / 2 ^ 26 := Nat.div_le_div_left (Nat.pow_le_pow_right (by decide) hd) (Nat.two_pow_pos _)
    have h2 : m / 2 ^ 26 < 2 ^ 27 := by omega
    omega
  · rw [Nat.min_eq_right h]
    have : m / 2 ^ (m.log2 + 2) = 0 := by
      refine Nat.div_eq_of_lt ?_
      have := Nat.lt_log2_self (n := m)
      calc m < 2 ^ (m.log2 + 1) := this
        _ ≤ 2 ^ (m.log2 + 2) := Nat.pow_le_pow_right (by decide) (by omega)
    omega
theorem sq_val {n : Int} (h0 : 0 ≤ n) (h1 : n < 1125899906842624) : ∃ r v, FloatKind.f64.format.sqrt (floatOfInt .f64 n) = some r ∧ floatToIntVal .f64 r .i64 = some v ∧ 0 ≤ v ∧ v ≤ 134217728 := by
  have e0 : floatOfInt .f64 n = double.nearest false n.natAbs 0 := by
    show double.nearest (decide (n < 0)) n.natAbs 0 = _
    rw [decide_eq_false (by omega)]
  have hl : n.natAbs.log2 ≤ 49 := log2_lt (k := 50) (by omega) (by decide)
  obtain ⟨x, hx, hxr⟩ := near_le (mag := n.natAbs) (place := 0) (R := 1072) (by decide) (by omega)
  obtain ⟨m, i, hr, hm, hi⟩ := read_le (R := 1073) (by decide) (by decide) hxr
  obtain ⟨m', p', hroot, hcase⟩ := root_le (m := m) (i := i) hm (by omega)
  have hs : FloatKind.f64.format.sqrt (floatOfInt .f64 n) = some (double.nearest false m' p') := by
    rw [e0, hx]
    show ((double.read x).root 54).map double.write = _
    rw [hr, hroot]; rfl
  have hy : double.nearest false m' p' ≤ 1049 * 2 ^ 52 := by
    rcases hcase with h | h
    · subst h
      have : double.nearest false 0 p' = 0 := by unfold Format.nearest; rw [if_pos rfl]; rfl
      rw [this]; exact Nat.zero_le _
    · obtain ⟨y, hy, hyr⟩ := near_le (mag := m') (place := p') (R := 1048) (by decide) h
      rw [hy]; exact hyr
  obtain ⟨m2, p2, hr2, hm2, hp2⟩ := read_le (R := 1049) (by decide) (by decide) hy
  have hz : p2.toNat = 0 := by omega
  have hc := cut0_le (m := m2) (drop := (-p2).toNat) hm2 (by omega)
  refine ⟨_, (Toward.zero.cut false m2 (-p2).toNat : Nat), hs, ?_, by omega, by omega⟩
  unfold floatToIntVal
  have ht : (FloatKind.f64.decode (double.nearest false m' p')).toInt .zero = some ((Toward.zero.cut false m2 (-p2).toNat : Nat) : Int) := by
    show (double.read (double.nearest false m' p')).toInt .zero = _
    rw [hr2]
    simp only [Datum.toInt, Datum.integral, hz, Nat.shiftLeft_zero, signed, Bool.false_eq_true, if_false]
  rw [ht]
  have hmin : IntKind.min .i64 = -9223372036854775808 := by decide
  have hmax : IntKind.max .i64 = 9223372036854775807 := by decide
  dsimp only
  rw [if_pos (by rw [hmin, hmax]; omega)]
end Go.Eng

namespace Go.Eng.Ar
open Go.Eng Go.Proofs
set_option linter.all false
set_option maxRecDepth 100000
set_option maxHeartbeats 8000000
@[reducible] def sSqrt : Spec := { pats := [.dat (.flt .f64)], res := [{ t := .flt .f64 }], pre := fun x => (FloatKind.f64.format.sqrt x.1).isSome = true, f := fun x => ((FloatKind.f64.format.sqrt x.1).getD 0, ()) }
theorem h149 : Ok 149 sSqrt := by
  refine mk (ctr := []) trivial (nt := 5) Tryz.func149 rfl rfl rfl rfl (by kernel_rfl) (by kernel_rfl) (fun _ => []) ?_
  rintro ⟨(x : Nat), _⟩ h
  repeat' (intro hzz; (try (rename Two => hq; cases hq)); (try dsimp only at hzz); (try simp only [resTy, argTy, eqD, inR, big, wantOf, zB] at hzz); (try (revert hzz; intro _)))
  all_goals try (rename Unit => hq; clear hq)
  all_goals try ((with_reducible refine Held.mk ?_); (with_reducible (first | refine Frz.mk ?_ | refine And.intro (Frz.mk ?_) ?_ | refine And.intro ?_ (Frz.mk ?_))); repeat' first | exact True.intro | (change _ = _; with_reducible rfl) | refine And.intro ?_ ?_ | (with_reducible refine Frz.mk ?_))
  all_goals try (refine Held.mk ?_; (try dsimp only at *); (try simp only [resTy, argTy, eqD, inR, big, wantOf, zB] at *))
  all_goals (first | exact h | trace_state)
def rtGo : Nat → Nat → Nat → Nat
  | 0, r, _ => r
  | k + 1, r, n => bif Nat.ble ((r + 2 ^ k) * (r + 2 ^ k)) n then rtGo k (r + 2 ^ k) n else rtGo k r n
def rt (n : Nat) : Nat := rtGo 31 0 n
theorem rtGo_spec : ∀ (k r n : Nat), r * r ≤ n → n < (r + 2 ^ k) * (r + 2 ^ k) → rtGo k r n * rtGo k r n ≤ n ∧ n < (rtGo k r n + 1) * (rtGo k r n + 1)
  | 0, r, n, h1, h2 => ⟨h1, by simpa [rtGo] using h2⟩
  | k + 1, r, n, h1, h2 => by
    simp only [rtGo]
    cases hb : Nat.ble ((r + 2 ^ k) * (r + 2 ^ k)) n with
    | true =>
      have := Nat.le_of_ble_eq_true hb
      refine rtGo_spec k _ n this ?_
      rw [show r + 2 ^ k + 2 ^ k = r + 2 ^ (k + 1) by rw [Nat.pow_succ]; omega]
      exact h2
    | false =>
      refine rtGo_spec k r n h1 ?_
      rcases Nat.lt_or_ge n ((r + 2 ^ k) * (r + 2 ^ k)) with h | h
      · exact h
      · rw [Nat.ble_eq_true_of_le h] at hb; cases hb
theorem rt_spec {n : Nat} (h : n < 2 ^ 62) : rt n * rt n ≤ n ∧ n < (rt n + 1) * (rt n + 1) := rtGo_spec 31 0 n (by omega) (by simpa using h)
theorem sq_uniq {n a b : Nat} (h1 : a * a ≤ n) (h2 : n < (a + 1) * (a + 1)) (h3 : b * b ≤ n) (h4 : n < (b + 1) * (b + 1)) : a = b := by
  rcases Nat.lt_trichotomy a b with h | h | h
  · have := Nat.mul_le_mul (show a + 1 ≤ b by omega) (show a + 1 ≤ b by omega); omega
  · exact h
  · have := Nat.mul_le_mul (show b + 1 ≤ a by omega) (show b + 1 ≤ a by omega); omega
abbrev pRoot (n : Int) : Prop := 0 ≤ n ∧ n < 1125899906842624
def rtI (n : Int) : Int := (rt n.toNat : Int)
theorem rtI_spec {n : Int} (h : pRoot n) : 0 ≤ rtI n ∧ rtI n * rtI n ≤ n ∧ n < (rtI n + 1) * (rtI n + 1) ∧ rtI n < 33554432 := by
  obtain ⟨e1, e2⟩ := rt_spec (n := n.toNat) (by omega)
  have g1 : ((rt n.toNat * rt n.toNat : Nat) : Int) = rtI n * rtI n := by simp [rtI]
  have g2 : (((rt n.toNat + 1) * (rt n.toNat + 1) : Nat) : Int) = (rtI n + 1) * (rtI n + 1) := by simp [rtI]
  have g3 : ((rt n.toNat : Nat) : Int) = rtI n := rfl
  have g4 : rt n.toNat < 33554432 := by
    rcases Nat.lt_or_ge (rt n.toNat) 33554432 with h' | h'
    · exact h'
    · have := Nat.mul_le_mul h' h'; omega
  exact ⟨by omega, by omega, by omega, by omega⟩
theorem rtI_eq {n : Int} (h : pRoot n) {r : Nat} (h1 : (r : Int) * r ≤ n) (h2 : n < ((r : Int) + 1) * ((r : Int) + 1)) : (r : Int) = rtI n := by
  obtain ⟨e1, e2⟩ := rt_spec (n := n.toNat) (by omega)
  have g1 : ((r * r : Nat) : Int) = (r : Int) * r := by simp
  have g2 : (((r + 1) * (r + 1) : Nat) : Int) = ((r : Int) + 1) * ((r : Int) + 1) := by simp
  have := sq_uniq (n := n.toNat) (a := r) (b := rt n.toNat) (by omega) (by omega) e1 e2
  rw [this]; rfl
theorem sq_lt {n : Int} {r : Nat} (h : pRoot n) (h1 : (r : Int) * r ≤ n) : r < 33554432 := by
  have g1 : ((r * r : Nat) : Int) = (r : Int) * r := by simp
  rcases Nat.lt_or_ge r 33554432 with h' | h'
  · exact h'
  · have := Nat.mul_le_mul h' h'; omega
theorem sq_bd {r : Nat} (h : r ≤ 134217728) : 0 ≤ (r : Int) * r ∧ (r : Int) * r ≤ 18014398509481984 := by
  have g1 : ((r * r : Nat) : Int) = (r : Int) * r := by simp
  have := Nat.mul_le_mul h h
  omega
@[reducible] def sRoot : Spec := { pats := [.dat I64], res := [{ t := I64 }], pre := fun x => pRoot x.1, f := fun x => (rtI x.1, ()) }
def rootAnn1 (n : Int) : LoopAnn := { σ := Nat, pat := fun r => [sI 3 r], inv := fun r => r ≤ 134217728, meas := fun r => r }
def rootAnn2 (n : Int) : LoopAnn := { σ := Nat, pat := fun r => [sI 3 r], inv := fun r => (r : Int) * r ≤ n, meas := fun r => 33554432 - r }
theorem h112 : Ok 112 sRoot := by
  refine mk (ctr := [(149, sSqrt)]) ⟨h149, trivial⟩ (nt := 25) Tryz.func112 rfl rfl rfl rfl (by kernel_rfl) (by kernel_rfl) (fun x => [fun _ => rootAnn1 x.1, fun _ => rootAnn2 x.1]) ?_
  rintro ⟨(n : Int), _⟩ (hn : pRoot n)
  obtain ⟨x, v, hx, hv, hv0, hv1⟩ := sq_val hn.1 hn.2
  repeat' (intro hzz; (try (rename Two => hq; cases hq)); (try dsimp only at hzz); (try simp only [resTy, argTy, eqD, inR, big, wantOf, zB] at hzz); (try simp only [resTy, argTy, eqD, inR, big, wantOf, zB, hx, Option.getD_some, Option.isSome_some] at hzz); (try (revert hzz; intro _)))
  all_goals try (rename Unit => hq; clear hq)
  all_goals try ((with_reducible refine Held.mk ?_); (with_reducible (first | refine Frz.mk ?_ | refine And.intro (Frz.mk ?_) ?_ | refine And.intro ?_ (Frz.mk ?_))); repeat' first | exact True.intro | (change _ = _; with_reducible rfl) | refine And.intro ?_ ?_ | (with_reducible refine Frz.mk ?_))
  all_goals try (refine Held.mk ?_; (try dsimp only at *); (try simp only [resTy, argTy, eqD, inR, big, wantOf, zB] at *); (try simp only [resTy, argTy, eqD, inR, big, wantOf, zB, hx, Option.getD_some, Option.isSome_some] at *))
  all_goals try omega
  · rw [hv]; rfl
  ·
    refine GHeld.mk ?_
    refine Exists.intro v.toNat ?_
    refine And.intro (Leaf.mk ?_) ?_
    · repeat' first | exact True.intro | refine And.intro ?_ ?_
      all_goals try ((change _ = _ <;> try dsimp only) <;> try with_reducible rfl)
      all_goals try omega
      all_goals ((rw [hx, Option.getD_some, hv, Option.getD_some]; omega))
    omega
  · rename_i r hr
    have := sq_bd hr; omega
  · rename_i r hr h
    have h0 : r ≠ 0 := fun e => by subst e; have := hn.1; simp at h; omega
    refine GHeld.mk ?_
    refine Exists.intro (r - 1) ?_
    refine And.intro (Leaf.mk ?_) ?_
    · repeat' first | exact True.intro | refine And.intro ?_ ?_
      all_goals try ((change _ = _ <;> try dsimp only) <;> try with_reducible rfl)
      all_goals try omega
      all_goals (omega)
    exact ⟨(show r - 1 ≤ 134217728 by omega), (show r - 1 < r by omega)⟩
  · rename_i r hr h
    refine GHeld.mk ?_
    refine Exists.intro r ?_
    refine And.intro (Leaf.mk ?_) ?_
    · repeat' first | exact True.intro | refine And.intro ?_ ?_
      all_goals try ((change _ = _ <;> try dsimp only) <;> try with_reducible rfl)
      all_goals try omega
      all_goals (rfl)
    exact h
  · rename_i q hq hqn r h
    have := sq_lt hn h; omega
  · rename_i q hq hqn r h
    have := sq_lt hn h; omega
  · rename_i q hq hqn r h
    have hlt := sq_lt hn h
    have := sq_bd (r := r + 1) (by omega)
    push_cast at this
    omega
  · rename_i q hq hqn r h1 h
    have := sq_lt hn h1; omega
  · rename_i q hq hqn r h1 h
    have hlt := sq_lt hn (r := r + 1) (by push_cast; exact h)
    refine GHeld.mk ?_
    refine Exists.intro (r + 1) ?_
    refine And.intro (Leaf.mk ?_) ?_
    · repeat' first | exact True.intro | refine And.intro ?_ ?_
      all_goals try ((change _ = _ <;> try dsimp only) <;> try with_reducible rfl)
      all_goals try omega
      all_goals ((push_cast; rfl))
    exact ⟨(show ((r + 1 : Nat) : Int) * ((r + 1 : Nat) : Int) ≤ n by push_cast; exact h), (show 33554432 - (r + 1) < 33554432 - r by omega)⟩
  · rename_i q hq hqn r h1 h
    exact rtI_eq hn h1 h
end Go.Eng.Ar

namespace Go.Eng.Ar
open Go.Eng Go.Proofs
set_option linter.all false
set_option maxRecDepth 100000
set_option maxHeartbeats 8000000
theorem ok_weak {f : Nat} {pats : List Pat} {res : List RC} {pre pre' : (argTy pats).Den → Prop} {F F' : (argTy pats).Den → (resTy res).Den} (h : Ok f { pats := pats, res := res, pre := pre, f := F }) (hp : ∀ x, pre' x → pre x) (hf : ∀ x, pre' x → F x = F' x) : Ok f { pats := pats, res := res, pre := pre', f := F' } := by
  refine ⟨fun w M x vs bs hM hA hx => ?_, h.2⟩
  have h1 := h.1 w M x vs bs hM hA (hp x hx)
  have h2 : F x = F' x := hf x hx
  refine h1.mono fun e w' ⟨rs, g, e1, e2, e3⟩ => ⟨rs, g, e1, e2, ?_⟩
  have e3 : ResOK w' _ _ res (F x) rs g := e3
  rw [h2] at e3; exact e3
abbrev PlaceD : Type := PlaceT.Den
abbrev wr (n : Int) : Int := RowKit.wrap64 n
theorem wr_in {n : Int} (h : -9223372036854775808 ≤ n ∧ n ≤ 9223372036854775807) : wr n = n := by
  unfold wr RowKit.wrap64; omega
def dW (x y : Int) : Int := wr (wr (x - y) * wr (x - y))
def dP (x y : Int) : Int := (x - y) * (x - y)
def sqWC (a1 a2 a3 b1 b2 b3 : Int) : Int := wr (wr (dW a1 b1 + dW a2 b2) + dW a3 b3)
def sqC (a1 a2 a3 b1 b2 b3 : Int) : Int := dP a1 b1 + dP a2 b2 + dP a3 b3
def sqW (a b : PlaceD) : Int := sqWC a.1 a.2.1 a.2.2.1 b.1 b.2.1 b.2.2.1
def sqP (a b : PlaceD) : Int := sqC a.1 a.2.1 a.2.2.1 b.1 b.2.1 b.2.2.1
def inC (x : Int) : Prop := -5000 ≤ x ∧ x ≤ 5000
def inP (p : PlaceD) : Prop := inC p.1 ∧ inC p.2.1 ∧ inC p.2.2.1
theorem inP_of {p : PlaceD} (h : plErr p.1 p.2.1 p.2.2.1 = 0) : inP p := by
  simp only [plErr] at h
  split at h
  · assumption
  · cases h
theorem plErr_of {p : PlaceD} (h : inP p) : plErr p.1 p.2.1 p.2.2.1 = 0 := by
  simp only [plErr]; exact if_pos h
theorem sq_b {x : Int} (h1 : -10000 ≤ x) (h2 : x ≤ 10000) : 0 ≤ x * x ∧ x * x ≤ 100000000 := by
  by_cases h : 0 ≤ x
  · exact ⟨Int.mul_nonneg h h, Int.mul_le_mul h2 h2 h (by omega)⟩
  · have e : x * x = (-x) * (-x) := by rw [Int.neg_mul_neg]
    have h3 : -x ≤ 10000 := by omega
    have h4 : 0 ≤ -x := by omega
    rw [e]
    exact ⟨Int.mul_nonneg h4 h4, Int.mul_le_mul h3 h3 h4 (by decide)⟩
theorem dP_bd {x y : Int} (hx : inC x) (hy : inC y) : 0 ≤ dP x y ∧ dP x y ≤ 100000000 := by
  obtain ⟨h1, h2⟩ := hx
  obtain ⟨h3, h4⟩ := hy
  exact sq_b (by omega) (by omega)
theorem dW_eq {x y : Int} (hx : inC x) (hy : inC y) : dW x y = dP x y := by
  have h := dP_bd hx hy
  obtain ⟨h1, h2⟩ := hx
  obtain ⟨h3, h4⟩ := hy
  unfold dW dP at *
  rw [wr_in (n := x - y) (by omega), wr_in (by omega)]
theorem sqP_bd {a b : PlaceD} (ha : inP a) (hb : inP b) : 0 ≤ sqP a b ∧ sqP a b ≤ 300000000 := by
  have h1 := dP_bd ha.1 hb.1
  have h2 := dP_bd ha.2.1 hb.2.1
  have h3 := dP_bd ha.2.2 hb.2.2
  unfold sqP sqC; omega
theorem sqW_eq {a b : PlaceD} (ha : inP a) (hb : inP b) : sqW a b = sqP a b := by
  have h1 := dP_bd ha.1 hb.1
  have h2 := dP_bd ha.2.1 hb.2.1
  have h3 := dP_bd ha.2.2 hb.2.2
  unfold sqW sqP sqWC sqC
  rw [dW_eq ha.1 hb.1, dW_eq ha.2.1 hb.2.1, dW_eq ha.2.2 hb.2.2]
  rw [wr_in (n := dP a.1 b.1 + dP a.2.1 b.2.1) (by omega)]
  exact wr_in (by omega)
@[reducible] def sSquare : Spec := { pats := [.dat WayT], res := [{ t := I64 }], pre := fun _ => True, f := fun x => (sqW x.1.1 x.1.2.1, ()) }
def cl (n b : Int) : Int := -(-n / b)
theorem cl_eq {n b : Int} (hn : 0 ≤ n) (hb : 0 < b) : (n + b - 1).tdiv b = cl n b := by
  rw [Int.tdiv_eq_ediv_of_nonneg (by omega)]
  unfold cl
  have h1 := Int.emod_nonneg (n + b - 1) (show b ≠ 0 by omega)
  have h2 := Int.emod_lt_of_pos (n + b - 1) hb
  have h3 := Int.emod_def (n + b - 1) b
  have h4 : (-n) / b = -((n + b - 1) / b) := by
    refine Int.ediv_eq_iff_of_pos hb |>.2 ⟨?_, ?_⟩
    · rw [Int.neg_mul]; rw [Int.mul_comm] ; omega
    · rw [Int.neg_mul, Int.mul_comm]; omega
  omega
abbrev pNs (n : Int) : Prop := 0 ≤ n ∧ n ≤ 1000000000000000000
abbrev pAb (n b : Int) : Prop := (0 ≤ n ∧ n ≤ 1000000000000000000) ∧ (0 < b ∧ b ≤ 1000000000000000000)
@[reducible] def sAbove : Spec := { pats := [.dat I64, .dat I64], res := [{ t := I64 }], pre := fun x => pAb x.1 x.2.1, f := fun x => (cl x.1 x.2.1, ()) }
theorem div_bd {n b : Int} (hn : 0 ≤ n) (hb : 0 < b) : 0 ≤ n / b ∧ n / b ≤ n := ⟨Int.ediv_nonneg hn (by omega), Int.ediv_le_self _ hn⟩
theorem cl_bd {n b : Int} (hn : 0 ≤ n) (hb : 0 < b) : 0 ≤ cl n b ∧ cl n b ≤ n := by
  rw [← cl_eq hn hb, Int.tdiv_eq_ediv_of_nonneg (by omega)]
  refine ⟨Int.ediv_nonneg (by omega) (by omega), ?_⟩
  by_cases h0 : n = 0
  · subst h0
    have := Int.ediv_eq_zero_of_lt (a := 0 + b - 1) (b := b) (by omega) (by omega)
    omega
  · refine Int.lt_add_one_iff.1 (Int.ediv_lt_of_lt_mul hb ?_)
    have : 1 * (b - 1) ≤ n * (b - 1) := Int.mul_le_mul_of_nonneg_right (by omega) (by omega)
    rw [Int.one_mul, Int.mul_sub, Int.mul_one] at this
    rw [Int.add_mul, Int.one_mul]
    omega
theorem h136 : Ok 136 sAbove := by
  refine mk (ctr := []) trivial (nt := 11) Tryz.func136 rfl rfl rfl rfl (by kernel_rfl) (by kernel_rfl) (fun _ => []) ?_
  rintro ⟨(n : Int), (b : Int), _⟩ ⟨(h1 : 0 ≤ n ∧ n ≤ 1000000000000000000), (h2 : 0 < b ∧ b ≤ 1000000000000000000)⟩
  have e := cl_eq h1.1 h2.1
  have e2 := cl_bd h1.1 h2.1
  repeat' (intro hzz; (try (rename Two => hq; cases hq)); (try dsimp only at hzz); (try simp only [resTy, argTy, eqD, inR, big, wantOf, zB] at hzz); (try simp only [resTy, argTy, eqD, inR, big, wantOf, zB, e] at hzz); (try (revert hzz; intro _)))
  all_goals try (rename Unit => hq; clear hq)
  all_goals try ((with_reducible refine Held.mk ?_); (with_reducible (first | refine Frz.mk ?_ | refine And.intro (Frz.mk ?_) ?_ | refine And.intro ?_ (Frz.mk ?_))); repeat' first | exact True.intro | (change _ = _; with_reducible rfl) | refine And.intro ?_ ?_ | (with_reducible refine Frz.mk ?_))
  all_goals try (refine Held.mk ?_; (try dsimp only at *); (try simp only [resTy, argTy, eqD, inR, big, wantOf, zB] at *); (try simp only [resTy, argTy, eqD, inR, big, wantOf, zB, e] at *))
  all_goals try omega
def rtU (n : Int) : Int := if rtI n * rtI n < n then rtI n + 1 else rtI n
@[reducible] def sRootUp : Spec := { sRoot with f := fun x => (rtU x.1, ()) }
theorem h113 : Ok 113 sRootUp := by
  refine mk (ctr := [(112, sRoot)]) ⟨h112, trivial⟩ (nt := 14) Tryz.func113 rfl rfl rfl rfl (by kernel_rfl) (by kernel_rfl) (fun _ => []) ?_
  rintro ⟨(n : Int), _⟩ (hn : pRoot n)
  have h1 := rtI_spec hn
  have h2 : 0 ≤ rtI n * rtI n := Int.mul_nonneg h1.1 h1.1
  have h3 := hn.2
  repeat' (intro hzz; (try (rename Two => hq; cases hq)); (try dsimp only at hzz); (try simp only [resTy, argTy, eqD, inR, big, wantOf, zB] at hzz); (try simp only [resTy, argTy, eqD, inR, big, wantOf, zB, pRoot] at hzz); (try (revert hzz; intro _)))
  all_goals try (rename Unit => hq; clear hq)
  all_goals try ((with_reducible refine Held.mk ?_); (with_reducible (first | refine Frz.mk ?_ | refine And.intro (Frz.mk ?_) ?_ | refine And.intro ?_ (Frz.mk ?_))); repeat' first | exact True.intro | (change _ = _; with_reducible rfl) | refine And.intro ?_ ?_ | (with_reducible refine Frz.mk ?_))
  all_goals try (refine Held.mk ?_; (try dsimp only at *); (try simp only [resTy, argTy, eqD, inR, big, wantOf, zB] at *); (try simp only [resTy, argTy, eqD, inR, big, wantOf, zB, pRoot] at *))
  all_goals first | exact hn | omega | (simp only [rtU]; split <;> omega) | trace_state
theorem sq_calls (a b c d e f : Int) (w : World) : Calls Tryz.prog 138 #[.agg #[.int .i64 a, .int .i64 b, .int .i64 c, .int .i64 d, .int .i64 e, .int .i64 f]] w fun r w' => r = .returned (.int .i64 (sqW (a, b, c, ()) (d, e, f, ()))) ∧ ∃ o nq, w' = (w.alloc o).drewN nq := by
  have mixed := mixed
  have t3 := Tryz.underlying3
  have hn : Tryz.f138.ntmps = 38 := rfl
  go_enter Tryz.func138, hn
  go_wp2
  go_quiet (fail)
  go_wp2
  go_ret
  exact ⟨rfl, _, _, rfl⟩
theorem h138 : Ok 138 sSquare := by
  refine ⟨?_, Tryz.f138, Tryz.func138, by kernel_rfl, by kernel_rfl⟩
  rintro w M ⟨⟨⟨a, b, c, _⟩, ⟨d, e, f, _⟩, _⟩, _⟩ vs bs hM ⟨v, vs', rfl, hv, rfl, rfl⟩ _
  have hv : v = .agg #[.int .i64 a, .int .i64 b, .int .i64 c, .int .i64 d, .int .i64 e, .int .i64 f] := by
    obtain ⟨l, h1, h2⟩ := hv
    obtain ⟨l1, l2, rfl, ⟨m1, m2, rfl, h11, m3, m4, rfl, h12, m5, m6, rfl, h13, h14⟩, l3, l4, rfl, ⟨n1, n2, rfl, h21, n3, n4, rfl, h22, n5, n6, rfl, h23, h24⟩, h5⟩ := h1
    subst h11 h12 h13 h14 h21 h22 h23 h24 h5
    rcases h2 with ⟨_, h⟩ | ⟨h, _⟩
    · exact h
    · cases h
  subst hv
  refine (sq_calls a b c d e f w).mono ?_
  rintro r w' ⟨rfl, o, nq, rfl⟩
  refine ⟨[_], none, rfl, ?_, _, _, rfl, RepV.mk1 rfl rfl, rfl, rfl⟩
  refine ⟨rfl, rfl, rfl, ?_, fun b hb _ => ?_, fun b hb => by cases hb⟩
  · show w.heap.size ≤ (w.heap.push o).size
    rw [Array.size_push]; exact Nat.le_succ _
  · show (w.heap.push o)[b]? = w.heap[b]?
    rw [Array.getElem?_push, if_neg (Nat.ne_of_lt hb)]
@[reducible] def pW (x : WayT.Den) : Prop := inP x.1 ∧ inP x.2.1
@[reducible] def sSquareP : Spec := { sSquare with pre := fun x => pW x.1, f := fun x => (sqP x.1.1 x.1.2.1, ()) }
theorem h138p : Ok 138 sSquareP := ok_weak h138 (fun _ _ => trivial) (fun x h => congrArg (fun n => (n, ())) (sqW_eq h.1 h.2))
def nearB (a b : PlaceD) : Bool := decide (sqW a b < 100)
@[reducible] def sNear : Spec := { pats := [.dat WayT], res := [{ t := .bool }], pre := fun _ => True, f := fun x => (nearB x.1.1 x.1.2.1, ()) }
theorem h78 : Ok 78 sNear := by
  refine mk (ctr := [(138, sSquare)]) ⟨h138, trivial⟩ (nt := 6) Tryz.func78 rfl rfl rfl rfl (by kernel_rfl) (by kernel_rfl) (fun _ => []) ?_
  rintro ⟨⟨(a : PlaceD), (b : PlaceD), _⟩, _⟩ _
  repeat' (intro hzz; (try (rename Two => hq; cases hq)); (try dsimp only at hzz); (try simp only [resTy, argTy, eqD, inR, big, wantOf, zB] at hzz); (try simp only [resTy, argTy, eqD, inR, big, wantOf, zB, sqW] at hzz); (try (revert hzz; intro _)))
  all_goals try (rename Unit => hq; clear hq)
  all_goals try ((with_reducible refine Held.mk ?_); (with_reducible (first | refine Frz.mk ?_ | refine And.intro (Frz.mk ?_) ?_ | refine And.intro ?_ (Frz.mk ?_))); repeat' first | exact True.intro | (change _ = _; with_reducible rfl) | refine And.intro ?_ ?_ | (with_reducible refine Frz.mk ?_))
  all_goals try (refine Held.mk ?_; (try dsimp only at *); (try simp only [resTy, argTy, eqD, inR, big, wantOf, zB] at *); (try simp only [resTy, argTy, eqD, inR, big, wantOf, zB, sqW] at *))
  all_goals rfl
def farN (a b : PlaceD) : Int := sqC a.1 a.2.1 a.2.2.1 b.1 b.2.1 b.2.2.1 * 1000 * 1000
def farLC (a1 a2 a3 b1 b2 b3 : Int) : Int := rtI (sqC a1 a2 a3 b1 b2 b3 * 1000 * 1000)
def farUC (a1 a2 a3 b1 b2 b3 : Int) : Int := rtU (sqC a1 a2 a3 b1 b2 b3 * 1000 * 1000)
def farL (a b : PlaceD) : Int := farLC a.1 a.2.1 a.2.2.1 b.1 b.2.1 b.2.2.1
def farU (a b : PlaceD) : Int := farUC a.1 a.2.1 a.2.2.1 b.1 b.2.1 b.2.2.1
theorem farN_eq (a b : PlaceD) : farN a b = sqP a b * 1000 * 1000 := rfl
theorem farN_root {a b : PlaceD} (ha : inP a) (hb : inP b) : pRoot (farN a b) ∧ farN a b ≤ 300000000000000 := by
  have := sqP_bd ha hb
  rw [farN_eq]; unfold pRoot; omega
theorem rtU_bd {n : Int} (h : pRoot n) : rtI n ≤ rtU n ∧ rtU n ≤ rtI n + 1 := by
  simp only [rtU]; split <;> omega
theorem rt_le {n r : Int} (h : pRoot n) (hr : 0 ≤ r) (hn : n < r * r) : rtI n < r := by
  obtain ⟨h1, h2, h3, h4⟩ := rtI_spec h
  by_cases hl : rtI n < r
  · exact hl
  · have := Int.mul_le_mul (show r ≤ rtI n by omega) (show r ≤ rtI n by omega) hr h1
    omega
theorem rt_ge {n r : Int} (h : pRoot n) (hr : 0 ≤ r) (hn : r * r ≤ n) : r ≤ rtI n := by
  obtain ⟨h1, h2, h3, h4⟩ := rtI_spec h
  by_cases hl : r ≤ rtI n
  · exact hl
  · have := Int.mul_le_mul (show rtI n + 1 ≤ r by omega) (show rtI n + 1 ≤ r by omega) (by omega) hr
    omega
theorem far_bd {a b : PlaceD} (ha : inP a) (hb : inP b) : (0 ≤ farL a b ∧ farL a b < 17320509) ∧ (farL a b ≤ farU a b ∧ farU a b ≤ farL a b + 1) := by
  obtain ⟨h1, h2⟩ := farN_root ha hb
  exact ⟨⟨(rtI_spec h1).1, rt_le h1 (by decide) (Int.lt_of_le_of_lt h2 (by decide))⟩, rtU_bd h1⟩
theorem far_ge {a b : PlaceD} (ha : inP a) (hb : inP b) (h : 100 ≤ sqP a b) : 10000 ≤ farL a b :=
  rt_ge (farN_root ha hb).1 (by decide) (by show 10000 * 10000 ≤ sqP a b * 1000 * 1000; omega)
@[reducible] def sFar : Spec := { pats := [.dat WayT], res := [{ t := RangeT }], pre := fun x => pW x.1, f := fun x => ((farL x.1.1 x.1.2.1, farU x.1.1 x.1.2.1, ()), ()) }
theorem h135 : Ok 135 sFar := by
  refine mk (ctr := [(138, sSquareP), (112, sRoot), (113, sRootUp)]) ⟨h138p, h112, h113, trivial⟩ (nt := 13) Tryz.func135 rfl rfl rfl rfl (by kernel_rfl) (by kernel_rfl) (fun _ => []) ?_
  rintro ⟨⟨(a : PlaceD), (b : PlaceD), _⟩, _⟩ ⟨(ha : inP a), (hb : inP b)⟩
  have h1 := sqP_bd ha hb
  have h2 := (farN_root ha hb).1
  repeat' (intro hzz; (try (rename Two => hq; cases hq)); (try dsimp only at hzz); (try simp only [resTy, argTy, eqD, inR, big, wantOf, zB] at hzz); (try simp only [resTy, argTy, eqD, inR, big, wantOf, zB, sqW, sqP, farL, farU, pAb, pNs] at hzz); (try (revert hzz; intro _)))
  all_goals try (rename Unit => hq; clear hq)
  all_goals try ((with_reducible refine Held.mk ?_); (with_reducible (first | refine Frz.mk ?_ | refine And.intro (Frz.mk ?_) ?_ | refine And.intro ?_ (Frz.mk ?_))); repeat' first | exact True.intro | (change _ = _; with_reducible rfl) | refine And.intro ?_ ?_ | (with_reducible refine Frz.mk ?_))
  all_goals try (refine Held.mk ?_; (try dsimp only at *); (try simp only [resTy, argTy, eqD, inR, big, wantOf, zB] at *); (try simp only [resTy, argTy, eqD, inR, big, wantOf, zB, sqW, sqP, farL, farU, pAb, pNs] at *))
  all_goals try simp only [farN] at h2
  all_goals first | omega | exact h2 | exact ⟨ha, hb⟩ | exact ⟨rfl, rfl⟩ | trace_state
abbrev SndD : Type := PairT.Den
def inS (x : SndD) : Prop := (8000 ≤ x.1 ∧ x.1 ≤ 192000) ∧ (30000 ≤ x.2.1 ∧ x.2.1 ≤ 40000)
theorem inS_of {x : SndD} (h : soErr x.1 x.2.1 = 0) : inS x := by
  simp only [soErr] at h
  split at h
  · assumption
  · cases h
def trL (a b : PlaceD) (x : SndD) : Int := (farL a b * x.1) / (1000 * x.2.1)
def trU (a b : PlaceD) (x : SndD) : Int := cl (farU a b * x.1) (1000 * x.2.1)
@[reducible] def pWX (w : WayT.Den) (x : SndD) : Prop := (inP w.1 ∧ inP w.2.1) ∧ inS x
theorem fr_bd {n r : Int} (h1 : 0 ≤ n) (h2 : n ≤ 17320509) (h3 : 8000 ≤ r ∧ r ≤ 192000) : 0 ≤ n * r ∧ n * r ≤ 3325537728000 := by
  refine ⟨Int.mul_nonneg h1 (by omega), ?_⟩
  have := Int.mul_le_mul h2 h3.2 (by omega) (show (0 : Int) ≤ 17320509 by omega)
  omega
def nuL (a b : PlaceD) (x : SndD) : Int := ((farL a b * x.1) / x.2.1 + 500) / 1000
def nuU (a b : PlaceD) (x : SndD) : Int := (cl (farU a b * x.1) x.2.1 + 500) / 1000
@[reducible] def sNums : Spec := { pats := [.dat WayT, .dat PairT], res := [{ t := RangeT }], pre := fun x => pWX x.1 x.2.1, f := fun x => ((nuL x.1.1 x.1.2.1 x.2.1, nuU x.1.1 x.1.2.1 x.2.1, ()), ()) }
@[reducible] def sNearest : Spec := { pats := [.dat I64], res := [{ t := I64 }], pre := fun x => pNs x.1, f := fun x => ((x.1 + 500) / 1000, ()) }
theorem h137 : Ok 137 sNearest := by
  refine mk (ctr := []) trivial (nt := 6) Tryz.func137 rfl rfl rfl rfl (by kernel_rfl) (by kernel_rfl) (fun _ => []) ?_
  rintro ⟨(n : Int), _⟩ ⟨(h1 : 0 ≤ n), (h2 : n ≤ 1000000000000000000)⟩
  have e1 : (n + 500).tdiv 1000 = (n + 500) / 1000 := Int.tdiv_eq_ediv_of_nonneg (by omega)
  repeat' (intro hzz; (try (rename Two => hq; cases hq)); (try dsimp only at hzz); (try simp only [resTy, argTy, eqD, inR, big, wantOf, zB] at hzz); (try simp only [resTy, argTy, eqD, inR, big, wantOf, zB, sqW, sqP, farL, farU, e1] at hzz); (try (revert hzz; intro _)))
  all_goals try (rename Unit => hq; clear hq)
  all_goals try ((with_reducible refine Held.mk ?_); (with_reducible (first | refine Frz.mk ?_ | refine And.intro (Frz.mk ?_) ?_ | refine And.intro ?_ (Frz.mk ?_))); repeat' first | exact True.intro | (change _ = _; with_reducible rfl) | refine And.intro ?_ ?_ | (with_reducible refine Frz.mk ?_))
  all_goals try (refine Held.mk ?_; (try dsimp only at *); (try simp only [resTy, argTy, eqD, inR, big, wantOf, zB] at *); (try simp only [resTy, argTy, eqD, inR, big, wantOf, zB, sqW, sqP, farL, farU, e1] at *))
  all_goals try omega
theorem h77 : Ok 77 sNums := by
  refine mk (ctr := [(135, sFar), (136, sAbove), (137, sNearest)]) ⟨h135, h136, h137, trivial⟩ (nt := 30) Tryz.func77 rfl rfl rfl rfl (by kernel_rfl) (by kernel_rfl) (fun _ => []) ?_
  rintro ⟨⟨(a : PlaceD), (b : PlaceD), _⟩, ⟨(r : Int), (v : Int), _⟩, _⟩ ⟨⟨(ha : inP a), (hb : inP b)⟩, (hx : (8000 ≤ r ∧ r ≤ 192000) ∧ (30000 ≤ v ∧ v ≤ 40000))⟩
  have h1 := far_bd ha hb
  have h2 := fr_bd (n := farL a b) (r := r) (by omega) (by omega) hx.1
  have h3 := fr_bd (n := farU a b) (r := r) (by omega) (by omega) hx.1
  have e1 : (farL a b * r).tdiv v = (farL a b * r) / v := Int.tdiv_eq_ediv_of_nonneg h2.1
  have h4 := div_bd (b := v) h2.1 (by omega)
  have h5 := cl_bd (b := v) h3.1 (by omega)
  repeat' (intro hzz; (try (rename Two => hq; cases hq)); (try dsimp only at hzz); (try simp only [resTy, argTy, eqD, inR, big, wantOf, zB] at hzz); (try simp only [resTy, argTy, eqD, inR, big, wantOf, zB, sqW, sqP, farL, farU, pAb, pNs, e1] at hzz); (try (revert hzz; intro _)))
  all_goals try (rename Unit => hq; clear hq)
  all_goals try ((with_reducible refine Held.mk ?_); (with_reducible (first | refine Frz.mk ?_ | refine And.intro (Frz.mk ?_) ?_ | refine And.intro ?_ (Frz.mk ?_))); repeat' first | exact True.intro | (change _ = _; with_reducible rfl) | refine And.intro ?_ ?_ | (with_reducible refine Frz.mk ?_))
  all_goals try (refine Held.mk ?_; (try dsimp only at *); (try simp only [resTy, argTy, eqD, inR, big, wantOf, zB] at *); (try simp only [resTy, argTy, eqD, inR, big, wantOf, zB, sqW, sqP, farL, farU, pAb, pNs, e1] at *))
  all_goals first | omega | exact ⟨ha, hb⟩ | exact ⟨rfl, rfl⟩ | trace_state
def stL (a b : PlaceD) : Int := 1000000000 / farU a b
def stU (a b : PlaceD) : Int := cl 1000000000 (farL a b)
@[reducible] def pWN (w : WayT.Den) : Prop := (inP w.1 ∧ inP w.2.1) ∧ 100 ≤ sqP w.1 w.2.1
@[reducible] def sStr : Spec := { pats := [.dat WayT], res := [{ t := RangeT }], pre := fun x => pWN x.1, f := fun x => ((stL x.1.1 x.1.2.1, stU x.1.1 x.1.2.1, ()), ()) }
theorem h79 : Ok 79 sStr := by
  refine mk (ctr := [(135, sFar), (136, sAbove)]) ⟨h135, h136, trivial⟩ (nt := 13) Tryz.func79 rfl rfl rfl rfl (by kernel_rfl) (by kernel_rfl) (fun _ => []) ?_
  rintro ⟨⟨(a : PlaceD), (b : PlaceD), _⟩, _⟩ ⟨⟨(ha : inP a), (hb : inP b)⟩, (hn : 100 ≤ sqP a b)⟩
  have h1 := far_bd ha hb
  have h2 := far_ge ha hb hn
  have e1 : (1000000000 : Int).tdiv (farU a b) = 1000000000 / farU a b := Int.tdiv_eq_ediv_of_nonneg (by decide)
  have h4 := div_bd (n := 1000000000) (b := farU a b) (by omega) (by omega)
  repeat' (intro hzz; (try (rename Two => hq; cases hq)); (try dsimp only at hzz); (try simp only [resTy, argTy, eqD, inR, big, wantOf, zB] at hzz); (try simp only [resTy, argTy, eqD, inR, big, wantOf, zB, sqW, sqP, farL, farU, pAb, pNs, e1] at hzz); (try (revert hzz; intro _)))
  all_goals try (rename Unit => hq; clear hq)
  all_goals try ((with_reducible refine Held.mk ?_); (with_reducible (first | refine Frz.mk ?_ | refine And.intro (Frz.mk ?_) ?_ | refine And.intro ?_ (Frz.mk ?_))); repeat' first | exact True.intro | (change _ = _; with_reducible rfl) | refine And.intro ?_ ?_ | (with_reducible refine Frz.mk ?_))
  all_goals try (refine Held.mk ?_; (try dsimp only at *); (try simp only [resTy, argTy, eqD, inR, big, wantOf, zB] at *); (try simp only [resTy, argTy, eqD, inR, big, wantOf, zB, sqW, sqP, farL, farU, pAb, pNs, e1] at *))
  all_goals first | omega | exact ⟨ha, hb⟩ | exact ⟨rfl, rfl⟩ | trace_state
theorem sqW_near {a b : PlaceD} (ha : inP a) (hb : inP b) : nearB a b = decide (sqP a b < 100) := by
  unfold nearB; rw [sqW_eq ha hb]
theorem first3 {a b x : Int} (h : firstI [a, b, x] = 0) : a = 0 ∧ b = 0 ∧ x = 0 := by
  simp only [firstI] at h
  split at h
  · split at h
    · split at h
      · exact ⟨by assumption, by assumption, by assumption⟩
      · exact absurd h (by assumption)
    · exact absurd h (by assumption)
  · exact absurd h (by assumption)
theorem first2 {a b : Int} (h : firstI [a, b] = 0) : a = 0 ∧ b = 0 := by
  simp only [firstI] at h
  split at h
  · split at h
    · exact ⟨by assumption, by assumption⟩
    · exact absurd h (by assumption)
  · exact absurd h (by assumption)
def err3 (a b : PlaceD) (x : SndD) : Int := firstI [plErr a.1 a.2.1 a.2.2.1, plErr b.1 b.2.1 b.2.2.1, soErr x.1 x.2.1]
def err2 (a b : PlaceD) : Int := firstI [plErr a.1 a.2.1 a.2.2.1, plErr b.1 b.2.1 b.2.2.1]
abbrev RngD : Type := RangeT.Den
def trvR (a b : PlaceD) (x : SndD) : RngD × Int × Unit := if err3 a b x = 0 then ((trL a b x, trU a b x, ()), 0, ()) else ((0, 0, ()), err3 a b x, ())
def nusR (a b : PlaceD) (x : SndD) : RngD × Int × Unit := if err3 a b x = 0 then ((nuL a b x, nuU a b x, ()), 0, ()) else ((0, 0, ()), err3 a b x, ())
def strR (a b : PlaceD) : RngD × Int × Unit := if err2 a b = 0 then (if sqP a b < 100 then ((0, 0, ()), 11, ()) else ((stL a b, stU a b, ()), 0, ())) else ((0, 0, ()), err2 a b, ())
@[reducible] def sTravel : Spec := { pats := [.dat PlaceT, .dat PlaceT, .dat PairT], res := [{ t := RangeT }, { t := I64 }], pre := fun _ => True, f := fun x => trvR x.1 x.2.1 x.2.2.1 }
@[reducible] def sNumbersOf : Spec := { sTravel with f := fun x => nusR x.1 x.2.1 x.2.2.1 }
@[reducible] def sStrength : Spec := { pats := [.dat PlaceT, .dat PlaceT], res := [{ t := RangeT }, { t := I64 }], pre := fun _ => True, f := fun x => strR x.1 x.2.1 }
theorem h16 : Ok 16 sNumbersOf := by
  refine mk (ctr := [(73, sFirst), (74, sPlace), (75, sSound), (77, sNums)]) ⟨h73, h74, h75, h77, trivial⟩ (nt := 26) Tryz.func16 rfl rfl rfl rfl (by kernel_rfl) (by kernel_rfl) (fun _ => []) ?_
  rintro ⟨(a : PlaceD), (b : PlaceD), (x : SndD), _⟩ _
  repeat' (intro hzz; (try (rename Two => hq; cases hq)); (try dsimp only at hzz); (try simp only [resTy, argTy, eqD, inR, big, wantOf, zB] at hzz); (try simp only [resTy, argTy, eqD, inR, big, wantOf, zB, sqW, sqP, farL, farU, pAb, pNs] at hzz); (try (revert hzz; intro _)))
  all_goals try (rename Unit => hq; clear hq)
  all_goals try ((with_reducible refine Held.mk ?_); (with_reducible (first | refine Frz.mk ?_ | refine And.intro (Frz.mk ?_) ?_ | refine And.intro ?_ (Frz.mk ?_))); repeat' first | exact True.intro | (change _ = _; with_reducible rfl) | refine And.intro ?_ ?_ | (with_reducible refine Frz.mk ?_))
  all_goals try (refine Held.mk ?_; (try dsimp only at *); (try simp only [resTy, argTy, eqD, inR, big, wantOf, zB] at *); (try simp only [resTy, argTy, eqD, inR, big, wantOf, zB, sqW, sqP, farL, farU, pAb, pNs] at *))
  all_goals first | (show ((3 : Nat) : Int) ≤ 4611686018427387904; decide) | (rename_i h; have e : nusR a b x = ((0, 0, ()), err3 a b x, ()) := if_neg h; rw [e]; exact ⟨⟨rfl, rfl⟩, rfl⟩) | (rename_i h; obtain ⟨e1, e2, e3⟩ := first3 h; exact ⟨⟨inP_of e1, inP_of e2⟩, inS_of e3⟩) | (rename_i h; have e : nusR a b x = ((nuL a b x, nuU a b x, ()), 0, ()) := if_pos h; rw [e]; exact ⟨⟨rfl, rfl⟩, rfl⟩) | trace_state
theorem str_1 {a b : PlaceD} (h : ¬ err2 a b = 0) : strR a b = ((0, 0, ()), err2 a b, ()) := if_neg h
theorem near_2 {a b : PlaceD} (h : err2 a b = 0) : (inP a ∧ inP b) ∧ nearB a b = decide (sqP a b < 100) := by
  obtain ⟨e1, e2⟩ := first2 h
  exact ⟨⟨inP_of e1, inP_of e2⟩, sqW_near (inP_of e1) (inP_of e2)⟩
theorem str_2 {a b : PlaceD} (h : err2 a b = 0) (hn : nearB a b = true) : strR a b = ((0, 0, ()), 11, ()) := by
  have h1 : sqP a b < 100 := by rw [(near_2 h).2] at hn; exact of_decide_eq_true hn
  unfold strR; rw [if_pos h, if_pos h1]
theorem near_3 {a b : PlaceD} (h : err2 a b = 0) (hn : nearB a b = false) : 100 ≤ sqP a b := by
  have h1 : ¬ sqP a b < 100 := by rw [(near_2 h).2] at hn; exact of_decide_eq_false hn
  omega
theorem str_3 {a b : PlaceD} (h : err2 a b = 0) (hn : nearB a b = false) : strR a b = ((stL a b, stU a b, ()), 0, ()) := by
  have h1 := near_3 h hn
  unfold strR; rw [if_pos h, if_neg (by omega)]
theorem h17 : Ok 17 sStrength := by
  refine mk (ctr := [(73, sFirst), (74, sPlace), (78, sNear), (79, sStr)]) ⟨h73, h74, h78, h79, trivial⟩ (nt := 26) Tryz.func17 rfl rfl rfl rfl (by kernel_rfl) (by kernel_rfl) (fun _ => []) ?_
  rintro ⟨(a : PlaceD), (b : PlaceD), _⟩ _
  repeat' (intro hzz; (try (rename Two => hq; cases hq)); (try dsimp only at hzz); (try simp only [resTy, argTy, eqD, inR, big, wantOf, zB] at hzz); (try simp only [resTy, argTy, eqD, inR, big, wantOf, zB, sqW, sqP, farL, farU, pAb, pNs] at hzz); (try (revert hzz; intro _)))
  all_goals try (rename Unit => hq; clear hq)
  all_goals try ((with_reducible refine Held.mk ?_); (with_reducible (first | refine Frz.mk ?_ | refine And.intro (Frz.mk ?_) ?_ | refine And.intro ?_ (Frz.mk ?_))); repeat' first | exact True.intro | (change _ = _; with_reducible rfl) | refine And.intro ?_ ?_ | (with_reducible refine Frz.mk ?_))
  all_goals try (refine Held.mk ?_; (try dsimp only at *); (try simp only [resTy, argTy, eqD, inR, big, wantOf, zB] at *); (try simp only [resTy, argTy, eqD, inR, big, wantOf, zB, sqW, sqP, farL, farU, pAb, pNs] at *))
  all_goals first | (show ((2 : Nat) : Int) ≤ 4611686018427387904; decide) | (rename_i h; rw [str_1 (a := a) (b := b) h]; exact ⟨⟨rfl, rfl⟩, rfl⟩) | (rename_i h hn; rw [str_2 (a := a) (b := b) h hn]; exact ⟨⟨rfl, rfl⟩, rfl⟩) | (rename_i h hn; exact ⟨(near_2 (a := a) (b := b) h).1, near_3 (a := a) (b := b) h hn⟩) | (rename_i h hn; rw [str_3 (a := a) (b := b) h hn]; exact ⟨⟨rfl, rfl⟩, rfl⟩) | trace_state
end Go.Eng.Ar

namespace Go.Eng.Ar
open Go.Eng Go.Proofs
set_option linter.all false
set_option maxRecDepth 100000
set_option maxHeartbeats 8000000
theorem tdiv_neg {n b : Int} (hb : 0 < b) (h : n.tmod b < 0) : n.tdiv b - 1 = n / b := by
  have h1 := Int.tmod_eq_emod (a := n) (b := b)
  have h2 := Int.tdiv_eq_ediv (a := n) (b := b)
  have h3 := Int.emod_nonneg n (show b ≠ 0 by omega)
  split at h1
  · omega
  · rename_i hc
    rw [if_neg hc] at h2
    have : b.sign = 1 := Int.sign_eq_one_of_pos hb
    omega
theorem tdiv_pos {n b : Int} (hb : 0 < b) (h : 0 ≤ n.tmod b) : n.tdiv b = n / b := by
  have h1 := Int.tmod_eq_emod (a := n) (b := b)
  have h2 := Int.tdiv_eq_ediv (a := n) (b := b)
  have h3 := Int.emod_lt_of_pos n hb
  split at h1
  · rename_i hc
    rw [if_pos hc] at h2
    omega
  · omega
theorem tdiv_in {n b : Int} (h1 : -9000000000000000000 ≤ n) (h2 : n ≤ 9000000000000000000) : -9000000000000000000 ≤ n.tdiv b ∧ n.tdiv b ≤ 9000000000000000000 := by
  have h3 := Int.natAbs_tdiv_le_natAbs n b
  omega
theorem div_in {n b : Int} (hb : 0 < b) (h1 : -9000000000000000000 ≤ n) (h2 : n ≤ 9000000000000000000) : -9000000000000000001 ≤ n / b ∧ n / b ≤ 9000000000000000000 := by
  have h3 := tdiv_in (b := b) h1 h2
  by_cases h : n.tmod b < 0
  · rw [← tdiv_neg hb h]; omega
  · rw [← tdiv_pos hb (by omega)]; omega
abbrev pFloor (n b : Int) : Prop := 0 < b ∧ -9000000000000000000 ≤ n ∧ n ≤ 9000000000000000000
abbrev fFloor (n b : Int) : Int := n / b
@[reducible] def sFloor : Spec := { pats := [.dat I64, .dat I64], res := [{ t := I64 }], pre := fun x => pFloor x.1 x.2.1, f := fun x => (fFloor x.1 x.2.1, ()) }
theorem h82 : Ok 82 sFloor := by
  refine mk (ctr := []) trivial (nt := 16) Tryz.func82 rfl rfl rfl rfl (by kernel_rfl) (by kernel_rfl) (fun _ => []) ?_
  rintro ⟨(n : Int), (b : Int), _⟩ ⟨h1, h2, h3⟩
  repeat' (intro hzz; (try (rename Two => hq; cases hq)); (try dsimp only at hzz); (try simp only [resTy, argTy, eqD, inR, big, wantOf, zB] at hzz); (try simp only [resTy, argTy, eqD, inR, big, wantOf, zB, pFloor, fFloor] at hzz); (try (revert hzz; intro _)))
  all_goals try (rename Unit => hq; clear hq)
  all_goals try ((with_reducible refine Held.mk ?_); (with_reducible (first | refine Frz.mk ?_ | refine And.intro (Frz.mk ?_) ?_ | refine And.intro ?_ (Frz.mk ?_))); repeat' first | exact True.intro | (change _ = _; with_reducible rfl) | refine And.intro ?_ ?_ | (with_reducible refine Frz.mk ?_))
  all_goals try (refine Held.mk ?_; (try dsimp only at *); (try simp only [resTy, argTy, eqD, inR, big, wantOf, zB] at *); (try simp only [resTy, argTy, eqD, inR, big, wantOf, zB, pFloor, fFloor] at *))
  all_goals have hd := tdiv_in (b := b) h2 h3
  · omega
  · omega
  · omega
  · rename_i h; exact tdiv_neg h1 h
  · rename_i h; exact tdiv_pos h1 h
@[reducible] def sCeil : Spec := { sFloor with f := fun x => (cl x.1 x.2.1, ()) }
theorem h83 : Ok 83 sCeil := by
  refine mk (ctr := [(82, sFloor)]) ⟨h82, trivial⟩ (nt := 10) Tryz.func83 rfl rfl rfl rfl (by kernel_rfl) (by kernel_rfl) (fun _ => []) ?_
  rintro ⟨(n : Int), (b : Int), _⟩ ⟨h1, h2, h3⟩
  repeat' (intro hzz; (try (rename Two => hq; cases hq)); (try dsimp only at hzz); (try simp only [resTy, argTy, eqD, inR, big, wantOf, zB] at hzz); (try simp only [resTy, argTy, eqD, inR, big, wantOf, zB, pFloor, fFloor, cl] at hzz); (try (revert hzz; intro _)))
  all_goals try (rename Unit => hq; clear hq)
  all_goals try ((with_reducible refine Held.mk ?_); (with_reducible (first | refine Frz.mk ?_ | refine And.intro (Frz.mk ?_) ?_ | refine And.intro ?_ (Frz.mk ?_))); repeat' first | exact True.intro | (change _ = _; with_reducible rfl) | refine And.intro ?_ ?_ | (with_reducible refine Frz.mk ?_))
  all_goals try (refine Held.mk ?_; (try dsimp only at *); (try simp only [resTy, argTy, eqD, inR, big, wantOf, zB] at *); (try simp only [resTy, argTy, eqD, inR, big, wantOf, zB, pFloor, fFloor, cl] at *))
  all_goals have hd := div_in (n := -n) h1 (by omega) (by omega)
  all_goals omega
def bitI (k : Nat) : Int := ((2 ^ k / 2 : Nat) : Int)
def rootAnnB (n : Int) : LoopAnn := { σ := Nat × Nat, pat := fun s => [sI 3 s.2, sI 4 (bitI s.1)], inv := fun s => rtGo s.1 s.2 n.toNat = rt n.toNat ∧ s.1 ≤ 31 ∧ s.2 + 2 ^ s.1 ≤ 2147483648, meas := fun s => s.1 }
@[reducible] def sRootB : Spec := { pats := [.dat I64], res := [{ t := I64 }], pre := fun x => pRoot x.1, f := fun x => (rtI x.1, ()) }
theorem bit_succ (k : Nat) : bitI (k + 1) = (2 ^ k : Nat) := by
  simp only [bitI]
  rw [Nat.pow_succ, Nat.mul_div_cancel _ (by decide)]
abbrev rootInv (n : Int) (k r : Nat) : Prop := rtGo k r n.toNat = rt n.toNat ∧ k ≤ 31 ∧ r + 2 ^ k ≤ 2147483648
theorem root_step {n : Int} (hn : 0 ≤ n) {k r : Nat} (h : rootInv n k r) (hb : 0 < bitI k) : ∃ j p : Nat, k = j + 1 ∧ bitI k = p ∧ (bitI k).tdiv 2 = bitI j ∧ 1 ≤ p ∧ p ≤ 1073741824 ∧ r + 2 * p ≤ 2147483648 ∧
    (((r : Int) + p) * ((r : Int) + p) ≤ n → rootInv n j (r + p)) ∧ (n < ((r : Int) + p) * ((r : Int) + p) → rootInv n j r) := by
  obtain ⟨h1, h2, h3⟩ := h
  cases k with
  | zero => simp [bitI] at hb
  | succ j =>
    have hp := Nat.two_pow_pos j
    have hle : 2 ^ j ≤ 2 ^ 30 := Nat.pow_le_pow_right (by decide) (by omega)
    rw [Nat.pow_succ] at h3
    have hc : (((r + 2 ^ j) * (r + 2 ^ j) : Nat) : Int) = ((r : Int) + (2 ^ j : Nat)) * ((r : Int) + (2 ^ j : Nat)) := by push_cast; rfl
    have e3 : (bitI (j + 1)).tdiv 2 = bitI j := by
      rw [bit_succ, Int.tdiv_eq_ediv_of_nonneg (by omega)]
      simp only [bitI]; omega
    simp only [rtGo] at h1
    refine ⟨j, 2 ^ j, rfl, bit_succ j, e3, hp, by simpa using hle, by omega, fun hx => ?_, fun hx => ?_⟩
    · have : Nat.ble ((r + 2 ^ j) * (r + 2 ^ j)) n.toNat = true := Nat.ble_eq_true_of_le (by omega)
      rw [this] at h1
      exact ⟨h1, by omega, by omega⟩
    · have : Nat.ble ((r + 2 ^ j) * (r + 2 ^ j)) n.toNat = false := by
        cases hb : Nat.ble ((r + 2 ^ j) * (r + 2 ^ j)) n.toNat with
        | false => rfl
        | true => have := Nat.le_of_ble_eq_true hb; omega
      rw [this] at h1
      exact ⟨h1, by omega, by omega⟩
theorem sq_le2 {x B : Int} (h1 : 0 ≤ x) (h2 : x ≤ B) : 0 ≤ x * x ∧ x * x ≤ B * B := ⟨Int.mul_nonneg h1 h1, Int.mul_le_mul h2 h2 h1 (by omega)⟩
theorem h122 : Ok 122 sRootB := by
  refine mk (ctr := []) trivial (nt := 22) Tryz.func122 rfl rfl rfl rfl (by kernel_rfl) (by kernel_rfl) (fun x => [fun _ => rootAnnB x.1]) ?_
  rintro ⟨(n : Int), _⟩ (hn' : pRoot n)
  have hn := hn'.1
  repeat' (intro hzz; (try (rename Two => hq; cases hq)); (try dsimp only at hzz); (try simp only [resTy, argTy, eqD, inR, big, wantOf, zB] at hzz); (try (revert hzz; intro _)))
  all_goals try (rename Unit => hq; clear hq)
  all_goals try ((with_reducible refine Held.mk ?_); (with_reducible (first | refine Frz.mk ?_ | refine And.intro (Frz.mk ?_) ?_ | refine And.intro ?_ (Frz.mk ?_))); repeat' first | exact True.intro | (change _ = _; with_reducible rfl) | refine And.intro ?_ ?_ | (with_reducible refine Frz.mk ?_))
  all_goals try (refine Held.mk ?_; (try dsimp only at *); (try simp only [resTy, argTy, eqD, inR, big, wantOf, zB] at *))
  all_goals try omega
  ·
    refine GHeld.mk ?_
    refine Exists.intro (31, 0) ?_
    refine And.intro (Leaf.mk ?_) ?_
    · repeat' first | exact True.intro | refine And.intro ?_ ?_
      all_goals try ((change _ = _ <;> try dsimp only) <;> try with_reducible rfl)
      all_goals try omega
      all_goals (rfl)
    exact ⟨rfl, by decide, by decide⟩
  all_goals try
    (rename_i s h1 h2
     obtain ⟨k, r⟩ := s
     obtain ⟨j, p, g1, g2, g3, g4, g5, g6, g7, g8⟩ := root_step hn h1 h2
     dsimp only at *
     rw [g2]
     have := sq_le2 (x := (r : Int) + p) (B := 2147483648) (by omega) (by omega)
     omega)
  all_goals try
    (rename_i s h1 h2 h3
     obtain ⟨k, r⟩ := s
     obtain ⟨j, p, g1, g2, g3, g4, g5, g6, g7, g8⟩ := root_step hn h1 h2
     dsimp only at *
     try rw [g3]
     try rw [g2]
     have e0 : bitI j = (p : Int).tdiv 2 := by rw [← g3, g2]
     rw [Int.tdiv_eq_ediv_of_nonneg (by omega)] at e0
     try rw [e0]
     omega)
  · rename_i s h1 h2 h3
    obtain ⟨k, r⟩ := s
    obtain ⟨j, p, g1, g2, g3, g4, g5, g6, g7, g8⟩ := root_step hn h1 h2
    dsimp only at h3
    rw [g2] at h3
    have e1 : (r : Int) + bitI k = ((r + p : Nat) : Int) := by rw [g2]; push_cast; rfl
    refine GHeld.mk ?_
    refine Exists.intro (j, r + p) ?_
    refine And.intro (Leaf.mk ?_) ?_
    · repeat' first | exact True.intro | refine And.intro ?_ ?_
      all_goals try ((change _ = _ <;> try dsimp only) <;> try with_reducible rfl)
      all_goals try omega
      all_goals (first | exact e1 | exact g3)
    exact ⟨g7 h3, by subst g1; exact Nat.lt_succ_self j⟩
  · rename_i s h1 h2 h3
    obtain ⟨k, r⟩ := s
    obtain ⟨j, p, g1, g2, g3, g4, g5, g6, g7, g8⟩ := root_step hn h1 h2
    dsimp only at h3
    rw [g2] at h3
    refine GHeld.mk ?_
    refine Exists.intro (j, r) ?_
    refine And.intro (Leaf.mk ?_) ?_
    · repeat' first | exact True.intro | refine And.intro ?_ ?_
      all_goals try ((change _ = _ <;> try dsimp only) <;> try with_reducible rfl)
      all_goals try omega
      all_goals (exact g3)
    exact ⟨g8 h3, by subst g1; exact Nat.lt_succ_self j⟩
  · rename_i s h1 h2
    obtain ⟨k, r⟩ := s
    obtain ⟨g1, g2, g3⟩ := h1
    dsimp only at *
    have hk : k = 0 := by
      cases k with
      | zero => rfl
      | succ j => rw [bit_succ] at h2; have := Nat.two_pow_pos j; omega
    subst hk
    simp only [rtI, ← g1, rtGo]
@[reducible] def sRootUpB : Spec := { sRootB with f := fun x => (rtU x.1, ()) }
theorem h123 : Ok 123 sRootUpB := by
  refine mk (ctr := [(122, sRootB)]) ⟨h122, trivial⟩ (nt := 14) Tryz.func123 rfl rfl rfl rfl (by kernel_rfl) (by kernel_rfl) (fun _ => []) ?_
  rintro ⟨(n : Int), _⟩ (hn : pRoot n)
  have h1 := rtI_spec hn
  have h2 : 0 ≤ rtI n * rtI n := Int.mul_nonneg h1.1 h1.1
  have h3 := hn.2
  repeat' (intro hzz; (try (rename Two => hq; cases hq)); (try dsimp only at hzz); (try simp only [resTy, argTy, eqD, inR, big, wantOf, zB] at hzz); (try simp only [resTy, argTy, eqD, inR, big, wantOf, zB, pRoot] at hzz); (try (revert hzz; intro _)))
  all_goals try (rename Unit => hq; clear hq)
  all_goals try ((with_reducible refine Held.mk ?_); (with_reducible (first | refine Frz.mk ?_ | refine And.intro (Frz.mk ?_) ?_ | refine And.intro ?_ (Frz.mk ?_))); repeat' first | exact True.intro | (change _ = _; with_reducible rfl) | refine And.intro ?_ ?_ | (with_reducible refine Frz.mk ?_))
  all_goals try (refine Held.mk ?_; (try dsimp only at *); (try simp only [resTy, argTy, eqD, inR, big, wantOf, zB] at *); (try simp only [resTy, argTy, eqD, inR, big, wantOf, zB, pRoot] at *))
  all_goals first | exact hn | omega | (simp only [rtU]; split <;> omega) | trace_state
theorem h18 : Ok 18 sPlace := by
  refine mk (ctr := [(29, sWithin)]) ⟨h29, trivial⟩ (nt := 19) Tryz.func18 rfl rfl rfl rfl (by kernel_rfl) (by kernel_rfl) (fun _ => []) ?_
  rintro ⟨⟨(x : Int), (y : Int), (z : Int), _⟩, _⟩ _
  repeat' (intro hzz; (try (rename Two => hq; cases hq)); (try dsimp only at hzz); (try simp only [resTy, argTy, eqD, inR, big, wantOf, zB] at hzz); (try simp only [resTy, argTy, eqD, inR, big, wantOf, zB, fWithin] at hzz); (try (revert hzz; intro _)))
  all_goals try (rename Unit => hq; clear hq)
  all_goals try ((with_reducible refine Held.mk ?_); (with_reducible (first | refine Frz.mk ?_ | refine And.intro (Frz.mk ?_) ?_ | refine And.intro ?_ (Frz.mk ?_))); repeat' first | exact True.intro | (change _ = _; with_reducible rfl) | refine And.intro ?_ ?_ | (with_reducible refine Frz.mk ?_))
  all_goals try (refine Held.mk ?_; (try dsimp only at *); (try simp only [resTy, argTy, eqD, inR, big, wantOf, zB] at *); (try simp only [resTy, argTy, eqD, inR, big, wantOf, zB, fWithin] at *))
  all_goals try omega
  all_goals (simp only [plErr]; split <;> first | rfl | (exfalso; omega) | (rw [decide_eq_true (by omega)]; rfl) | (rw [decide_eq_false (by omega)]; rfl))
theorem h21 : Ok 21 sSound := by
  refine mk (ctr := [(29, sWithin)]) ⟨h29, trivial⟩ (nt := 13) Tryz.func21 rfl rfl rfl rfl (by kernel_rfl) (by kernel_rfl) (fun _ => []) ?_
  rintro ⟨⟨(x : Int), (y : Int), _⟩, _⟩ _
  repeat' (intro hzz; (try (rename Two => hq; cases hq)); (try dsimp only at hzz); (try simp only [resTy, argTy, eqD, inR, big, wantOf, zB] at hzz); (try simp only [resTy, argTy, eqD, inR, big, wantOf, zB, fWithin] at hzz); (try (revert hzz; intro _)))
  all_goals try (rename Unit => hq; clear hq)
  all_goals try ((with_reducible refine Held.mk ?_); (with_reducible (first | refine Frz.mk ?_ | refine And.intro (Frz.mk ?_) ?_ | refine And.intro ?_ (Frz.mk ?_))); repeat' first | exact True.intro | (change _ = _; with_reducible rfl) | refine And.intro ?_ ?_ | (with_reducible refine Frz.mk ?_))
  all_goals try (refine Held.mk ?_; (try dsimp only at *); (try simp only [resTy, argTy, eqD, inR, big, wantOf, zB] at *); (try simp only [resTy, argTy, eqD, inR, big, wantOf, zB, fWithin] at *))
  all_goals try omega
  all_goals (simp only [soErr]; split <;> first | rfl | (exfalso; omega) | (rw [decide_eq_true (by omega)]; rfl) | (rw [decide_eq_false (by omega)]; rfl))
theorem h92 : Ok 92 sGains := by
  refine mk (ctr := [(29, sWithin)]) ⟨h29, trivial⟩ (nt := 13) Tryz.func92 rfl rfl rfl rfl (by kernel_rfl) (by kernel_rfl) (fun _ => []) ?_
  rintro ⟨(x : Int), (y : Int), _⟩ _
  repeat' (intro hzz; (try (rename Two => hq; cases hq)); (try dsimp only at hzz); (try simp only [resTy, argTy, eqD, inR, big, wantOf, zB] at hzz); (try simp only [resTy, argTy, eqD, inR, big, wantOf, zB, fWithin] at hzz); (try (revert hzz; intro _)))
  all_goals try (rename Unit => hq; clear hq)
  all_goals try ((with_reducible refine Held.mk ?_); (with_reducible (first | refine Frz.mk ?_ | refine And.intro (Frz.mk ?_) ?_ | refine And.intro ?_ (Frz.mk ?_))); repeat' first | exact True.intro | (change _ = _; with_reducible rfl) | refine And.intro ?_ ?_ | (with_reducible refine Frz.mk ?_))
  all_goals try (refine Held.mk ?_; (try dsimp only at *); (try simp only [resTy, argTy, eqD, inR, big, wantOf, zB] at *); (try simp only [resTy, argTy, eqD, inR, big, wantOf, zB, fWithin] at *))
  all_goals try omega
  all_goals (simp only [gnErr]; split <;> first | rfl | (exfalso; omega) | (rw [decide_eq_true (by omega)]; rfl) | (rw [decide_eq_false (by omega)]; rfl))
abbrev pPP (a b : PlaceD) : Prop := inP a ∧ inP b
@[reducible] def sSquareR : Spec := { pats := [.dat PlaceT, .dat PlaceT], res := [{ t := I64 }], pre := fun x => pPP x.1 x.2.1, f := fun x => (sqP x.1 x.2.1, ()) }
theorem h80 : Ok 80 sSquareR := by
  refine mk (ctr := []) trivial (nt := 34) Tryz.func80 rfl rfl rfl rfl (by kernel_rfl) (by kernel_rfl) (fun _ => []) ?_
  rintro ⟨(a : PlaceD), (b : PlaceD), _⟩ ⟨ha, hb⟩
  have h1 := dP_bd ha.1 hb.1
  have h2 := dP_bd ha.2.1 hb.2.1
  have h3 := dP_bd ha.2.2 hb.2.2
  obtain ⟨⟨a1, a2⟩, ⟨a3, a4⟩, ⟨a5, a6⟩⟩ := ha
  obtain ⟨⟨b1, b2⟩, ⟨b3, b4⟩, ⟨b5, b6⟩⟩ := hb
  unfold dP at *
  repeat' (intro hzz; (try (rename Two => hq; cases hq)); (try dsimp only at hzz); (try simp only [resTy, argTy, eqD, inR, big, wantOf, zB] at hzz); (try simp only [resTy, argTy, eqD, inR, big, wantOf, zB, sqP, sqC, dP] at hzz); (try (revert hzz; intro _)))
  all_goals try (rename Unit => hq; clear hq)
  all_goals try ((with_reducible refine Held.mk ?_); (with_reducible (first | refine Frz.mk ?_ | refine And.intro (Frz.mk ?_) ?_ | refine And.intro ?_ (Frz.mk ?_))); repeat' first | exact True.intro | (change _ = _; with_reducible rfl) | refine And.intro ?_ ?_ | (with_reducible refine Frz.mk ?_))
  all_goals try (refine Held.mk ?_; (try dsimp only at *); (try simp only [resTy, argTy, eqD, inR, big, wantOf, zB] at *); (try simp only [resTy, argTy, eqD, inR, big, wantOf, zB, sqP, sqC, dP] at *))
  all_goals first | omega | rfl | trace_state
@[reducible] def sNearR : Spec := { pats := [.dat PlaceT, .dat PlaceT], res := [{ t := .bool }], pre := fun x => pPP x.1 x.2.1, f := fun x => (nearB x.1 x.2.1, ()) }
theorem h19 : Ok 19 sNearR := by
  refine mk (ctr := [(80, sSquareR)]) ⟨h80, trivial⟩ (nt := 9) Tryz.func19 rfl rfl rfl rfl (by kernel_rfl) (by kernel_rfl) (fun _ => []) ?_
  rintro ⟨(a : PlaceD), (b : PlaceD), _⟩ ⟨ha, hb⟩
  have e := sqW_near ha hb
  repeat' (intro hzz; (try (rename Two => hq; cases hq)); (try dsimp only at hzz); (try simp only [resTy, argTy, eqD, inR, big, wantOf, zB] at hzz); (try simp only [resTy, argTy, eqD, inR, big, wantOf, zB, sqP] at hzz); (try (revert hzz; intro _)))
  all_goals try (rename Unit => hq; clear hq)
  all_goals try ((with_reducible refine Held.mk ?_); (with_reducible (first | refine Frz.mk ?_ | refine And.intro (Frz.mk ?_) ?_ | refine And.intro ?_ (Frz.mk ?_))); repeat' first | exact True.intro | (change _ = _; with_reducible rfl) | refine And.intro ?_ ?_ | (with_reducible refine Frz.mk ?_))
  all_goals try (refine Held.mk ?_; (try dsimp only at *); (try simp only [resTy, argTy, eqD, inR, big, wantOf, zB] at *); (try simp only [resTy, argTy, eqD, inR, big, wantOf, zB, sqP] at *))
  all_goals first | exact ⟨ha, hb⟩ | exact e.symm | trace_state
@[reducible] def sMilli : Spec := { pats := [.dat PlaceT, .dat PlaceT], res := [{ t := RangeT }], pre := fun x => pPP x.1 x.2.1, f := fun x => ((farL x.1 x.2.1, farU x.1 x.2.1, ()), ()) }
theorem h81 : Ok 81 sMilli := by
  refine mk (ctr := [(80, sSquareR), (122, sRootB), (123, sRootUpB)]) ⟨h80, h122, h123, trivial⟩ (nt := 15) Tryz.func81 rfl rfl rfl rfl (by kernel_rfl) (by kernel_rfl) (fun _ => []) ?_
  rintro ⟨(a : PlaceD), (b : PlaceD), _⟩ ⟨ha, hb⟩
  have h1 := sqP_bd ha hb
  have h2 := (farN_root ha hb).1
  have e : 1000000 * sqP a b = sqP a b * 1000 * 1000 := by omega
  have h3 : pRoot (sqP a b * 1000 * 1000) := h2
  repeat' (intro hzz; (try (rename Two => hq; cases hq)); (try dsimp only at hzz); (try simp only [resTy, argTy, eqD, inR, big, wantOf, zB] at hzz); (try simp only [resTy, argTy, eqD, inR, big, wantOf, zB, sqP, farL, farU, farLC, farUC] at hzz); (try (revert hzz; intro _)))
  all_goals try (rename Unit => hq; clear hq)
  all_goals try ((with_reducible refine Held.mk ?_); (with_reducible (first | refine Frz.mk ?_ | refine And.intro (Frz.mk ?_) ?_ | refine And.intro ?_ (Frz.mk ?_))); repeat' first | exact True.intro | (change _ = _; with_reducible rfl) | refine And.intro ?_ ?_ | (with_reducible refine Frz.mk ?_))
  all_goals try (refine Held.mk ?_; (try dsimp only at *); (try simp only [resTy, argTy, eqD, inR, big, wantOf, zB] at *); (try simp only [resTy, argTy, eqD, inR, big, wantOf, zB, sqP, farL, farU, farLC, farUC] at *))
  all_goals first | exact ⟨ha, hb⟩ | omega | (rw [e]; exact h3) | (rw [e]; exact ⟨rfl, rfl⟩) | trace_state
abbrev pPPX (a b : PlaceD) (x : SndD) : Prop := (inP a ∧ inP b) ∧ inS x
@[reducible] def sTravR : Spec := { pats := [.dat PlaceT, .dat PlaceT, .dat PairT], res := [{ t := RangeT }], pre := fun x => pPPX x.1 x.2.1 x.2.2.1, f := fun x => ((trL x.1 x.2.1 x.2.2.1, trU x.1 x.2.1 x.2.2.1, ()), ()) }
theorem h22 : Ok 22 sTravR := by
  refine mk (ctr := [(81, sMilli), (82, sFloor), (83, sCeil)]) ⟨h81, h82, h83, trivial⟩ (nt := 30) Tryz.func22 rfl rfl rfl rfl (by kernel_rfl) (by kernel_rfl) (fun _ => []) ?_
  rintro ⟨(a : PlaceD), (b : PlaceD), ⟨(r : Int), (v : Int), _⟩, _⟩ ⟨⟨(ha : inP a), (hb : inP b)⟩, (hx : (8000 ≤ r ∧ r ≤ 192000) ∧ (30000 ≤ v ∧ v ≤ 40000))⟩
  have h1 := far_bd ha hb
  have h2 := fr_bd (n := farL a b) (r := r) (by omega) (by omega) hx.1
  have h3 := fr_bd (n := farU a b) (r := r) (by omega) (by omega) hx.1
  repeat' (intro hzz; (try (rename Two => hq; cases hq)); (try dsimp only at hzz); (try simp only [resTy, argTy, eqD, inR, big, wantOf, zB] at hzz); (try simp only [resTy, argTy, eqD, inR, big, wantOf, zB, farL, farU, pFloor] at hzz); (try (revert hzz; intro _)))
  all_goals try (rename Unit => hq; clear hq)
  all_goals try ((with_reducible refine Held.mk ?_); (with_reducible (first | refine Frz.mk ?_ | refine And.intro (Frz.mk ?_) ?_ | refine And.intro ?_ (Frz.mk ?_))); repeat' first | exact True.intro | (change _ = _; with_reducible rfl) | refine And.intro ?_ ?_ | (with_reducible refine Frz.mk ?_))
  all_goals try (refine Held.mk ?_; (try dsimp only at *); (try simp only [resTy, argTy, eqD, inR, big, wantOf, zB] at *); (try simp only [resTy, argTy, eqD, inR, big, wantOf, zB, farL, farU, pFloor] at *))
  all_goals first | omega | exact ⟨ha, hb⟩ | exact ⟨rfl, rfl⟩ | trace_state
@[reducible] def sNumsR : Spec := { sTravR with f := fun x => ((nuL x.1 x.2.1 x.2.2.1, nuU x.1 x.2.1 x.2.2.1, ()), ()) }
theorem h23 : Ok 23 sNumsR := by
  refine mk (ctr := [(81, sMilli), (82, sFloor), (83, sCeil)]) ⟨h81, h82, h83, trivial⟩ (nt := 32) Tryz.func23 rfl rfl rfl rfl (by kernel_rfl) (by kernel_rfl) (fun _ => []) ?_
  rintro ⟨(a : PlaceD), (b : PlaceD), ⟨(r : Int), (v : Int), _⟩, _⟩ ⟨⟨(ha : inP a), (hb : inP b)⟩, (hx : (8000 ≤ r ∧ r ≤ 192000) ∧ (30000 ≤ v ∧ v ≤ 40000))⟩
  have h1 := far_bd ha hb
  have h2 := fr_bd (n := farL a b) (r := r) (by omega) (by omega) hx.1
  have h3 := fr_bd (n := farU a b) (r := r) (by omega) (by omega) hx.1
  have h4 := div_bd (b := v) h2.1 (by omega)
  have h5 := cl_bd (b := v) h3.1 (by omega)
  repeat' (intro hzz; (try (rename Two => hq; cases hq)); (try dsimp only at hzz); (try simp only [resTy, argTy, eqD, inR, big, wantOf, zB] at hzz); (try simp only [resTy, argTy, eqD, inR, big, wantOf, zB, farL, farU, pFloor, fFloor] at hzz); (try (revert hzz; intro _)))
  all_goals try (rename Unit => hq; clear hq)
  all_goals try ((with_reducible refine Held.mk ?_); (with_reducible (first | refine Frz.mk ?_ | refine And.intro (Frz.mk ?_) ?_ | refine And.intro ?_ (Frz.mk ?_))); repeat' first | exact True.intro | (change _ = _; with_reducible rfl) | refine And.intro ?_ ?_ | (with_reducible refine Frz.mk ?_))
  all_goals try (refine Held.mk ?_; (try dsimp only at *); (try simp only [resTy, argTy, eqD, inR, big, wantOf, zB] at *); (try simp only [resTy, argTy, eqD, inR, big, wantOf, zB, farL, farU, pFloor, fFloor] at *))
  all_goals first | omega | exact ⟨ha, hb⟩ | exact ⟨rfl, rfl⟩ | trace_state
end Go.Eng.Ar

namespace Go.Eng.Ar
open Go.Eng Go.Proofs
set_option linter.all false
set_option maxRecDepth 100000
set_option maxHeartbeats 8000000
theorem eq_nil (ad : Option Addr) (n c : Nat) (w : World) : (binOp .eql 76 (.slice ad n c) (.slice none 0 0)).run Tryz.prog w = .ok (.bool ad.isNone) w := by
  have hr := run_equal_slice_nil (P := Tryz.prog) w 76 3 ad n c Tryz.underlying76
  simp [binOp, hr]
theorem cl_nil (w : World) : Calls Tryz.prog 145 #[.slice none 0 0] w fun r w' => r = .returned (.slice none 0 0) ∧ w' = w := by
  have mixed := mixed
  have t3 := Tryz.underlying3
  have t76 := Tryz.underlying76
  have hq : (binOp .eql 76 (.slice none 0 0) (.slice none 0 0)).run Tryz.prog w = .ok (.bool true) w := eq_nil none 0 0 w
  have hn : Tryz.f145.ntmps = 8 := rfl
  go_enter Tryz.func145, hn
  go_wp2
  go_ret
  exact ⟨rfl, rfl⟩
theorem cl_emp (ad : Addr) (c : Nat) (w : World) : Calls Tryz.prog 145 #[.slice (some ad) 0 c] w fun r w' => r = .returned (.slice (some ⟨w.heap.size, 0, none⟩) 0 0) ∧ w' = w.alloc (.cells #[] 3 (0, 0)) := by
  have mixed := mixed
  have t3 := Tryz.underlying3
  have t76 := Tryz.underlying76
  have hq : (binOp .eql 76 (.slice (some ad) 0 c) (.slice none 0 0)).run Tryz.prog w = .ok (.bool false) w := eq_nil (some ad) 0 c w
  have hn : Tryz.f145.ntmps = 8 := rfl
  go_enter Tryz.func145, hn
  go_wp2
  go_ret
  exact ⟨rfl, rfl⟩
abbrev pClone (n : Nat) : Prop := n ≤ 2000000000
abbrev pCloneS (n : Nat) : Prop := 0 < n ∧ n ≤ 2000000000
@[reducible] def sClone : Spec := { pats := [.dat (.sl I64)], res := [{ own := some 3, t := .sl I64 }], pre := fun x => pClone (List.length (α := Int) x.1), f := fun x => (x.1, ()) }
@[reducible] def sCloneS : Spec := { sClone with pre := fun x => pCloneS (List.length (α := Int) x.1) }
theorem h145s : Ok 145 sCloneS := by
  refine mk (ctr := []) trivial (nt := 8) Tryz.func145 rfl rfl rfl rfl (by kernel_rfl) (by kernel_rfl) (fun _ => []) ?_
  rintro ⟨(xs : List Int), _⟩ ⟨(h0 : 0 < xs.length), (h : xs.length ≤ 2000000000)⟩
  repeat' (intro hzz; (try (rename Two => hq; cases hq)); (try dsimp only at hzz); (try simp only [resTy, argTy, eqD, inR, big, wantOf, zB] at hzz); (try (revert hzz; intro _)))
  all_goals try (rename Unit => hq; clear hq)
  all_goals try ((with_reducible refine Held.mk ?_); (with_reducible (first | refine Frz.mk ?_ | refine And.intro (Frz.mk ?_) ?_ | refine And.intro ?_ (Frz.mk ?_))); repeat' first | exact True.intro | (change _ = _; with_reducible rfl) | refine And.intro ?_ ?_ | (with_reducible refine Frz.mk ?_))
  all_goals try (refine Held.mk ?_; (try dsimp only at *); (try simp only [resTy, argTy, eqD, inR, big, wantOf, zB] at *))
  all_goals first | exact h0 | exact List.nil_append _ | (show ([] : List Int).length + xs.length ≤ 2147483648; simp; omega)
theorem post_same {OB : Nat → Obj → Prop} {w : World} : CPost OB w w [] := ⟨rfl, rfl, rfl, Nat.le_refl _, fun _ _ _ => rfl, fun _ h => by cases h⟩
theorem post_alloc {OB : Nat → Obj → Prop} {w : World} {o : Obj} : CPost OB w (w.alloc o) [] := by
  refine ⟨rfl, rfl, rfl, ?_, fun b hb _ => ?_, fun b hb => by cases hb⟩
  · show w.heap.size ≤ (w.heap.push o).size
    rw [Array.size_push]; exact Nat.le_succ _
  · show (w.heap.push o)[b]? = w.heap[b]?
    rw [Array.getElem?_push, if_neg (Nat.ne_of_lt hb)]
theorem h145 : Ok 145 sClone := by
  refine ⟨?_, h145s.2⟩
  rintro w M ⟨(xs : List Int), u⟩ vs bs hM hA (hp : xs.length ≤ 2000000000)
  by_cases h0 : 0 < xs.length
  · exact h145s.1 w M (xs, u) vs bs hM hA ⟨h0, hp⟩
  · have hx : xs = [] := List.length_eq_zero_iff.1 (by omega)
    subst hx
    obtain ⟨v, vs', rfl, ⟨l, hl, h2⟩, rfl, rfl⟩ := hA
    obtain ⟨a, cap, rfl, h3, h4, h5, h6⟩ := hl
    have hv : v = .slice a 0 cap := by
      rcases h2 with ⟨h, _⟩ | ⟨_, h⟩
      · cases h
      · simpa using h.symm
    subst hv
    cases a with
    | none =>
      have := (h5 rfl).2
      subst this
      refine (cl_nil w).mono ?_
      rintro e w' ⟨rfl, rfl⟩
      exact ⟨[.slice none 0 0], none, rfl, post_same, _, _, rfl, ⟨rfl, rfl⟩, .inl ⟨rfl, rfl, rfl⟩⟩
    | some ad =>
      refine (cl_emp ad cap w).mono ?_
      rintro e w' ⟨rfl, rfl⟩
      refine ⟨[.slice (some ⟨w.heap.size, 0, none⟩) 0 0], some w.heap.size, rfl, post_alloc, _, _, rfl, ⟨rfl, rfl⟩, .inr ⟨w.heap.size, 0, #[], rfl, rfl, Nat.le_refl _, ?_, ?_⟩⟩
      · show (w.heap.push _)[w.heap.size]? = _
        simp
      · exact ⟨rfl, Nat.le_refl _, Nat.zero_le _, fun i x h => by simp at h⟩
def tab {α : Type} (f : Nat → α) : Nat → List α
  | 0 => []
  | k + 1 => tab f k ++ [f k]
def sm (f : Nat → Int) : Nat → Int
  | 0 => 0
  | k + 1 => sm f k + f k
theorem tab_len {α : Type} (f : Nat → α) : ∀ k, (tab f k).length = k
  | 0 => rfl
  | k + 1 => by simp [tab, tab_len f k]
theorem tab_get {α : Type} (f : Nat → α) (d : α) : ∀ k i, i < k → (tab f k).getD i d = f i
  | 0, i, h => by omega
  | k + 1, i, h => by
    simp only [tab, List.getD_eq_getElem?_getD]
    by_cases hi : i < k
    · rw [List.getElem?_append_left (by rw [tab_len]; exact hi)]
      have := tab_get f d k i hi
      rwa [List.getD_eq_getElem?_getD] at this
    · have : i = k := by omega
      subst this
      rw [List.getElem?_append_right (by rw [tab_len]; omega), tab_len]
      simp
theorem tab_congr {α : Type} {f g : Nat → α} : ∀ k, (∀ i, i < k → f i = g i) → tab f k = tab g k
  | 0, _ => rfl
  | k + 1, h => by simp only [tab]; rw [tab_congr k (fun i hi => h i (by omega)), h k (by omega)]
theorem sm_congr {f g : Nat → Int} : ∀ k, (∀ i, i < k → f i = g i) → sm f k = sm g k
  | 0, _ => rfl
  | k + 1, h => by simp only [sm]; rw [sm_congr k (fun i hi => h i (by omega)), h k (by omega)]
theorem sm_le {f : Nat → Int} {B : Int} : ∀ k : Nat, (∀ i, i < k → -B ≤ f i ∧ f i ≤ B) → -(k * B) ≤ sm f k ∧ sm f k ≤ k * B
  | 0, _ => by simp [sm]
  | k + 1, h => by
    have ih := sm_le k (fun i hi => h i (by omega))
    have := h k (by omega)
    simp only [sm]
    have e : (((k + 1 : Nat) : Int) * B) = (k : Int) * B + B := by rw [Int.natCast_add, Int.add_mul]; simp
    rw [e]
    omega
theorem list_tab {α : Type} (d : α) : ∀ (xs : List α), xs = tab (fun i => xs.getD i d) xs.length := by
  intro xs
  apply List.ext_getElem?
  intro i
  by_cases hi : i < xs.length
  · have h1 := tab_get (fun i => xs.getD i d) d xs.length i hi
    rw [List.getD_eq_getElem?_getD] at h1
    have h2 : (tab (fun i => xs.getD i d) xs.length)[i]? = some ((tab (fun i => xs.getD i d) xs.length)[i]'(by rw [tab_len]; exact hi)) := List.getElem?_eq_getElem _
    rw [h2] at h1 ⊢
    simp only [Option.getD_some] at h1
    rw [h1]
    simp [List.getD, List.getElem?_eq_getElem hi]
  · rw [List.getElem?_eq_none (by omega), List.getElem?_eq_none (by rw [tab_len]; omega)]
theorem tab_mem {α : Type} {f : Nat → α} : ∀ {k : Nat} {x : α}, x ∈ tab f k → ∃ i, i < k ∧ x = f i
  | 0, x, h => by simp [tab] at h
  | k + 1, x, h => by
    simp only [tab, List.mem_append, List.mem_singleton] at h
    rcases h with h | h
    · obtain ⟨i, h1, h2⟩ := tab_mem h
      exact ⟨i, by omega, h2⟩
    · exact ⟨k, by omega, h⟩
abbrev vI (xs : List Int) (i : Nat) : Int := xs.getD i 0
def dotI (a b : List Int) : Int := sm (fun i => vI a i * vI b i) a.length
abbrev pDot (a b : List Int) : Prop := a.length ≤ b.length ∧ a.length ≤ 9 ∧ ∀ i, i < a.length → -1000000000000000000 ≤ vI a i * vI b i ∧ vI a i * vI b i ≤ 1000000000000000000
@[reducible] def sDot : Spec := { pats := [.dat (.sl I64), .dat (.sl I64)], res := [{ t := I64 }], pre := fun x => pDot x.1 x.2.1, f := fun x => (dotI x.1 x.2.1, ()) }
theorem sm_9 {f : Nat → Int} {k : Nat} (h : ∀ i, i < k → -1000000000000000000 ≤ f i ∧ f i ≤ 1000000000000000000) (hk : k ≤ 9) : -9000000000000000000 ≤ sm f k ∧ sm f k ≤ 9000000000000000000 := by
  have := sm_le (f := f) (B := 1000000000000000000) k h
  omega
def dotAnn (a b : List Int) : LoopAnn := { σ := Nat, pat := fun k => [sI 9 k, sI 5 (sm (fun i => vI a i * vI b i) k)], inv := fun k => k ≤ a.length, meas := fun k => a.length - k }
theorem h105 : Ok 105 sDot := by
  refine mk (ctr := []) trivial (nt := 25) Tryz.func105 rfl rfl rfl rfl (by kernel_rfl) (by kernel_rfl) (fun x => [fun _ => dotAnn x.1 x.2.1]) ?_
  rintro ⟨(a : List Int), (b : List Int), _⟩ ⟨(h1 : a.length ≤ b.length), (h2 : a.length ≤ 9), (h3 : ∀ i, i < a.length → -1000000000000000000 ≤ vI a i * vI b i ∧ vI a i * vI b i ≤ 1000000000000000000)⟩
  repeat' (intro hzz; (try (rename Two => hq; cases hq)); (try dsimp only at hzz); (try simp only [resTy, argTy, eqD, inR, big, wantOf, zB] at hzz); (try simp only [resTy, argTy, eqD, inR, big, wantOf, zB, getD_i] at hzz); (try (revert hzz; intro _)))
  all_goals try (rename Unit => hq; clear hq)
  all_goals try ((with_reducible refine Held.mk ?_); (with_reducible (first | refine Frz.mk ?_ | refine And.intro (Frz.mk ?_) ?_ | refine And.intro ?_ (Frz.mk ?_))); repeat' first | exact True.intro | (change _ = _; with_reducible rfl) | refine And.intro ?_ ?_ | (with_reducible refine Frz.mk ?_))
  all_goals try (refine Held.mk ?_; (try dsimp only at *); (try simp only [resTy, argTy, eqD, inR, big, wantOf, zB] at *); (try simp only [resTy, argTy, eqD, inR, big, wantOf, zB, getD_i] at *))
  all_goals try omega
  ·
    refine GHeld.mk ?_
    refine Exists.intro 0 ?_
    refine And.intro (Leaf.mk ?_) ?_
    · repeat' first | exact True.intro | refine And.intro ?_ ?_
      all_goals try ((change _ = _ <;> try dsimp only) <;> try with_reducible rfl)
      all_goals try omega
      all_goals (rfl)
    exact Nat.zero_le _
  · rename_i k hk hg
    exact ⟨by have := (h3 k (by omega)).1; exact Int.le_trans (by decide) this, by have := (h3 k (by omega)).2; exact Int.le_trans this (by decide)⟩
  · rename_i k hk hg
    have := sm_9 (f := fun i => vI a i * vI b i) (k := k + 1) (fun i hi => h3 i (by omega)) (by omega)
    simp only [sm, vI] at this ⊢
    omega
  · rename_i k hk hg
    refine GHeld.mk ?_
    refine Exists.intro (k + 1) ?_
    refine And.intro (Leaf.mk ?_) ?_
    · repeat' first | exact True.intro | refine And.intro ?_ ?_
      all_goals try ((change _ = _ <;> try dsimp only) <;> try with_reducible rfl)
      all_goals try omega
      all_goals (rfl)
    exact ⟨by show k + 1 ≤ a.length; omega, by show a.length - (k + 1) < a.length - k; omega⟩
  · rename_i k hk hg
    rw [show k = a.length by omega]; rfl
def mx (xs : List Int) : Nat → Int
  | 0 => xs.getD 0 0
  | k + 1 => if xs.getD (k + 1) 0 > mx xs k then xs.getD (k + 1) 0 else mx xs k
def mn (xs : List Int) : Nat → Int
  | 0 => xs.getD 0 0
  | k + 1 => if xs.getD (k + 1) 0 < mn xs k then xs.getD (k + 1) 0 else mn xs k
abbrev pMx (n : Nat) : Prop := 0 < n ∧ pLen n
@[reducible] def sMax : Spec := { pats := [.dat (.sl I64)], res := [{ t := I64 }], pre := fun x => pMx (List.length (α := Int) x.1), f := fun x => (mx x.1 (List.length (α := Int) x.1 - 1), ()) }
@[reducible] def sMin : Spec := { sMax with f := fun x => (mn x.1 (List.length (α := Int) x.1 - 1), ()) }
theorem h108 : Ok 108 sMin := by
  refine mk (ctr := []) trivial (nt := 25) Tryz.func108 rfl rfl rfl rfl (by kernel_rfl) (by kernel_rfl) (fun x => [fun _ => { σ := Nat, pat := fun k => [sI 3 (mn x.1 k), sI 4 (k + 1 : Int)], inv := fun k => k + 1 ≤ List.length (α := Int) x.1, meas := fun k => List.length (α := Int) x.1 - k }]) ?_
  rintro ⟨(xs : List Int), _⟩ ⟨(h1 : 0 < xs.length), (h2 : pLen xs.length)⟩
  have := h2.out
  repeat' (intro hzz; (try (rename Two => hq; cases hq)); (try dsimp only at hzz); (try simp only [resTy, argTy, eqD, inR, big, wantOf, zB] at hzz); (try simp only [resTy, argTy, eqD, inR, big, wantOf, zB, getD_i] at hzz); (try (first | contradiction | (exfalso; omega))); (try (revert hzz; intro _)))
  all_goals try (rename Unit => hq; clear hq)
  all_goals try ((with_reducible refine Held.mk ?_); (with_reducible (first | refine Frz.mk ?_ | refine And.intro (Frz.mk ?_) ?_ | refine And.intro ?_ (Frz.mk ?_))); repeat' first | exact True.intro | (change _ = _; with_reducible rfl) | refine And.intro ?_ ?_ | (with_reducible refine Frz.mk ?_))
  all_goals try (refine Held.mk ?_; (try dsimp only at *); (try simp only [resTy, argTy, eqD, inR, big, wantOf, zB] at *); (try simp only [resTy, argTy, eqD, inR, big, wantOf, zB, getD_i] at *))
  all_goals try omega
  · 
    refine GHeld.mk ?_
    refine Exists.intro 0 ?_
    refine And.intro (Leaf.mk ?_) ?_
    · repeat' first | exact True.intro | refine And.intro ?_ ?_
      all_goals try ((change _ = _ <;> try dsimp only) <;> try with_reducible rfl)
      all_goals try omega
      all_goals (rfl)
    exact h1
  · rename_i k hk hg
    refine GHeld.mk ?_
    refine Exists.intro (k + 1) ?_
    refine And.intro (Leaf.mk ?_) ?_
    · repeat' first | exact True.intro | refine And.intro ?_ ?_
      all_goals try ((change _ = _ <;> try dsimp only) <;> try with_reducible rfl)
      all_goals try omega
      all_goals (rfl)
    exact ⟨by show k + 1 + 1 ≤ xs.length; omega, by show xs.length - (k + 1) < xs.length - k; omega⟩
  · rename_i k hk hg
    rw [show xs.length - 1 = k from by omega]
def gf (xs : List Int) : Nat → Nat
  | 0 => 0
  | k + 1 => Nat.gcd (gf xs k) (vI xs k).natAbs
abbrev pDiv (xs : List Int) : Prop := pLen xs.length ∧ ∀ i, i < xs.length → (vI xs i).natAbs ≤ 9000000000000000000
@[reducible] def sDiv : Spec := { pats := [.dat (.sl I64)], res := [{ t := I64 }], pre := fun x => pDiv x.1, f := fun x => ((gf x.1 (List.length (α := Int) x.1) : Int), ()) }
def divInn (st : St) : LoopAnn := withI 3 st fun g => withI 5 st fun n => { σ := Int × Int, pat := fun s => [sI 3 s.1, sI 5 s.2], inv := fun s => Nat.gcd s.1.natAbs s.2.natAbs = Nat.gcd g.natAbs n.natAbs ∧ s.1.natAbs ≤ 9000000000000000000 ∧ s.2.natAbs ≤ 9000000000000000000, meas := fun s => s.2.natAbs }
def divAnn (xs : List Int) : LoopAnn := { σ := Nat × Int, pat := fun s => [sI 8 s.1, sI 3 s.2], inv := fun s => s.1 ≤ xs.length ∧ s.2.natAbs = gf xs s.1 ∧ s.2.natAbs ≤ 9000000000000000000, meas := fun s => xs.length - s.1 }
theorem h148 : Ok 148 sDiv := by
  refine mk (ctr := []) trivial (nt := 23) Tryz.func148 rfl rfl rfl rfl (by kernel_rfl) (by kernel_rfl) (fun x => [fun _ => divAnn x.1, divInn]) ?_
  rintro ⟨(xs : List Int), _⟩ ⟨(h1 : pLen xs.length), (h2 : ∀ i, i < xs.length → (vI xs i).natAbs ≤ 9000000000000000000)⟩
  have := h1.out
  repeat' (intro hzz; (try (rename Two => hq; cases hq)); (try dsimp only at hzz); (try simp only [resTy, argTy, eqD, inR, big, wantOf, zB] at hzz); (try simp only [resTy, argTy, eqD, inR, big, wantOf, zB, getD_i] at hzz); (try (revert hzz; intro _)))
  all_goals try (rename Unit => hq; clear hq)
  all_goals try ((with_reducible refine Held.mk ?_); (with_reducible (first | refine Frz.mk ?_ | refine And.intro (Frz.mk ?_) ?_ | refine And.intro ?_ (Frz.mk ?_))); repeat' first | exact True.intro | (change _ = _; with_reducible rfl) | refine And.intro ?_ ?_ | (with_reducible refine Frz.mk ?_))
  all_goals try (refine Held.mk ?_; (try dsimp only at *); (try simp only [resTy, argTy, eqD, inR, big, wantOf, zB] at *); (try simp only [resTy, argTy, eqD, inR, big, wantOf, zB, getD_i] at *))
  all_goals try omega
  ·
    refine GHeld.mk ?_
    refine Exists.intro ((0 : Nat), (0 : Int)) ?_
    refine And.intro (Leaf.mk ?_) ?_
    · repeat' first | exact True.intro | refine And.intro ?_ ?_
      all_goals try ((change _ = _ <;> try dsimp only) <;> try with_reducible rfl)
      all_goals try omega
      all_goals (rfl)
    exact ⟨Nat.zero_le _, rfl, Nat.zero_le _⟩
  · rename_i s hs hg
    refine GHeld.mk ?_
    refine Exists.intro (s.2, xs.getD s.1 0) ?_
    refine And.intro (Leaf.mk ?_) ?_
    · repeat' first | exact True.intro | refine And.intro ?_ ?_
      all_goals try ((change _ = _ <;> try dsimp only) <;> try with_reducible rfl)
      all_goals try omega
      all_goals (rfl)
    exact ⟨rfl, hs.2.2, h2 s.1 (by omega)⟩
  · rename_i s hs hg t ht hn
    refine GHeld.mk ?_
    refine Exists.intro (t.2, t.1.tmod t.2) ?_
    refine And.intro (Leaf.mk ?_) ?_
    · repeat' first | exact True.intro | refine And.intro ?_ ?_
      all_goals try ((change _ = _ <;> try dsimp only) <;> try with_reducible rfl)
      all_goals try omega
      all_goals (rfl)
    refine ⟨⟨?_, ht.2.2, ?_⟩, ?_⟩
    · refine Eq.trans ?_ ht.1
      show Nat.gcd t.2.natAbs (t.1.tmod t.2).natAbs = _
      rw [Int.natAbs_tmod, Nat.gcd_comm, ← Nat.gcd_rec, Nat.gcd_comm]
    · show (t.1.tmod t.2).natAbs ≤ _
      rw [Int.natAbs_tmod]
      exact Nat.le_trans (Nat.mod_le _ _) ht.2.1
    · show (t.1.tmod t.2).natAbs < t.2.natAbs
      rw [Int.natAbs_tmod]
      exact Nat.mod_lt _ (Nat.pos_of_ne_zero (fun h => hn (Int.natAbs_eq_zero.1 h)))
  · rename_i s hs hg t ht hn
    refine GHeld.mk ?_
    refine Exists.intro (s.1 + 1, t.1) ?_
    refine And.intro (Leaf.mk ?_) ?_
    · repeat' first | exact True.intro | refine And.intro ?_ ?_
      all_goals try ((change _ = _ <;> try dsimp only) <;> try with_reducible rfl)
      all_goals try omega
      all_goals (rfl)
    have e := ht.1
    have hn : t.2 = 0 := hn
    rw [hn] at e
    have e : t.1.natAbs = Nat.gcd s.2.natAbs (xs.getD s.1 0).natAbs := by simpa using e
    refine ⟨⟨?_, ?_, ht.2.1⟩, ?_⟩
    · show s.1 + 1 ≤ xs.length; omega
    · show t.1.natAbs = gf xs (s.1 + 1)
      rw [e, hs.2.1]; rfl
    · show xs.length - (s.1 + 1) < xs.length - s.1; omega
  · rename_i s hs hg
    have e : s.1 = xs.length := by have := hs.1; omega
    have e2 := hs.2.1
    rw [e] at e2
    rw [← e2]
    simp only [cond_true]
    split <;> omega
end Go.Eng.Ar

namespace Go.Eng.Ar
open Go.Eng Go.Proofs
set_option linter.all false
set_option maxRecDepth 100000
set_option maxHeartbeats 8000000
abbrev ArrD : Type := ArrT.Den
abbrev spkN (xs : List SpkD) (i : Nat) : SpkD := xs.getD i spkZ
@[reducible] def sArrErr : Spec := { pats := [.dat ArrT], res := [{ t := I64 }], pre := fun x => pLen (List.length (α := SpkD) x.1.2.2.1), f := fun x => ((chkA x.1.1 x.1.2.1 x.1.2.2.1).2, ()) }
theorem h87 : Ok 87 sArrErr := by
  refine mk (ctr := [(25, sCheck)]) ⟨h25, trivial⟩ (nt := 11) Tryz.func87 rfl rfl rfl rfl (by kernel_rfl) (by kernel_rfl) (fun _ => []) ?_
  rintro ⟨⟨(r : Int), (v : Int), (xs : List SpkD), _⟩, _⟩ (hp : pLen xs.length)
  repeat' (intro hzz; (try (rename Two => hq; cases hq)); (try dsimp only at hzz); (try simp only [resTy, argTy, eqD, inR, big, wantOf, zB] at hzz); (try (revert hzz; intro _)))
  all_goals try (rename Unit => hq; clear hq)
  all_goals try ((with_reducible refine Held.mk ?_); (with_reducible (first | refine Frz.mk ?_ | refine And.intro (Frz.mk ?_) ?_ | refine And.intro ?_ (Frz.mk ?_))); repeat' first | exact True.intro | (change _ = _; with_reducible rfl) | refine And.intro ?_ ?_ | (with_reducible refine Frz.mk ?_))
  all_goals try (refine Held.mk ?_; (try dsimp only at *); (try simp only [resTy, argTy, eqD, inR, big, wantOf, zB] at *))
  · exact hp
def findS (p : SpkD → Bool) : List SpkD → Nat → Int
  | [], _ => -1
  | x :: r, i => if p x = true then i else findS p r (i + 1)
theorem drop_getS {xs : List SpkD} {i : Nat} (h : i < xs.length) : xs.drop i = spkN xs i :: xs.drop (i + 1) := by
  rw [List.drop_eq_getElem_cons h]
  simp [spkN, List.getD, List.getElem?_eq_getElem h]
theorem findS_step {p : SpkD → Bool} {xs : List SpkD} {i : Nat} (h : i < xs.length) : findS p (xs.drop i) i = if p (spkN xs i) = true then (i : Int) else findS p (xs.drop (i + 1)) (i + 1) := by
  rw [drop_getS h]; rfl
theorem findS_any (p : SpkD → Bool) : ∀ (xs : List SpkD) (i : Nat), decide (findS p xs i ≥ 0) = xs.any p
  | [], i => by simp [findS]
  | x :: r, i => by
    simp only [findS, List.any_cons]
    by_cases h : p x = true
    · have h2 : (if p x = true then (i : Int) else findS p r (i + 1)) = i := if_pos h
      simp only [h, if_true, Bool.true_or, decide_eq_true_eq]
      omega
    · have h' : p x = false := by simpa using h
      simp only [h', Bool.false_eq_true, if_false, Bool.false_or]
      exact findS_any p r (i + 1)
abbrev clN : Ty := .clo 161 (.cons (.ptr PlaceT) .nil)
def nrS (seat : PlaceD) (s : SpkD) : Bool := nearB s.1 seat
@[reducible] def sLitN : Spec := { pats := [.dat SpkT, .dat (.ptr PlaceT)], res := [{ t := .bool }], pre := fun _ => True, f := fun x => (nrS x.2.1 x.1, ()) }
theorem h161 : Ok 161 sLitN := by
  refine mk (ctr := [(78, sNear)]) ⟨h78, trivial⟩ (nt := 9) Tryz.func161 rfl rfl rfl rfl (by kernel_rfl) (by kernel_rfl) (fun _ => []) ?_
  rintro ⟨⟨(a : PlaceD), (g : Int), (d : Int), _⟩, (p : PlaceD), _⟩ _
  repeat' (intro hzz; (try (rename Two => hq; cases hq)); (try dsimp only at hzz); (try simp only [resTy, argTy, eqD, inR, big, wantOf, zB] at hzz); (try (revert hzz; intro _)))
  all_goals try (rename Unit => hq; clear hq)
  all_goals try ((with_reducible refine Held.mk ?_); (with_reducible (first | refine Frz.mk ?_ | refine And.intro (Frz.mk ?_) ?_ | refine And.intro ?_ (Frz.mk ?_))); repeat' first | exact True.intro | (change _ = _; with_reducible rfl) | refine And.intro ?_ ?_ | (with_reducible refine Frz.mk ?_))
  all_goals try (refine Held.mk ?_; (try dsimp only at *); (try simp only [resTy, argTy, eqD, inR, big, wantOf, zB] at *))
  all_goals rfl
@[reducible] def sIdxN : Spec := { pats := [.dat (.sl SpkT), .dat clN], res := [{ t := I64 }], pre := fun x => pLen (List.length (α := SpkD) x.1), f := fun x => (findS (nrS x.2.1.1) x.1 0, ()) }
theorem h141 : Ok 141 sIdxN := by
  refine mk (ctr := [(161, sLitN)]) ⟨h161, trivial⟩ (nt := 19) Tryz.func141 rfl rfl rfl rfl (by kernel_rfl) (by kernel_rfl) (fun x => [fun _ => { σ := Nat, pat := fun i => [sI 8 i], inv := fun i => i ≤ List.length (α := SpkD) x.1 ∧ findS (nrS x.2.1.1) (List.drop (α := SpkD) i x.1) i = findS (nrS x.2.1.1) x.1 0, meas := fun i => List.length (α := SpkD) x.1 - i }]) ?_
  rintro ⟨(xs : List SpkD), ⟨(m : PlaceD), _⟩, _⟩ (hp : pLen xs.length)
  have := hp.out
  repeat' (intro hzz; (try (rename Two => hq; cases hq)); (try dsimp only at hzz); (try simp only [resTy, argTy, eqD, inR, big, wantOf, zB] at hzz); (try (first | contradiction | (exfalso; omega))); (try (revert hzz; intro _)))
  all_goals try (rename Unit => hq; clear hq)
  all_goals try ((with_reducible refine Held.mk ?_); (with_reducible (first | refine Frz.mk ?_ | refine And.intro (Frz.mk ?_) ?_ | refine And.intro ?_ (Frz.mk ?_))); repeat' first | exact True.intro | (change _ = _; with_reducible rfl) | refine And.intro ?_ ?_ | (with_reducible refine Frz.mk ?_))
  all_goals try (refine Held.mk ?_; (try dsimp only at *); (try simp only [resTy, argTy, eqD, inR, big, wantOf, zB] at *))
  all_goals try omega
  · 
    refine GHeld.mk ?_
    refine Exists.intro 0 ?_
    refine And.intro (Leaf.mk ?_) ?_
    · repeat' first | exact True.intro | refine And.intro ?_ ?_
      all_goals try ((change _ = _ <;> try dsimp only) <;> try with_reducible rfl)
      all_goals try omega
    exact ⟨Nat.zero_le _, rfl⟩
  · rename_i i hi hg h
    have h1 := findS_step (p := nrS m) (xs := xs) (i := i) (by omega)
    rw [if_pos (show nrS m (spkN xs i) = true from h)] at h1
    exact h1.symm.trans hi.2
  · rename_i i hi hg h
    have h1 := findS_step (p := nrS m) (xs := xs) (i := i) (by omega)
    have h : nrS m (spkN xs i) = false := h
    rw [if_neg (by rw [h]; decide)] at h1
    refine GHeld.mk ?_
    refine Exists.intro (i + 1) ?_
    refine And.intro (Leaf.mk ?_) ?_
    · repeat' first | exact True.intro | refine And.intro ?_ ?_
      all_goals try ((change _ = _ <;> try dsimp only) <;> try with_reducible rfl)
      all_goals try omega
    exact ⟨⟨by show i + 1 ≤ xs.length; omega, h1.symm.trans hi.2⟩, by show xs.length - (i + 1) < xs.length - i; omega⟩
  · rename_i i hi hg
    have h1 := hi.2
    rw [List.drop_eq_nil_of_le (by omega)] at h1
    exact h1
@[reducible] def sContN : Spec := { pats := [.dat (.sl SpkT), .dat clN], res := [{ t := .bool }], pre := fun x => pLen (List.length (α := SpkD) x.1), f := fun x => (List.any (α := SpkD) x.1 (nrS x.2.1.1), ()) }
theorem h95 : Ok 95 sContN := by
  refine mk (ctr := [(141, sIdxN)]) ⟨h141, trivial⟩ (nt := 9) Tryz.func95 rfl rfl rfl rfl (by kernel_rfl) (by kernel_rfl) (fun _ => []) ?_
  rintro ⟨(xs : List SpkD), ⟨(m : PlaceD), _⟩, _⟩ (hp : pLen xs.length)
  repeat' (intro hzz; (try (rename Two => hq; cases hq)); (try dsimp only at hzz); (try simp only [resTy, argTy, eqD, inR, big, wantOf, zB] at hzz); (try (revert hzz; intro _)))
  all_goals try (rename Unit => hq; clear hq)
  all_goals try ((with_reducible refine Held.mk ?_); (with_reducible (first | refine Frz.mk ?_ | refine And.intro (Frz.mk ?_) ?_ | refine And.intro ?_ (Frz.mk ?_))); repeat' first | exact True.intro | (change _ = _; with_reducible rfl) | refine And.intro ?_ ?_ | (with_reducible refine Frz.mk ?_))
  all_goals try (refine Held.mk ?_; (try dsimp only at *); (try simp only [resTy, argTy, eqD, inR, big, wantOf, zB] at *))
  · exact hp
  · exact findS_any _ _ _
def nearAny (xs : List SpkD) (seat : PlaceD) : Bool := xs.any (nrS seat)
def seatE (xs : List SpkD) (seat : PlaceD) : Int := if plErr seat.1 seat.2.1 seat.2.2.1 = 0 then (if nearAny xs seat = true then 11 else 0) else plErr seat.1 seat.2.1 seat.2.2.1
@[reducible] def xCN : Xt := { clos := [(161, [PlaceT])] }
theorem xCN_ok : Its xCN.its := True.intro
@[reducible] def sSeatE : Spec := { pats := [.dat ArrT, .dat PlaceT], res := [{ t := I64 }], pre := fun x => pLen (List.length (α := SpkD) x.1.2.2.1), f := fun x => (seatE x.1.2.2.1 x.2.1, ()) }
theorem h140 : Ok 140 sSeatE := by
  refine mkX (X := xCN) (hX := xCN_ok) (ctr := [(73, sFirst), (74, sPlace), (85, sUnless), (95, sContN)]) ⟨h73, h74, h85, h95, trivial⟩ (nt := 17) Tryz.func140 rfl rfl rfl rfl (by kernel_rfl) (by kernel_rfl) (fun _ => []) ?_
  rintro ⟨⟨(r : Int), (v : Int), (xs : List SpkD), _⟩, (p : PlaceD), _⟩ (hp : pLen xs.length)
  repeat' (intro hzz; (try (rename Two => hq; cases hq)); (try dsimp only at hzz); (try simp only [resTy, argTy, eqD, inR, big, wantOf, zB] at hzz); (try (revert hzz; intro _)))
  all_goals try (rename Unit => hq; clear hq)
  all_goals try ((with_reducible refine Held.mk ?_); (with_reducible (first | refine Frz.mk ?_ | refine And.intro (Frz.mk ?_) ?_ | refine And.intro ?_ (Frz.mk ?_))); repeat' first | exact True.intro | (change _ = _; with_reducible rfl) | refine And.intro ?_ ?_ | (with_reducible refine Frz.mk ?_))
  all_goals try (refine Held.mk ?_; (try dsimp only at *); (try simp only [resTy, argTy, eqD, inR, big, wantOf, zB] at *))
  · exact hp
  · show ((2 : Nat) : Int) ≤ 4611686018427387904; decide
  · show firstI [plErr p.1 p.2.1 p.2.2.1, bif !nearAny xs p then 0 else 11] = seatE xs p
    simp only [firstI, seatE]
    split
    · cases nearAny xs p <;> rfl
    · rfl
abbrev RayD : Type := RayT.Den
def inSp (s : SpkD) : Prop := inP s.1 ∧ (0 ≤ (s.2.1 : Int) ∧ (s.2.1 : Int) ≤ 1000) ∧ (0 ≤ (s.2.2.1 : Int) ∧ (s.2.2.1 : Int) ≤ 10000)
theorem gn_of {g d : Int} (h : gnErr g d = 0) : (0 ≤ g ∧ g ≤ 1000) ∧ (0 ≤ d ∧ d ≤ 10000) := by
  simp only [gnErr] at h
  split at h
  · assumption
  · cases h
theorem inSp_of {s : SpkD} (h : spErr s = 0) : inSp s := by
  unfold spErr at h
  split at h
  · rename_i h1; exact ⟨inP_of h1, gn_of h⟩
  · rename_i h1; exact absurd h h1
theorem chkGo_ok {xs : List SpkD} : ∀ (k i : Nat), i + k = xs.length → (chkGo xs k i).2 = 0 → ∀ j, i ≤ j → j < xs.length → inSp (spkN xs j)
  | 0, i, hk, _, j, h1, h2 => by omega
  | k + 1, i, hk, h, j, h1, h2 => by
    simp only [chkGo] at h
    split at h
    · rename_i hs
      by_cases e : j = i
      · subst e; exact inSp_of hs
      · exact chkGo_ok k (i + 1) (by omega) h j (by omega) h2
    · rename_i hs; exact absurd h hs
structure goodArr (r v : Int) (xs : List SpkD) : Prop where
  snd : (8000 ≤ r ∧ r ≤ 192000) ∧ (30000 ≤ v ∧ v ≤ 40000)
  pos : 0 < xs.length
  le : xs.length ≤ 8
  sp : ∀ i, i < xs.length → inSp (spkN xs i)
theorem arr_of {r v : Int} {xs : List SpkD} (h : (chkA r v xs).2 = 0) : goodArr r v xs := by
  unfold chkA at h
  split at h
  · rename_i h0
    unfold hdErr at h0
    split at h0
    · rename_i h1
      split at h0
      · cases h0
      · split at h0
        · rename_i h2 h3
          refine ⟨?_, by omega, h3, fun i hi => chkGo_ok xs.length 0 (by omega) h i (Nat.zero_le _) hi⟩
          have := inS_of (x := (r, v, ())) h1
          exact this
        · cases h0
    · rename_i h1; exact absurd h0 h1
  · rename_i h0; exact absurd h h0
theorem seat_of {xs : List SpkD} {p : PlaceD} (h : seatE xs p = 0) : inP p ∧ ∀ i, i < xs.length → nearB (spkN xs i).1 p = false := by
  unfold seatE at h
  split at h
  · rename_i h1
    split at h
    · cases h
    · rename_i h2
      refine ⟨inP_of h1, fun i hi => ?_⟩
      have h3 : nearAny xs p = false := by simpa using h2
      have h4 := List.any_eq_false.1 h3 (spkN xs i) (by
        have : spkN xs i = xs[i] := by simp [spkN, List.getD, List.getElem?_eq_getElem hi]
        rw [this]; exact List.getElem_mem hi)
      simpa [nrS] using h4
  · rename_i h1; exact absurd h h1
theorem far_of {a b : PlaceD} (ha : inP a) (hb : inP b) (h : nearB a b = false) : 100 ≤ sqP a b := by
  rw [sqW_near ha hb] at h
  have := of_decide_eq_false h
  omega
def rayOf (r v : Int) (p : PlaceD) (s : SpkD) : RayD := (s, (stL s.1 p, stU s.1 p, ()), (nuL s.1 p (r, v, ()), nuU s.1 p (r, v, ()), ()), ())
def opErr (r v : Int) (xs : List SpkD) (p : PlaceD) : Int := if (chkA r v xs).2 = 0 then seatE xs p else (chkA r v xs).2
def raysT (r v : Int) (xs : List SpkD) (p : PlaceD) (k : Nat) : List RayD := tab (fun i => rayOf r v p (spkN xs i)) k
def openR (r v : Int) (xs : List SpkD) (p : PlaceD) : List RayD × Int × Unit := if opErr r v xs p = 0 then (raysT r v xs p xs.length, 0, ()) else ([], opErr r v xs p, ())
@[reducible] def sOpen : Spec := { pats := [.dat ArrT, .dat PlaceT], res := [{ t := .sl RayT }, { t := I64 }], pre := fun x => pLen (List.length (α := SpkD) x.1.2.2.1), f := fun x => openR x.1.1 x.1.2.1 x.1.2.2.1 x.2.1 }
def opAnn (r v : Int) (xs : List SpkD) (p : PlaceD) : LoopAnn := { σ := Nat, pat := fun k => [sI 26 k, .slot 8 (.one (.o 60008 k)), .row 60008 147 RayT (raysT r v xs p k)], inv := fun k => k ≤ xs.length, meas := fun k => xs.length - k }
theorem h93 : Ok 93 sOpen := by
  refine mk (ctr := [(77, sNums), (79, sStr), (84, sSoundOf), (87, sArrErr), (140, sSeatE)]) ⟨h77, h79, h84, h87, h140, trivial⟩ (nt := 47) Tryz.func93 rfl rfl rfl rfl (by kernel_rfl) (by kernel_rfl) (fun x => [fun _ => opAnn x.1.1 x.1.2.1 x.1.2.2.1 x.2.1]) ?_
  rintro ⟨⟨(r : Int), (v : Int), (xs : List SpkD), _⟩, (p : PlaceD), _⟩ (hp : pLen xs.length)
  repeat' (intro hzz; (try (rename Two => hq; cases hq)); (try dsimp only at hzz); (try simp only [resTy, argTy, eqD, inR, big, wantOf, zB] at hzz); (try (revert hzz; intro _)))
  all_goals try (rename Unit => hq; clear hq)
  all_goals try ((with_reducible refine Held.mk ?_); (with_reducible (first | refine Frz.mk ?_ | refine And.intro (Frz.mk ?_) ?_ | refine And.intro ?_ (Frz.mk ?_))); repeat' first | exact True.intro | (change _ = _; with_reducible rfl) | refine And.intro ?_ ?_ | (with_reducible refine Frz.mk ?_))
  all_goals try (refine Held.mk ?_; (try dsimp only at *); (try simp only [resTy, argTy, eqD, inR, big, wantOf, zB] at *))
  · exact hp
  · rename_i h
    have e : opErr r v xs p = (chkA r v xs).2 := if_neg h
    have e2 : openR r v xs p = ([], (chkA r v xs).2, ()) := by unfold openR; rw [e, if_neg h]
    rw [e2]; exact ⟨rfl, rfl⟩
  · exact hp
  · rename_i h1 h
    have h : ¬ seatE xs p = 0 := h
    have e : opErr r v xs p = seatE xs p := if_pos h1
    have e2 : openR r v xs p = ([], seatE xs p, ()) := by unfold openR; rw [e, if_neg h]
    rw [e2]; exact ⟨rfl, rfl⟩
  · rename_i h1 h
    refine GHeld.mk ?_
    refine Exists.intro (0 : Nat) ?_
    refine And.intro (Leaf.mk ?_) ?_
    · repeat' first | exact True.intro | refine And.intro ?_ ?_
      all_goals try ((change _ = _ <;> try dsimp only) <;> try with_reducible rfl)
      all_goals try omega
      all_goals (rfl)
    exact Nat.zero_le _
  · rename_i h1 h k hk hg; omega
  · rename_i h1 h k hk hg
    have ha := arr_of h1
    have hs := seat_of h
    have h2 := (ha.sp k (by omega)).1
    exact ⟨⟨h2, hs.1⟩, far_of h2 hs.1 (hs.2 k (by omega))⟩
  · rename_i h1 h k hk hg
    have ha := arr_of h1
    have hs := seat_of h
    exact ⟨⟨(ha.sp k (by omega)).1, hs.1⟩, ha.snd⟩
  · rename_i h1 h k hk hg
    have e : (raysT r v xs p k).length = k := tab_len _ _
    have ha := (arr_of h1).le
    refine ⟨e.symm, ?_⟩
    rw [e]; show k + 1 ≤ 2147483648; omega
  · rename_i h1 h k hk hg
    have := hp.out
    omega
  · rename_i h1 h k hk hg
    have e : (raysT r v xs p (k + 1)).length = k + 1 := tab_len _ _
    refine GHeld.mk ?_
    refine Exists.intro (k + 1) ?_
    refine And.intro (Leaf.mk ?_) ?_
    · repeat' first | exact True.intro | refine And.intro ?_ ?_
      all_goals try ((change _ = _ <;> try dsimp only) <;> try with_reducible rfl)
      all_goals try omega
      all_goals (first | rfl | exact e.symm | exact e | (rw [List.length_append, tab_len]; rfl))
    exact ⟨by show k + 1 ≤ xs.length; omega, by show xs.length - (k + 1) < xs.length - k; omega⟩
  all_goals try exact (tab_len _ _).symm
  · rename_i h1 h k hk hg
    have h : seatE xs p = 0 := h
    have e : opErr r v xs p = 0 := (if_pos h1).trans h
    have e2 : openR r v xs p = (raysT r v xs p xs.length, 0, ()) := if_pos e
    rw [e2, show k = xs.length by omega]; exact ⟨rfl, rfl⟩
def shr (m z : Int) : Int × Int := if m % 4 = 0 then (z, 0) else if m % 4 = 1 then (0, -z) else if m % 4 = 2 then (-z, 0) else (0, z)
abbrev pShr (n d z : Int) : Prop := (0 ≤ n + d ∧ n + d ≤ 1000000000000000000) ∧ (0 ≤ z ∧ z ≤ 1000000000000000000)
@[reducible] def sShare : Spec := { pats := [.dat RayT, .dat I64, .dat I64], res := [{ t := PairT }], pre := fun x => pShr x.2.1 x.1.1.2.2.1 x.2.2.1, f := fun x => (((shr (x.2.1 + x.1.1.2.2.1) x.2.2.1).1, (shr (x.2.1 + x.1.1.2.2.1) x.2.2.1).2, ()), ()) }
theorem h98 : Ok 98 sShare := by
  refine mk (ctr := []) trivial (nt := 29) Tryz.func98 rfl rfl rfl rfl (by kernel_rfl) (by kernel_rfl) (fun _ => []) ?_
  rintro ⟨⟨⟨(a : PlaceD), (g : Int), (d : Int), _⟩, s, n, _⟩, (m : Int), (z : Int), _⟩ ⟨(h1 : 0 ≤ m + d ∧ m + d ≤ 1000000000000000000), (h2 : 0 ≤ z ∧ z ≤ 1000000000000000000)⟩
  have e : (m + d).tmod 4 = (m + d) % 4 := Int.tmod_eq_emod_of_nonneg h1.1
  repeat' (intro hzz; (try (rename Two => hq; cases hq)); (try dsimp only at hzz); (try simp only [resTy, argTy, eqD, inR, big, wantOf, zB] at hzz); (try simp only [resTy, argTy, eqD, inR, big, wantOf, zB, e] at hzz); (try (revert hzz; intro _)))
  all_goals try (rename Unit => hq; clear hq)
  all_goals try ((with_reducible refine Held.mk ?_); (with_reducible (first | refine Frz.mk ?_ | refine And.intro (Frz.mk ?_) ?_ | refine And.intro ?_ (Frz.mk ?_))); repeat' first | exact True.intro | (change _ = _; with_reducible rfl) | refine And.intro ?_ ?_ | (with_reducible refine Frz.mk ?_))
  all_goals try (refine Held.mk ?_; (try dsimp only at *); (try simp only [resTy, argTy, eqD, inR, big, wantOf, zB] at *); (try simp only [resTy, argTy, eqD, inR, big, wantOf, zB, e] at *))
  all_goals try omega
  · rename_i h
    have e : shr (m + d) z = (z, 0) := if_pos h
    rw [e]; exact ⟨rfl, rfl⟩
  · rename_i h1 h
    have e : shr (m + d) z = (0, -z) := (if_neg h1).trans (if_pos h)
    rw [e]; exact ⟨rfl, rfl⟩
  · rename_i h1 h2 h
    have e : shr (m + d) z = (-z, 0) := (if_neg h1).trans ((if_neg h2).trans (if_pos h))
    rw [e]; exact ⟨rfl, rfl⟩
  · rename_i h1 h2 h
    have e : shr (m + d) z = (0, z) := (if_neg h1).trans ((if_neg h2).trans (if_neg h))
    rw [e]; exact ⟨rfl, rfl⟩
end Go.Eng.Ar

namespace Go.Eng.Ar
open Go.Eng Go.Proofs
set_option linter.all false
set_option maxRecDepth 100000
set_option maxHeartbeats 8000000
@[reducible] def xF4 : Xt := { fuel := 4 }
theorem xF4_ok : Its xF4.its := True.intro
abbrev rayZ : RayD := Ty.dflt RayT
abbrev rayN (l : List RayD) (i : Nat) : RayD := l.getD i rayZ
def giv (x : RayD) : Int × Int := shr (x.2.2.1.1 + x.1.2.2.1) (x.1.2.1 * x.2.1.1)
def reT (l : List RayD) (k : Nat) : Int := sm (fun i => (giv (rayN l i)).1) k
def imT (l : List RayD) (k : Nat) : Int := sm (fun i => (giv (rayN l i)).2) k
theorem shr_bd {m z B : Int} (h : 0 ≤ z ∧ z ≤ B) : (-B ≤ (shr m z).1 ∧ (shr m z).1 ≤ B) ∧ (-B ≤ (shr m z).2 ∧ (shr m z).2 ≤ B) := by
  unfold shr
  split
  · show (-B ≤ z ∧ z ≤ B) ∧ (-B ≤ 0 ∧ 0 ≤ B); omega
  · split
    · show (-B ≤ 0 ∧ 0 ≤ B) ∧ (-B ≤ -z ∧ -z ≤ B); omega
    · split
      · show (-B ≤ -z ∧ -z ≤ B) ∧ (-B ≤ 0 ∧ 0 ≤ B); omega
      · show (-B ≤ 0 ∧ 0 ≤ B) ∧ (-B ≤ z ∧ z ≤ B); omega
structure goodRay (x : RayD) : Prop where
  g : 0 ≤ (x.1.2.1 : Int) ∧ (x.1.2.1 : Int) ≤ 1000
  d : 0 ≤ (x.1.2.2.1 : Int) ∧ (x.1.2.2.1 : Int) ≤ 10000
  s : 0 ≤ (x.2.1.1 : Int) ∧ (x.2.1.1 : Int) ≤ 100000
  su : (x.2.1.1 : Int) ≤ (x.2.1.2.1 : Int) ∧ (x.2.1.2.1 : Int) ≤ 100000
  n : 0 ≤ (x.2.2.1.1 : Int) ∧ (x.2.2.1.1 : Int) ≤ 1000000000
  nu : (x.2.2.1.1 : Int) ≤ (x.2.2.1.2.1 : Int) ∧ (x.2.2.1.2.1 : Int) ≤ 1000000000
theorem mul_le {a b A B : Int} (h1 : 0 ≤ a ∧ a ≤ A) (h2 : 0 ≤ b ∧ b ≤ B) : 0 ≤ a * b ∧ a * b ≤ A * B := ⟨Int.mul_nonneg h1.1 h2.1, Int.mul_le_mul h1.2 h2.2 h2.1 (Int.le_trans h1.1 h1.2)⟩
abbrev CD : Type := Nat × Nat
def cpxI (re im : Int) : CD := (floatOfInt .f64 re, floatOfInt .f64 im)
@[reducible] def sNum : Spec := { pats := [.dat I64, .dat I64], res := [{ t := C128 }], pre := fun _ => True, f := fun x => (cpxI x.1 x.2.1, ()) }
theorem h49 : Ok 49 sNum := by
  refine mk (ctr := []) trivial (nt := 10) Tryz.func49 rfl rfl rfl rfl (by kernel_rfl) (by kernel_rfl) (fun _ => []) ?_
  rintro ⟨(a : Int), (b : Int), _⟩ _
  repeat' (intro hzz; (try (rename Two => hq; cases hq)); (try dsimp only at hzz); (try simp only [resTy, argTy, eqD, inR, big, wantOf, zB] at hzz); (try (revert hzz; intro _)))
  all_goals try (rename Unit => hq; clear hq)
  all_goals try ((with_reducible refine Held.mk ?_); (with_reducible (first | refine Frz.mk ?_ | refine And.intro (Frz.mk ?_) ?_ | refine And.intro ?_ (Frz.mk ?_))); repeat' first | exact True.intro | (change _ = _; with_reducible rfl) | refine And.intro ?_ ?_ | (with_reducible refine Frz.mk ?_))
  all_goals try (refine Held.mk ?_; (try dsimp only at *); (try simp only [resTy, argTy, eqD, inR, big, wantOf, zB] at *))
  all_goals rfl
def fSame (a b : Nat × Nat) : Bool := decide (a.1 = b.1) && decide (a.2 = b.2)
@[reducible] def sSame : Spec := { pats := [.dat C128, .dat C128], res := [{ t := .bool }], pre := fun _ => True, f := fun x => (fSame x.1 x.2.1, ()) }
theorem h46 : Ok 46 sSame := by
  refine mk (ctr := []) trivial (nt := 21) Tryz.func46 rfl rfl rfl rfl (by kernel_rfl) (by kernel_rfl) (fun _ => []) ?_
  rintro ⟨⟨a, b⟩, ⟨c, d⟩, _⟩ _
  repeat' (intro hzz; (try (rename Two => hq; cases hq)); (try dsimp only at hzz); (try simp only [resTy, argTy, eqD, inR, big, wantOf, zB] at hzz); (try (revert hzz; intro _)))
  all_goals try (rename Unit => hq; clear hq)
  all_goals try ((with_reducible refine Held.mk ?_); (with_reducible (first | refine Frz.mk ?_ | refine And.intro (Frz.mk ?_) ?_ | refine And.intro ?_ (Frz.mk ?_))); repeat' first | exact True.intro | (change _ = _; with_reducible rfl) | refine And.intro ?_ ?_ | (with_reducible refine Frz.mk ?_))
  all_goals try (refine Held.mk ?_; (try dsimp only at *); (try simp only [resTy, argTy, eqD, inR, big, wantOf, zB] at *))
  · rename_i h
    have h : a = c := Int.ofNat_inj.1 h
    show decide ((b : Int) = (d : Int)) = fSame (a, b) (c, d)
    subst h
    by_cases hb : b = d <;> simp [fSame, hb, Int.ofNat_inj]
  · rename_i h
    have h : ¬ a = c := fun e => h (by rw [e])
    show false = fSame (a, b) (c, d)
    simp [fSame, h]
theorem str_bd {a b : PlaceD} (ha : inP a) (hb : inP b) (h : 100 ≤ sqP a b) : (0 ≤ stL a b ∧ stL a b ≤ 100000) ∧ (stL a b ≤ stU a b ∧ stU a b ≤ 100000) := by
  have h1 := far_bd ha hb
  have h2 := far_ge ha hb h
  have e1 : stU a b = (1000000000 + farL a b - 1) / farL a b := by
    have := cl_eq (n := 1000000000) (b := farL a b) (by decide) (by omega)
    rw [Int.tdiv_eq_ediv_of_nonneg (by omega)] at this
    exact this.symm
  have h3 : stL a b ≤ 100000 := Int.ediv_le_of_le_mul (by omega) (by omega)
  have h4 : 0 ≤ stL a b := Int.ediv_nonneg (by decide) (by omega)
  have h5 : stU a b ≤ 100000 := by
    rw [e1]
    refine Int.lt_add_one_iff.1 (Int.ediv_lt_of_lt_mul (by omega) ?_)
    omega
  have h6 : stL a b ≤ stU a b := by
    rw [e1]
    have q0 : stL a b * farU a b ≤ 1000000000 := Int.ediv_mul_le _ (by omega)
    have q1 : stL a b * farL a b ≤ stL a b * farU a b := Int.mul_le_mul_of_nonneg_left (by omega) h4
    exact Int.le_ediv_of_mul_le (by omega) (by omega)
  exact ⟨⟨h4, h3⟩, h6, h5⟩
theorem rayOf_good {r v : Int} {p : PlaceD} {s : SpkD} (hx : inS (r, v, ())) (hs : inSp s) (hp : inP p) (hn : 100 ≤ sqP s.1 p) : goodRay (rayOf r v p s) := by
  have h1 := far_bd hs.1 hp
  have h2 : 0 ≤ farL s.1 p * r ∧ farL s.1 p * r ≤ 3325537728000 := fr_bd (by omega) (by omega) hx.1
  have h3 : 0 ≤ farU s.1 p * r ∧ farU s.1 p * r ≤ 3325537728000 := fr_bd (by omega) (by omega) hx.1
  have hv : (30000 : Int) ≤ v ∧ v ≤ 40000 := hx.2
  have hr : (8000 : Int) ≤ r ∧ r ≤ 192000 := hx.1
  have h4 := div_bd (b := v) h2.1 (by omega)
  have h5 := cl_bd (b := v) h3.1 (by omega)
  have h6 : (farL s.1 p * r) / v ≤ cl (farU s.1 p * r) v := by
    have q := cl_eq (n := farU s.1 p * r) (b := v) h3.1 (by omega)
    rw [Int.tdiv_eq_ediv_of_nonneg (by omega)] at q
    rw [← q]
    refine Int.ediv_le_ediv (by omega) ?_
    have := Int.mul_le_mul_of_nonneg_right h1.2.1 (show 0 ≤ r by omega)
    omega
  have h7 := str_bd hs.1 hp hn
  have h8 : (farL s.1 p * r) / v ≤ 200000000 := Int.ediv_le_of_le_mul (by omega) (by omega)
  have h9 : cl (farU s.1 p * r) v ≤ 200000000 := by
    have q := cl_eq (n := farU s.1 p * r) (b := v) h3.1 (by omega)
    rw [Int.tdiv_eq_ediv_of_nonneg (by omega)] at q
    rw [← q]
    exact Int.ediv_le_of_le_mul (by omega) (by omega)
  refine ⟨hs.2.1, hs.2.2, h7.1, h7.2, ?_, ?_⟩
  · show 0 ≤ ((farL s.1 p * r) / v + 500) / 1000 ∧ ((farL s.1 p * r) / v + 500) / 1000 ≤ 1000000000
    omega
  · show ((farL s.1 p * r) / v + 500) / 1000 ≤ (cl (farU s.1 p * r) v + 500) / 1000 ∧ (cl (farU s.1 p * r) v + 500) / 1000 ≤ 1000000000
    omega
theorem open_good (r v : Int) (xs : List SpkD) (p : PlaceD) : ∃ L e, openR r v xs p = (L, e, ()) ∧ L.length ≤ 8 ∧ (∀ i, i < L.length → goodRay (rayN L i)) ∧ e = opErr r v xs p := by
  unfold openR
  split
  · rename_i h
    refine ⟨_, _, rfl, ?_, ?_, h.symm⟩
    all_goals
      unfold opErr at h
      split at h
      · rename_i h1
        have ha := arr_of h1
        have hs := seat_of h
        first
        | (rw [raysT, tab_len]; exact ha.le)
        | (intro i hi
           rw [raysT, tab_len] at hi
           have q : rayN (raysT r v xs p xs.length) i = rayOf r v p (spkN xs i) := tab_get _ _ _ _ hi
           rw [q]
           exact rayOf_good ha.snd (ha.sp i hi) hs.1 (far_of (ha.sp i hi).1 hs.1 (hs.2 i hi)))
      · rename_i h1; exact absurd h h1
  · exact ⟨_, _, rfl, Nat.zero_le _, fun i hi => absurd hi (Nat.not_lt_zero _), rfl⟩
theorem giv_bd {x : RayD} (h : goodRay x) : (-100000000 ≤ (giv x).1 ∧ (giv x).1 ≤ 100000000) ∧ (-100000000 ≤ (giv x).2 ∧ (giv x).2 ≤ 100000000) := shr_bd (mul_le h.g h.s)
theorem reT_bd {L : List RayD} {k : Nat} (h : ∀ i, i < k → goodRay (rayN L i)) (hk : k ≤ 8) : (-800000000 ≤ reT L k ∧ reT L k ≤ 800000000) ∧ (-800000000 ≤ imT L k ∧ imT L k ≤ 800000000) := by
  have h1 := sm_le (f := fun i => (giv (rayN L i)).1) (B := 100000000) k fun i hi => (giv_bd (h i hi)).1
  have h2 := sm_le (f := fun i => (giv (rayN L i)).2) (B := 100000000) k fun i hi => (giv_bd (h i hi)).2
  unfold reT imT
  omega
def prC (o : List RayD × Int × Unit) : CD := if o.2.1 = 0 then cpxI (reT o.1 o.1.length) (imT o.1 o.1.length) else (0, 0)
@[reducible] def sPress : Spec := { pats := [.dat ArrT, .dat PlaceT], res := [{ t := C128 }, { t := I64 }], pre := fun x => pLen (List.length (α := SpkD) x.1.2.2.1), f := fun x => (prC (openR x.1.1 x.1.2.1 x.1.2.2.1 x.2.1), opErr x.1.1 x.1.2.1 x.1.2.2.1 x.2.1, ()) }
def prAnn (l : List RayD) : LoopAnn := { σ := Nat, pat := fun k => [sI 24 k, cI 8 0 (reT l k), cI 8 1 (imT l k)], inv := fun k => k ≤ l.length, meas := fun k => l.length - k }
theorem h34 : Ok 34 sPress := by
  refine mkX (X := xF4) (hX := xF4_ok) (ctr := [(93, sOpen), (98, sShare)]) ⟨h93, h98, trivial⟩ (nt := 59) Tryz.func34 rfl rfl rfl rfl (by kernel_rfl) (by kernel_rfl) (fun x => [fun _ => prAnn (openR x.1.1 x.1.2.1 x.1.2.2.1 x.2.1).1]) ?_
  rintro ⟨⟨(r : Int), (v : Int), (xs : List SpkD), ⟨⟩⟩, ⟨(pa : Int), (pb : Int), (pc : Int), ⟨⟩⟩, ⟨⟩⟩ (hp : pLen xs.length)
  obtain ⟨L, e, he, hl, hg, hz⟩ := open_good r v xs (pa, pb, pc, ())
  have hb := fun (k : Nat) (hk : k ≤ L.length) => reT_bd (L := L) (k := k) (fun i hi => hg i (by omega)) (by omega)
  repeat' (intro hzz; (try (rename Two => hq; cases hq)); (try dsimp only at hzz); (try simp only [resTy, argTy, eqD, inR, big, wantOf, zB] at hzz); (try simp only [resTy, argTy, eqD, inR, big, wantOf, zB, he, pLen, Int.toNat_natCast] at hzz); (try (revert hzz; intro _)))
  all_goals try (rename Unit => hq; clear hq)
  all_goals try ((with_reducible refine Held.mk ?_); (with_reducible (first | refine Frz.mk ?_ | refine And.intro (Frz.mk ?_) ?_ | refine And.intro ?_ (Frz.mk ?_))); repeat' first | exact True.intro | (change _ = _; with_reducible rfl) | refine And.intro ?_ ?_ | (with_reducible refine Frz.mk ?_))
  all_goals try (refine Held.mk ?_; (try dsimp only at *); (try simp only [resTy, argTy, eqD, inR, big, wantOf, zB] at *); (try simp only [resTy, argTy, eqD, inR, big, wantOf, zB, he, pLen, Int.toNat_natCast] at *))
  all_goals try omega
  all_goals try simp only [he, Int.toNat_natCast]
  · rename_i h
    refine ⟨?_, hz⟩
    exact (if_neg h).symm
  · rename_i h
    refine GHeld.mk ?_
    refine Exists.intro (0 : Nat) ?_
    refine And.intro (Leaf.mk ?_) ?_
    · repeat' first | exact True.intro | refine And.intro ?_ ?_
      all_goals try ((change _ = _ <;> try dsimp only) <;> try with_reducible rfl)
      all_goals try omega
      all_goals (first | rfl | exact e)
    exact Nat.zero_le _
  · rename_i k hk hlt
    have q := hg k (by omega)
    have := mul_le q.g q.s
    exact ⟨Int.le_trans (by decide) this.1, Int.le_trans this.2 (by decide)⟩
  · rename_i k hk hlt
    have q := hg k (by omega)
    have := mul_le q.g q.s
    exact ⟨⟨Int.add_nonneg q.n.1 q.d.1, Int.le_trans (Int.add_le_add q.n.2 q.d.2) (by decide)⟩, this.1, Int.le_trans this.2 (by decide)⟩
  · rename_i k hk hlt _
    have := (hb (k + 1) (by omega)).1
    exact ⟨Int.le_trans (by decide) this.1, Int.le_trans this.2 (by decide)⟩
  · rename_i k hk hlt _ _
    have := (hb (k + 1) (by omega)).2
    exact ⟨Int.le_trans (by decide) this.1, Int.le_trans this.2 (by decide)⟩
  · rename_i k hk hlt _ _ _
    refine GHeld.mk ?_
    refine Exists.intro (k + 1) ?_
    refine And.intro (Leaf.mk ?_) ?_
    · repeat' first | exact True.intro | refine And.intro ?_ ?_
      all_goals try ((change _ = _ <;> try dsimp only) <;> try with_reducible rfl)
      all_goals try omega
      all_goals (first | rfl | exact e)
    exact ⟨by show k + 1 ≤ L.length; omega, by show L.length - (k + 1) < L.length - k; omega⟩
  · rename_i h k hk hlt
    refine ⟨?_, h.symm.trans hz⟩
    have e2 : k = L.length := by omega
    subst e2
    exact (if_pos h).symm
def pairA : ArrD := (34000, 34000, ([((0, 0, 0, ()), 1000, 0, ()), ((0, 0, 100, ()), 500, 400, ())] : List SpkD), ())
@[reducible] def sPair : Spec := { pats := [], res := [{ t := ArrT }], pre := fun _ => True, f := fun _ => (pairA, ()) }
theorem h72 : Ok 72 sPair := by
  refine mk (ctr := []) trivial (nt := 6) Tryz.func72 rfl rfl rfl rfl (by kernel_rfl) (by kernel_rfl) (fun _ => []) ?_
  rintro ⟨⟩ _
  repeat' (intro hzz; (try (rename Two => hq; cases hq)); (try dsimp only at hzz); (try simp only [resTy, argTy, eqD, inR, big, wantOf, zB] at hzz); (try (revert hzz; intro _)))
  all_goals try (rename Unit => hq; clear hq)
  all_goals try ((with_reducible refine Held.mk ?_); (with_reducible (first | refine Frz.mk ?_ | refine And.intro (Frz.mk ?_) ?_ | refine And.intro ?_ (Frz.mk ?_))); repeat' first | exact True.intro | (change _ = _; with_reducible rfl) | refine And.intro ?_ ?_ | (with_reducible refine Frz.mk ?_))
  all_goals try (refine Held.mk ?_; (try dsimp only at *); (try simp only [resTy, argTy, eqD, inR, big, wantOf, zB] at *))
  all_goals exact ⟨rfl, rfl, rfl⟩
end Go.Eng.Ar

namespace Go.Eng.Ar
open Go.Eng Go.Proofs
set_option linter.all false
set_option maxRecDepth 100000
set_option maxHeartbeats 8000000
abbrev sOwn (t k el : Nat) (xs : List Int) : St := [.slot t (.one (.o k xs.length)), .row k el I64 xs]
abbrev sOwn2 (t k el : Nat) (xs : List (List Int)) : St := [.slot t (.one (.o k xs.length)), .row k el (.sl I64) xs]
abbrev MatT : Ty := .sl (.sl I64)
abbrev pUnit (n at' : Int) : Prop := 0 ≤ n ∧ n ≤ 1000 ∧ 0 ≤ at' ∧ at' < n
def unitL (n at' v : Int) : List Int := (repl n (0 : Int)).set at'.toNat v
@[reducible] def sUnit : Spec := { pats := [.dat I64, .dat I64, .dat I64], res := [{ own := some 3, t := .sl I64 }], pre := fun x => pUnit x.1 x.2.1, f := fun x => (unitL x.1 x.2.1 x.2.2.1, ()) }
theorem h162 : Ok 162 sUnit := by
  refine mk (ctr := []) trivial (nt := 15) Tryz.func162 rfl rfl rfl rfl (by kernel_rfl) (by kernel_rfl) (fun _ => []) ?_
  rintro ⟨(n : Int), (k : Int), (v : Int), _⟩ ⟨h1, h2, h3, h4⟩
  have e : ((repl n (0 : Int)).length : Int) = n := by rw [repl_len]; omega
  repeat' (intro hzz; (try (rename Two => hq; cases hq)); (try dsimp only at hzz); (try simp only [resTy, argTy, eqD, inR, big, wantOf, zB] at hzz); (try (revert hzz; intro _)))
  all_goals try (rename Unit => hq; clear hq)
  all_goals try ((with_reducible refine Held.mk ?_); (with_reducible (first | refine Frz.mk ?_ | refine And.intro (Frz.mk ?_) ?_ | refine And.intro ?_ (Frz.mk ?_))); repeat' first | exact True.intro | (change _ = _; with_reducible rfl) | refine And.intro ?_ ?_ | (with_reducible refine Frz.mk ?_))
  all_goals try (refine Held.mk ?_; (try dsimp only at *); (try simp only [resTy, argTy, eqD, inR, big, wantOf, zB] at *))
  all_goals first | (exact ⟨h1, Int.le_trans h2 (by decide)⟩) | (rw [e]; exact ⟨h3, h4⟩) | (exact ⟨by rw [List.length_set], rfl⟩) | trace_state
theorem gf_pos {xs : List Int} {k : Nat} (h : vI xs k ≠ 0) : (gf xs (k + 1) : Int) ≠ 0 := by
  simp only [gf]
  intro e
  have e : Nat.gcd (gf xs k) (vI xs k).natAbs = 0 := by omega
  exact h (Int.natAbs_eq_zero.1 (Nat.gcd_eq_zero_iff.1 e).2)
theorem td_in {n b : Int} (h1 : n.natAbs ≤ 9000000000000000000) : -9223372036854775808 ≤ n.tdiv b ∧ n.tdiv b ≤ 9223372036854775807 := by
  have h3 := Int.natAbs_tdiv_le_natAbs n b
  omega
def gcd2 (a b : Int) : Int := ((Nat.gcd a.natAbs b.natAbs : Nat) : Int)
abbrev pLow (a b : Int) : Prop := a.natAbs ≤ 9000000000000000000 ∧ b.natAbs ≤ 9000000000000000000 ∧ b ≠ 0
@[reducible] def sLow : Spec := { pats := [.dat I64, .dat I64], res := [{ t := PairT }], pre := fun x => pLow x.1 x.2.1, f := fun x => ((Int.tdiv x.1 (gcd2 x.1 x.2.1), Int.tdiv x.2.1 (gcd2 x.1 x.2.1), ()), ()) }
theorem h107 : Ok 107 sLow := by
  refine mk (ctr := [(148, sDiv)]) ⟨h148, trivial⟩ (nt := 17) Tryz.func107 rfl rfl rfl rfl (by kernel_rfl) (by kernel_rfl) (fun _ => []) ?_
  rintro ⟨(a : Int), (b : Int), _⟩ ⟨h1, h2, h3⟩
  have e : (gf [a, b] [a, b].length : Int) = gcd2 a b := by
    show ((Nat.gcd (Nat.gcd 0 a.natAbs) b.natAbs : Nat) : Int) = _
    rw [Nat.gcd_zero_left]; rfl
  have e2 : gcd2 a b ≠ 0 := by rw [← e]; exact gf_pos (xs := [a, b]) (k := 1) h3
  have hd : pDiv [a, b] := ⟨by show ((2 : Nat) : Int) ≤ 4611686018427387904; decide, fun i hi => by
    have : i = 0 ∨ i = 1 := by simp at hi; omega
    rcases this with rfl | rfl
    · exact h1
    · exact h2⟩
  repeat' (intro hzz; (try (rename Two => hq; cases hq)); (try dsimp only at hzz); (try simp only [resTy, argTy, eqD, inR, big, wantOf, zB] at hzz); (try simp only [resTy, argTy, eqD, inR, big, wantOf, zB, e] at hzz); (try (revert hzz; intro _)))
  all_goals try (rename Unit => hq; clear hq)
  all_goals try ((with_reducible refine Held.mk ?_); (with_reducible (first | refine Frz.mk ?_ | refine And.intro (Frz.mk ?_) ?_ | refine And.intro ?_ (Frz.mk ?_))); repeat' first | exact True.intro | (change _ = _; with_reducible rfl) | refine And.intro ?_ ?_ | (with_reducible refine Frz.mk ?_))
  all_goals try (refine Held.mk ?_; (try dsimp only at *); (try simp only [resTy, argTy, eqD, inR, big, wantOf, zB] at *); (try simp only [resTy, argTy, eqD, inR, big, wantOf, zB, e] at *))
  all_goals first | exact hd | exact ⟨e2, td_in h1⟩ | exact ⟨e2, td_in h2⟩ | exact ⟨rfl, rfl⟩ | trace_state
def redG (l : List Int) (d : Int) : Int := (gf (l ++ [d]) (l ++ [d]).length : Int)
def redL (l : List Int) (d : Int) : List Int × Int := (tab (fun i => Int.tdiv (vI l i) (redG l d)) l.length, Int.tdiv d (redG l d))
abbrev pRed (l : List Int) (d : Int) : Prop := l.length ≤ 1000 ∧ (∀ i, i < l.length → (vI l i).natAbs ≤ 9000000000000000000) ∧ d.natAbs ≤ 9000000000000000000 ∧ d ≠ 0
@[reducible] def sRed : Spec := { pats := [.dat (.sl I64), .dat I64], res := [{ own := some 3, t := .sl I64 }, { t := I64 }], pre := fun x => pRed x.1 x.2.1, f := fun x => ((redL x.1 x.2.1).1, (redL x.1 x.2.1).2, ()) }
def redAnn (l : List Int) (d : Int) : LoopAnn := { σ := Nat, pat := fun k => sI 18 k :: sOwn 7 60007 3 (tab (fun i => Int.tdiv (vI l i) (redG l d)) k), inv := fun k => k ≤ l.length, meas := fun k => l.length - k }
end Go.Eng.Ar

namespace Go.Eng.Ar
open Go.Eng Go.Proofs
set_option linter.all false
set_option maxRecDepth 100000
set_option maxHeartbeats 8000000
def findI (p : Int → Bool) : List Int → Nat → Int
  | [], _ => -1
  | x :: r, i => if p x = true then i else findI p r (i + 1)
theorem findI_step {p : Int → Bool} {xs : List Int} {i : Nat} (h : i < xs.length) : findI p (xs.drop i) i = if p (xs.getD i 0) = true then (i : Int) else findI p (xs.drop (i + 1)) (i + 1) := by
  rw [drop_get h]; rfl
theorem findI_any (p : Int → Bool) : ∀ (xs : List Int) (i : Nat), decide (findI p xs i ≥ 0) = xs.any p
  | [], i => by simp [findI]
  | x :: r, i => by
    simp only [findI, List.any_cons]
    by_cases h : p x = true
    · have h2 : (if p x = true then (i : Int) else findI p r (i + 1)) = i := if_pos h
      simp only [h, if_true, Bool.true_or, decide_eq_true_eq]
      omega
    · have h' : p x = false := by simpa using h
      simp only [h', Bool.false_eq_true, if_false, Bool.false_or]
      exact findI_any p r (i + 1)
abbrev clM : Ty := .clo 147 (.cons (.ptr I64) .nil)
abbrev outM (m n : Int) : Bool := !fWithin n 0 m
@[reducible] def sLitM : Spec := { pats := [.dat I64, .dat (.ptr I64)], res := [{ t := .bool }], pre := fun _ => True, f := fun x => (outM x.2.1 x.1, ()) }
theorem h147 : Ok 147 sLitM := by
  refine mk (ctr := [(88, sWithin)]) ⟨h88, trivial⟩ (nt := 8) Tryz.func147 rfl rfl rfl rfl (by kernel_rfl) (by kernel_rfl) (fun _ => []) ?_
  rintro ⟨(n : Int), (m : Int), _⟩ _
  repeat' (intro hzz; (try (rename Two => hq; cases hq)); (try dsimp only at hzz); (try simp only [resTy, argTy, eqD, inR, big, wantOf, zB] at hzz); (try (revert hzz; intro _)))
  all_goals try (rename Unit => hq; clear hq)
  all_goals try ((with_reducible refine Held.mk ?_); (with_reducible (first | refine Frz.mk ?_ | refine And.intro (Frz.mk ?_) ?_ | refine And.intro ?_ (Frz.mk ?_))); repeat' first | exact True.intro | (change _ = _; with_reducible rfl) | refine And.intro ?_ ?_ | (with_reducible refine Frz.mk ?_))
  all_goals try (refine Held.mk ?_; (try dsimp only at *); (try simp only [resTy, argTy, eqD, inR, big, wantOf, zB] at *))
@[reducible] def sIdxM : Spec := { pats := [.dat (.sl I64), .dat clM], res := [{ t := I64 }], pre := fun x => pLen (List.length (α := Int) x.1), f := fun x => (findI (outM x.2.1.1) x.1 0, ()) }
theorem h165 : Ok 165 sIdxM := by
  refine mk (ctr := [(147, sLitM)]) ⟨h147, trivial⟩ (nt := 19) Tryz.func165 rfl rfl rfl rfl (by kernel_rfl) (by kernel_rfl) (fun x => [fun _ => { σ := Nat, pat := fun i => [sI 8 i], inv := fun i => i ≤ List.length (α := Int) x.1 ∧ findI (outM x.2.1.1) (List.drop (α := Int) i x.1) i = findI (outM x.2.1.1) x.1 0, meas := fun i => List.length (α := Int) x.1 - i }]) ?_
  rintro ⟨(xs : List Int), ⟨(m : Int), _⟩, _⟩ (hp : pLen xs.length)
  have := hp.out
  repeat' (intro hzz; (try (rename Two => hq; cases hq)); (try dsimp only at hzz); (try simp only [resTy, argTy, eqD, inR, big, wantOf, zB] at hzz); (try simp only [resTy, argTy, eqD, inR, big, wantOf, zB, getD_i] at hzz); (try (first | contradiction | (exfalso; omega))); (try (revert hzz; intro _)))
  all_goals try (rename Unit => hq; clear hq)
  all_goals try ((with_reducible refine Held.mk ?_); (with_reducible (first | refine Frz.mk ?_ | refine And.intro (Frz.mk ?_) ?_ | refine And.intro ?_ (Frz.mk ?_))); repeat' first | exact True.intro | (change _ = _; with_reducible rfl) | refine And.intro ?_ ?_ | (with_reducible refine Frz.mk ?_))
  all_goals try (refine Held.mk ?_; (try dsimp only at *); (try simp only [resTy, argTy, eqD, inR, big, wantOf, zB] at *); (try simp only [resTy, argTy, eqD, inR, big, wantOf, zB, getD_i] at *))
  all_goals try omega
  · 
    refine GHeld.mk ?_
    refine Exists.intro 0 ?_
    refine And.intro (Leaf.mk ?_) ?_
    · repeat' first | exact True.intro | refine And.intro ?_ ?_
      all_goals try ((change _ = _ <;> try dsimp only) <;> try with_reducible rfl)
      all_goals try omega
    exact ⟨Nat.zero_le _, rfl⟩
  · rename_i i hi hg h
    have h1 := findI_step (p := outM m) (xs := xs) (i := i) (by omega)
    have h2 : outM m (xs.getD i 0) = true := by
      have h' : fWithin (xs.getD i 0) 0 m = false := decide_eq_false h
      simp only [outM, h', Bool.not_false]
    rw [if_pos h2] at h1
    exact h1.symm.trans hi.2
  · rename_i i hi hg h
    have h1 := findI_step (p := outM m) (xs := xs) (i := i) (by omega)
    have h2 : ¬ outM m (xs.getD i 0) = true := by
      have h' : fWithin (xs.getD i 0) 0 m = true := decide_eq_true h
      simp only [outM, h', Bool.not_true]; decide
    rw [if_neg h2] at h1
    refine GHeld.mk ?_
    refine Exists.intro (i + 1) ?_
    refine And.intro (Leaf.mk ?_) ?_
    · repeat' first | exact True.intro | refine And.intro ?_ ?_
      all_goals try ((change _ = _ <;> try dsimp only) <;> try with_reducible rfl)
      all_goals try omega
    exact ⟨⟨by show i + 1 ≤ xs.length; omega, h1.symm.trans hi.2⟩, by show xs.length - (i + 1) < xs.length - i; omega⟩
  · rename_i i hi hg
    have h1 := hi.2
    rw [List.drop_eq_nil_of_le (by omega)] at h1
    exact h1
@[reducible] def sContM : Spec := { pats := [.dat (.sl I64), .dat clM], res := [{ t := .bool }], pre := fun x => pLen (List.length (α := Int) x.1), f := fun x => (List.any (α := Int) x.1 (outM x.2.1.1), ()) }
theorem h146 : Ok 146 sContM := by
  refine mk (ctr := [(165, sIdxM)]) ⟨h165, trivial⟩ (nt := 9) Tryz.func146 rfl rfl rfl rfl (by kernel_rfl) (by kernel_rfl) (fun _ => []) ?_
  rintro ⟨(xs : List Int), ⟨(m : Int), _⟩, _⟩ (hp : pLen xs.length)
  repeat' (intro hzz; (try (rename Two => hq; cases hq)); (try dsimp only at hzz); (try simp only [resTy, argTy, eqD, inR, big, wantOf, zB] at hzz); (try (revert hzz; intro _)))
  all_goals try (rename Unit => hq; clear hq)
  all_goals try ((with_reducible refine Held.mk ?_); (with_reducible (first | refine Frz.mk ?_ | refine And.intro (Frz.mk ?_) ?_ | refine And.intro ?_ (Frz.mk ?_))); repeat' first | exact True.intro | (change _ = _; with_reducible rfl) | refine And.intro ?_ ?_ | (with_reducible refine Frz.mk ?_))
  all_goals try (refine Held.mk ?_; (try dsimp only at *); (try simp only [resTy, argTy, eqD, inR, big, wantOf, zB] at *))
  · exact hp
  · exact findI_any _ _ _
def allE (l : List Int) (m : Int) : Int := if l.any (outM m) = true then 2 else 0
@[reducible] def xCM : Xt := { clos := [(147, [I64])] }
theorem xCM_ok : Its xCM.its := True.intro
@[reducible] def sAllE : Spec := { pats := [.dat (.sl I64), .dat I64], res := [{ t := I64 }], pre := fun x => pLen (List.length (α := Int) x.1), f := fun x => (allE x.1 x.2.1, ()) }
theorem h104 : Ok 104 sAllE := by
  refine mkX (X := xCM) (hX := xCM_ok) (ctr := [(146, sContM), (85, sUnless)]) ⟨h146, h85, trivial⟩ (nt := 10) Tryz.func104 rfl rfl rfl rfl (by kernel_rfl) (by kernel_rfl) (fun _ => []) ?_
  rintro ⟨(xs : List Int), (m : Int), _⟩ (hp : pLen xs.length)
  repeat' (intro hzz; (try (rename Two => hq; cases hq)); (try dsimp only at hzz); (try simp only [resTy, argTy, eqD, inR, big, wantOf, zB] at hzz); (try (revert hzz; intro _)))
  all_goals try (rename Unit => hq; clear hq)
  all_goals try ((with_reducible refine Held.mk ?_); (with_reducible (first | refine Frz.mk ?_ | refine And.intro (Frz.mk ?_) ?_ | refine And.intro ?_ (Frz.mk ?_))); repeat' first | exact True.intro | (change _ = _; with_reducible rfl) | refine And.intro ?_ ?_ | (with_reducible refine Frz.mk ?_))
  all_goals try (refine Held.mk ?_; (try dsimp only at *); (try simp only [resTy, argTy, eqD, inR, big, wantOf, zB] at *))
  · exact hp
  · unfold allE
    cases xs.any (outM m) <;> rfl
theorem allE_ok {l : List Int} {m : Int} (h : allE l m = 0) : ∀ i, i < l.length → 0 ≤ vI l i ∧ vI l i ≤ m := by
  unfold allE at h
  split at h
  · cases h
  · rename_i hn
    intro i hi
    have h1 : l.any (outM m) = false := by simpa using hn
    have h2 := List.any_eq_false.1 h1 (vI l i) (by
      have : vI l i = l[i] := by simp [vI, List.getD, List.getElem?_eq_getElem hi]
      rw [this]; exact List.getElem_mem hi)
    simp only [outM, Bool.not_eq_true', Bool.not_eq_false] at h2
    exact of_decide_eq_true (by simpa using h2)
abbrev ncol (t : List (List Int)) : Nat := (t.getD 0 []).length
abbrev rowN (m : List (List Int)) (i : Nat) : List Int := m.getD i []
def chkRows (n0 : Nat) : List (List Int) → Int
  | [] => 0
  | r :: t => if r.length = n0 then (if allE r 100 = 0 then chkRows n0 t else allE r 100) else 10
def chkT (t : List (List Int)) (cap : Int) : Int :=
  if t.length = 0 then 10 else if 4 < t.length then 8 else if ncol t = 0 then 10 else if 3 < ncol t then 8 else if chkRows (ncol t) t = 0 then (if 0 ≤ cap ∧ cap ≤ 1000 then 0 else 2) else chkRows (ncol t) t
theorem drop_getL {xs : List (List Int)} {i : Nat} (h : i < xs.length) : xs.drop i = xs.getD i [] :: xs.drop (i + 1) := by
  rw [List.drop_eq_getElem_cons h]
  simp [List.getD, List.getElem?_eq_getElem h]
theorem chkR_step {n0 : Nat} {t : List (List Int)} {i : Nat} (h : i < t.length) : chkRows n0 (t.drop i) = if (t.getD i []).length = n0 then (if allE (t.getD i []) 100 = 0 then chkRows n0 (t.drop (i + 1)) else allE (t.getD i []) 100) else 10 := by
  rw [drop_getL h]; rfl
theorem getD_l (xs : List (List Int)) (i : Nat) : List.getD xs ((i : Int)).toNat (Ty.dflt (.sl I64)) = xs.getD i [] := rfl
theorem getD_0 (xs : List (List Int)) : List.getD xs (Int.toNat 0) (Ty.dflt (.sl I64)) = xs.getD 0 [] := rfl
@[reducible] def sTask : Spec := { pats := [.dat TaskT], res := [{ t := I64 }], pre := fun _ => True, f := fun x => (chkT x.1.1 x.1.2.1, ()) }
def chkTAnn (t : List (List Int)) : LoopAnn := { σ := Nat, pat := fun k => [sI 33 k], inv := fun k => k ≤ t.length ∧ chkRows (ncol t) (t.drop k) = chkRows (ncol t) t, meas := fun k => t.length - k }
theorem h65 : Ok 65 sTask := by
  refine mk (ctr := [(88, sWithin), (85, sUnless), (104, sAllE)]) ⟨h88, h85, h104, trivial⟩ (nt := 55) Tryz.func65 rfl rfl rfl rfl (by kernel_rfl) (by kernel_rfl) (fun x => [fun _ => chkTAnn x.1.1]) ?_
  rintro ⟨⟨(t : List (List Int)), (cap : Int), _⟩, _⟩ _
  repeat' (intro hzz; (try (rename Two => hq; cases hq)); (try dsimp only at hzz); (try simp only [resTy, argTy, eqD, inR, big, wantOf, zB] at hzz); (try simp only [resTy, argTy, eqD, inR, big, wantOf, zB, getD_l, getD_0, fWithin] at hzz); (try (revert hzz; intro _)))
  all_goals try (rename Unit => hq; clear hq)
  all_goals try ((with_reducible refine Held.mk ?_); (with_reducible (first | refine Frz.mk ?_ | refine And.intro (Frz.mk ?_) ?_ | refine And.intro ?_ (Frz.mk ?_))); repeat' first | exact True.intro | (change _ = _; with_reducible rfl) | refine And.intro ?_ ?_ | (with_reducible refine Frz.mk ?_))
  all_goals try (refine Held.mk ?_; (try dsimp only at *); (try simp only [resTy, argTy, eqD, inR, big, wantOf, zB] at *); (try simp only [resTy, argTy, eqD, inR, big, wantOf, zB, getD_l, getD_0, fWithin] at *))
  · rename_i h
    unfold chkT; rw [if_pos (by omega)]
  · rename_i h1 h
    unfold chkT; rw [if_neg (by omega), if_pos (by omega)]
  · omega
  · rename_i h1 h2 h
    unfold chkT; rw [if_neg (by omega), if_neg (by omega), if_pos (show (t.getD 0 []).length = 0 by omega)]
  · omega
  · rename_i h1 h2 h3 h
    unfold chkT; rw [if_neg (by omega), if_neg (by omega), if_neg (show ¬ (t.getD 0 []).length = 0 by omega), if_pos (show 3 < (t.getD 0 []).length by omega)]
  · rename_i h1 h2 h3 h
    refine GHeld.mk ?_
    refine Exists.intro (0 : Nat) ?_
    refine And.intro (Leaf.mk ?_) ?_
    · repeat' first | exact True.intro | refine And.intro ?_ ?_
      all_goals try ((change _ = _ <;> try dsimp only) <;> try with_reducible rfl)
      all_goals try omega
      all_goals (rfl)
    exact ⟨Nat.zero_le _, rfl⟩
  · rename_i h1 h2 h3 h4 k hk h; omega
  · omega
  · rename_i h1 h2 h3 h4 k hk hg h
    have e := chkR_step (n0 := ncol t) (show k < t.length by omega)
    rw [if_neg (show ¬ (t.getD k []).length = (t.getD 0 []).length by omega), hk.2] at e
    unfold chkT; rw [if_neg (by omega), if_neg (by omega), if_neg (show ¬ (t.getD 0 []).length = 0 by omega), if_neg (show ¬ 3 < (t.getD 0 []).length by omega), e, if_neg (by decide)]
  · rename_i h1 h2 h3 h4 k hk hg h
    show ((t.getD k []).length : Int) ≤ 4611686018427387904
    omega
  · rename_i h1 h2 h3 h4 k hk hg h5 h
    have e := chkR_step (n0 := ncol t) (show k < t.length by omega)
    rw [if_pos (show (t.getD k []).length = (t.getD 0 []).length by omega), if_neg h, hk.2] at e
    unfold chkT; rw [if_neg (by omega), if_neg (by omega), if_neg (show ¬ (t.getD 0 []).length = 0 by omega), if_neg (show ¬ 3 < (t.getD 0 []).length by omega), e, if_neg h]
  · omega
  · rename_i h1 h2 h3 h4 k hk hg h5 h
    have e := chkR_step (n0 := ncol t) (show k < t.length by omega)
    rw [if_pos (show (t.getD k []).length = (t.getD 0 []).length by omega), if_pos h, hk.2] at e
    refine GHeld.mk ?_
    refine Exists.intro (k + 1) ?_
    refine And.intro (Leaf.mk ?_) ?_
    · repeat' first | exact True.intro | refine And.intro ?_ ?_
      all_goals try ((change _ = _ <;> try dsimp only) <;> try with_reducible rfl)
      all_goals try omega
      all_goals (rfl)
    exact ⟨⟨by show k + 1 ≤ t.length; omega, e.symm⟩, by show t.length - (k + 1) < t.length - k; omega⟩
  · rename_i h1 h2 h3 h4 k hk h
    have e := hk.2
    rw [List.drop_eq_nil_of_le (by omega)] at e
    have e : (0 : Int) = chkRows (ncol t) t := e
    unfold chkT; rw [if_neg (by omega), if_neg (by omega), if_neg (show ¬ (t.getD 0 []).length = 0 by omega), if_neg (show ¬ 3 < (t.getD 0 []).length by omega), ← e, if_pos rfl]
    by_cases hc : 0 ≤ cap ∧ cap ≤ 1000
    · rw [if_pos hc, decide_eq_true hc]; rfl
    · rw [if_neg hc, decide_eq_false hc]; rfl
structure goodT (t : List (List Int)) (cap : Int) : Prop where
  pos : 0 < t.length
  le : t.length ≤ 4
  cpos : 0 < ncol t
  cle : ncol t ≤ 3
  rows : ∀ i, i < t.length → (rowN t i).length = ncol t
  vals : ∀ i j, i < t.length → j < ncol t → 0 ≤ vI (rowN t i) j ∧ vI (rowN t i) j ≤ 100
  cap0 : 0 ≤ cap ∧ cap ≤ 1000
theorem chkRows_ok {n0 : Nat} : ∀ {t : List (List Int)}, chkRows n0 t = 0 → ∀ r ∈ t, r.length = n0 ∧ allE r 100 = 0
  | [], _, r, hr => by cases hr
  | q :: t, h, r, hr => by
    simp only [chkRows] at h
    split at h
    · split at h
      · rcases List.mem_cons.1 hr with rfl | hr
        · exact ⟨by assumption, by assumption⟩
        · exact chkRows_ok h r hr
      · rename_i h1 h2; exact absurd h h2
    · cases h
theorem row_in {t : List (List Int)} {i : Nat} (h : i < t.length) : rowN t i ∈ t := by
  have e : rowN t i = t[i] := by simp [rowN, List.getD, List.getElem?_eq_getElem h]
  rw [e]; exact List.getElem_mem h
theorem goodT_of {t : List (List Int)} {cap : Int} (h : chkT t cap = 0) : goodT t cap := by
  unfold chkT at h
  split at h
  · cases h
  split at h
  · cases h
  split at h
  · cases h
  split at h
  · cases h
  split at h
  · rename_i h1 h2 h3 h4 h5
    split at h
    · rename_i h6
      exact ⟨by omega, by omega, by omega, by omega, fun i hi => (chkRows_ok h5 _ (row_in hi)).1, fun i j hi hj => by
        have := chkRows_ok h5 _ (row_in hi)
        exact allE_ok this.2 j (by rw [this.1]; exact hj), h6⟩
    · cases h
  · rename_i h5; exact absurd h h5
end Go.Eng.Ar

