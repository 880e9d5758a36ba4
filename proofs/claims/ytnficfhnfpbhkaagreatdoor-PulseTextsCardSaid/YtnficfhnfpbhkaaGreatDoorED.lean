/- Calls that are walked in place: the callee's body under the caller's facts. Conditions: the table of types is the program's; each contract in use holds; the callees' bodies are the program's. -/
import Derived.Test.YtnficfhnfpbhkaaGreatDoorEC
set_option linter.all false
namespace Go.Eng

/-! ### Other names for keys -/

def mapP (f : Nat → Nat) : List (Nat × Nat) → List (Nat × Nat)
  | [] => []
  | p :: r => (f p.1, p.2) :: mapP f r

def allP (h : Nat → Bool) : List (Nat × Nat) → Bool
  | [] => true
  | p :: r => h p.1 && allP h r

def S1.mapK (f : Nat → Nat) : S1 → S1
  | .p k off => .p (f k) off
  | .pr k i sz => .pr (f k) i sz
  | .pq k i sz off => .pq (f k) i sz off
  | .o k n => .o (f k) n
  | .fn g fs cs => .fn g (mapP f fs) (mapP f cs)
  | s => s

/-- All its keys are such. -/
def S1.inK (h : Nat → Bool) : S1 → Bool
  | .p k _ | .pr k _ _ | .pq k _ _ _ | .o k _ => h k
  | .fn _ fs cs => allP h fs && allP h cs
  | _ => true

def mapL (f : Nat → Nat) : List S1 → List S1
  | [] => []
  | s :: r => s.mapK f :: mapL f r

def allL (h : Nat → Bool) : List S1 → Bool
  | [] => true
  | s :: r => s.inK h && allL h r

def SV.mapK (f : Nat → Nat) : SV → SV
  | .one s => .one (s.mapK f)
  | .agg cs => .agg (mapL f cs)
  | .tup cs => .tup (mapL f cs)

def SV.inK (h : Nat → Bool) : SV → Bool
  | .one s => s.inK h
  | .agg cs | .tup cs => allL h cs

/-- How far the caller's keys are moved while a callee is walked. -/
def SH : Nat := 10000000
def up (k : Nat) : Nat := k + SH

def Fact.memKey : Fact → Option Nat
  | .cell k _ _ | .row k _ _ _ | .ob k _ => some k
  | _ => none

/-- The caller's memory as the callee sees it. -/
def inMem (seen : List Nat) : St → St
  | [] => []
  | f :: r => match f with
    | .slot t s => bif Nat.ble 1000000 t then .slot t (s.mapK up) :: inMem seen r else inMem seen r
    | .cell k off s => bif memN k seen then .cell (up k) off (s.mapK up) :: inMem seen r else .cell (up k) off (s.mapK up) :: .fix (up k) :: inMem (k :: seen) r
    | .row k el e xs => bif memN k seen then .row (up k) el e xs :: inMem seen r else .row (up k) el e xs :: .fix (up k) :: inMem (k :: seen) r
    | .ob k i => bif memN k seen then .ob (up k) i :: inMem seen r else .ob (up k) i :: .fix (up k) :: inMem (k :: seen) r
    | .fix k => inMem seen r

def argF : Nat → List SV → St
  | _, [] => []
  | i, s :: r => .slot i (s.mapK up) :: argF (i + 1) r

def ptrsOf : List (Nat × Nat) → List SV
  | [] => []
  | p :: r => .one (.p p.1 p.2) :: ptrsOf r

/-- The greatest of a state's keys and more. -/
def topKey : Nat → St → Nat
  | n, [] => n
  | n, f :: r => match f.memKey with
    | some k => topKey (bif Nat.ble n k then k + 1 else n) r
    | none => topKey n r

def fixKs : St → List Nat
  | [] => []
  | .fix k :: r => k :: fixKs r
  | _ :: r => fixKs r

/-- A key of the callee that is the caller's still. -/
def oldK (fks : List Nat) (B K : Nat) : Bool := memN K fks && (Nat.ble SH K && Nat.blt (K - SH) B)
def outK (fks : List Nat) (B K : Nat) : Nat := bif oldK fks B K then K - SH else B + K
def keptK (fks : List Nat) (B k : Nat) : Bool := Nat.blt k B && oldK fks B (k + SH)

/-- What the memory holds behind the call; all: the callee's own new blocks, too. -/
def outMem (all : Bool) (fks : List Nat) (B : Nat) : St → St
  | [] => []
  | f :: r => match f with
    | .cell k off s => bif all || oldK fks B k then .cell (outK fks B k) off (s.mapK (outK fks B)) :: outMem all fks B r else outMem all fks B r
    | .row k el e xs => bif all || oldK fks B k then .row (outK fks B k) el e xs :: outMem all fks B r else outMem all fks B r
    | .ob k i => bif all || oldK fks B k then .ob (outK fks B k) i :: outMem all fks B r else outMem all fks B r
    | _ => outMem all fks B r

/-- What the caller's slots still hold. -/
def outSlots (d : Nat) (fks : List Nat) (B : Nat) : St → St
  | [] => []
  | f :: r => match f with
    | .slot t s => bif !Nat.beq t d && s.inK (keptK fks B) then .slot t s :: outSlots d fks B r else outSlots d fks B r
    | .fix k => bif keptK fks B k then .fix k :: outSlots d fks B r else outSlots d fks B r
    | _ => outSlots d fks B r

structure InlF where
  nt : Nat
  np : Nat
  body : Code
  rs : List ResultVar
  anns : List (St → LoopAnn)

def getInl (g : Nat) : List (Nat × InlF) → Option InlF
  | [] => none
  | (f, s) :: r => bif Nat.beq f g then some s else getInl g r

def tgt (st : St) (fo : Operand) : Option (Nat × List (Nat × Nat) × List (Nat × Nat)) :=
  match eval st fo with
  | some (.one (.fn g fs cs)) => some (g, fs, cs)
  | some (.one (.v (.func (.func g) x y))) => bif x.size == 0 && y.size == 0 then some (g, [], []) else none
  | _ => none

def svsOf (c : Cfg) (st : St) : List ResultVar → Option SV
  | [] => some (.one (.v (.tuple #[])))
  | [r] => svOf c st r
  | _ => none

def inlOut (c : Cfg) (I : InlF) (d B : Nat) (st : St) (K : St → Prop) (st' : St) : Prop :=
  match svsOf c st' I.rs with
  | some s => forceNs (fixKs st') fun fks => force (.slot d (s.mapK (outK fks B)) :: (outSlots d fks B st ++ outMem (!s.inK (fun _ => false)) fks B st')) K
  | none => False

def inlVC (c : Cfg) (I : InlF) (d : Nat) (st : St) (ss : List SV) (K : St → Prop) : Prop :=
  forceN (topKey 1 st) fun B => force (argF 0 ss ++ inMem [] st) fun st0 =>
    vc { c with nt := I.nt } (par { c with nt := I.nt }) I.anns I.body 0 st0 fun e st' => match e with
      | .exit _ => False
      | _ => inlOut { c with nt := I.nt } I d B st K st'

def inlHook (c : Cfg) (tbl : List (Nat × InlF)) (nt : Nat) (o : Oper) (st : St) : Option ((St → Prop) → Prop) :=
  match o.op with
  | .call { callee := .value fo, args, argTypes := _ } => match tgt st fo with
    | some (g, fs, cs) => match getInl g tbl with
      | some I => match evals st args.toList, o.dst with
        | some ss, some d => bif Nat.blt d nt && (Nat.beq (fs.length + (ss.length + cs.length)) I.np && Nat.ble I.np I.nt) then
            some (fun K => inlVC c I d st (ptrsOf fs ++ (ss ++ ptrsOf cs)) K) else none
        | _, _ => none
      | none => none
    | none => none
  | _ => none

def InlOk (P : Program) (tbl : List (Nat × InlF)) : Prop := ∀ g I, getInl g tbl = some I → ∃ fn, P.funcs[g]? = some fn ∧ fn.body = some I.body ∧ fn.ntmps = I.nt ∧ fn.results.toList = I.rs ∧
  dstOk I.nt I.body = true ∧ noRange I.body = true ∧ I.nt ≤ 1000000 ∧ (fn.name == "runtime.NumGoroutine") = false

/-! ### Soundness -/

section
variable {V V' : View} {η η' : Eta} {f : Nat → Nat} {h : Nat → Bool}

theorem ptrL_mapP (hη : ∀ k, h k = true → η' (f k) = η k) : ∀ {ps : List (Nat × Nat)} {vs : List Value}, allP h ps = true → ptrL η ps vs → ptrL η' (mapP f ps) vs
  | [], [], _, H => H
  | [], _ :: _, _, H => H.elim
  | _ :: _, [], _, H => H.elim
  | p :: r, v :: l, hin, ⟨⟨b, c, h1, h2⟩, h3⟩ => by
    simp only [allP, Bool.and_eq_true] at hin
    exact ⟨⟨b, c, (hη _ hin.1).trans h1, h2⟩, ptrL_mapP hη hin.2 h3⟩

theorem holds1_mapK (hv : ∀ b c, V b c → V' b c) (hη : ∀ k, h k = true → η' (f k) = η k) {s : S1} {v : Value} (hin : s.inK h = true) (H : holds1 V η s v) : holds1 V' η' (s.mapK f) v := by
  cases s with
  | d t x => exact RepV.mono hv H
  | dfl e' ys => exact ⟨RepV.mono hv H.1, H.2⟩
  | pw t x => obtain ⟨b, c, h1, h2, h3, h4⟩ := H; exact ⟨b, c, h1, hv _ _ h2, h3, Rep.mono hv _ _ _ h4⟩
  | lb b => exact H
  | v x => exact H
  | p k off =>
    obtain ⟨b, c, h1, h2⟩ := H
    exact ⟨b, c, (hη _ hin).trans h1, h2⟩
  | pd t x =>
    obtain ⟨ad, c, h1, h2, h3, h4, h5⟩ := H
    exact ⟨ad, c, h1, h2, hv _ _ h3, h4, Rep.mono hv _ _ _ h5⟩
  | po off t x =>
    obtain ⟨ad, c, h1, h2, h3, h4, h5⟩ := H
    exact ⟨ad, c, h1, h2, hv _ _ h3, h4, Rep.mono hv _ _ _ h5⟩
  | pr k i sz =>
    obtain ⟨h0, b, c, h1, h2⟩ := H
    exact ⟨h0, b, c, (hη _ hin).trans h1, h2⟩
  | pq k i sz off =>
    obtain ⟨h0, b, c, h1, h2⟩ := H
    exact ⟨h0, b, c, (hη _ hin).trans h1, h2⟩
  | o k n =>
    rcases H with ⟨h1, h2⟩ | ⟨b, c, h1, h2⟩
    · exact .inl ⟨(hη _ hin).trans h1, h2⟩
    · exact .inr ⟨b, c, (hη _ hin).trans h1, h2⟩
  | u => exact H
  | fo k r => exact H
  | fn g fs cs =>
    simp only [S1.inK, Bool.and_eq_true] at hin
    obtain ⟨fv, cv, h1, h2, h3⟩ := H
    exact ⟨fv, cv, h1, ptrL_mapP hη hin.1 h2, ptrL_mapP hη hin.2 h3⟩

theorem holdsC_mapK (hv : ∀ b c, V b c → V' b c) (hη : ∀ k, h k = true → η' (f k) = η k) : ∀ {cs : List S1} {vs : List Value}, allL h cs = true → holdsC V η cs vs → holdsC V' η' (mapL f cs) vs
  | [], [], _, H => H
  | [], _ :: _, _, H => H.elim
  | _ :: _, [], _, H => H.elim
  | s :: r, v :: l, hin, ⟨h1, h2, h3⟩ => by
    simp only [allL, Bool.and_eq_true] at hin
    exact ⟨holds1_mapK hv hη hin.1 h1, h2, holdsC_mapK hv hη hin.2 h3⟩

theorem holdsL_mapK (hv : ∀ b c, V b c → V' b c) (hη : ∀ k, h k = true → η' (f k) = η k) : ∀ {cs : List S1} {vs : List Value}, allL h cs = true → holdsL V η cs vs → holdsL V' η' (mapL f cs) vs
  | [], [], _, H => H
  | [], _ :: _, _, H => H.elim
  | _ :: _, [], _, H => H.elim
  | s :: r, v :: l, hin, ⟨h1, h3⟩ => by
    simp only [allL, Bool.and_eq_true] at hin
    exact ⟨holds1_mapK hv hη hin.1 h1, holdsL_mapK hv hη hin.2 h3⟩

theorem holdsV_mapK (hv : ∀ b c, V b c → V' b c) (hη : ∀ k, h k = true → η' (f k) = η k) {s : SV} {v : Value} (hin : s.inK h = true) (H : holdsV V η s v) : holdsV V' η' (s.mapK f) v := by
  cases s with
  | one s => exact holds1_mapK hv hη hin H
  | agg cs => obtain ⟨vs, rfl, H⟩ := H; exact ⟨vs, rfl, holdsC_mapK hv hη hin H⟩
  | tup cs => obtain ⟨vs, rfl, H⟩ := H; exact ⟨vs, rfl, holdsL_mapK hv hη hin H⟩
end

theorem mapP_id : ∀ l : List (Nat × Nat), mapP (fun k => k) l = l
  | [] => rfl
  | p :: r => by simp only [mapP, mapP_id r]
theorem S1.mapK_id (s : S1) : s.mapK (fun k => k) = s := by cases s <;> simp only [S1.mapK, mapP_id]
theorem mapL_id : ∀ l : List S1, mapL (fun k => k) l = l
  | [] => rfl
  | s :: r => by simp only [mapL, mapL_id r, S1.mapK_id]
theorem SV.mapK_id (s : SV) : s.mapK (fun k => k) = s := by cases s <;> simp only [SV.mapK, mapL_id, S1.mapK_id]

theorem allP_true : ∀ l : List (Nat × Nat), allP (fun _ => true) l = true
  | [] => rfl
  | p :: r => by simp only [allP, allP_true r, Bool.and_self]
theorem S1.inK_true (s : S1) : s.inK (fun _ => true) = true := by cases s <;> simp only [S1.inK, allP_true, Bool.and_self]
theorem allL_true : ∀ l : List S1, allL (fun _ => true) l = true
  | [] => rfl
  | s :: r => by simp only [allL, allL_true r, S1.inK_true, Bool.and_self]
theorem SV.inK_true (s : SV) : s.inK (fun _ => true) = true := by cases s <;> simp only [SV.inK, allL_true, S1.inK_true]

theorem mem_fixKs {k : Nat} : ∀ {st : St}, k ∈ fixKs st → Fact.fix k ∈ st
  | [], h => by cases h
  | f :: r, h => by
    cases f with
    | fix j =>
      simp only [fixKs, List.mem_cons] at h
      rcases h with rfl | h
      · exact List.mem_cons_self
      · exact List.mem_cons_of_mem _ (mem_fixKs h)
    | _ => exact List.mem_cons_of_mem _ (mem_fixKs (by simpa [fixKs] using h))

/-- What stands in the callee's memory. -/
theorem mem_inMem {q : Fact} : ∀ {st : St} {seen : List Nat}, q ∈ inMem seen st → (∃ k, q = .fix (up k)) ∨ (∃ t s, 1000000 ≤ t ∧ q = .slot t (s.mapK up) ∧ Fact.slot t s ∈ st) ∨
    (∃ k off s, q = .cell (up k) off (s.mapK up) ∧ Fact.cell k off s ∈ st) ∨ (∃ k el e xs, q = .row (up k) el e xs ∧ Fact.row k el e xs ∈ st) ∨ (∃ k i, q = .ob (up k) i ∧ Fact.ob k i ∈ st)
  | [], _, h => by cases h
  | f :: r, seen, h => by
    have lift : ∀ {seen}, q ∈ inMem seen r → (∃ k, q = .fix (up k)) ∨ (∃ t s, 1000000 ≤ t ∧ q = .slot t (s.mapK up) ∧ Fact.slot t s ∈ f :: r) ∨
        (∃ k off s, q = .cell (up k) off (s.mapK up) ∧ Fact.cell k off s ∈ f :: r) ∨ (∃ k el e xs, q = .row (up k) el e xs ∧ Fact.row k el e xs ∈ f :: r) ∨ (∃ k i, q = .ob (up k) i ∧ Fact.ob k i ∈ f :: r) := fun h => by
      rcases mem_inMem h with h | ⟨t, s, h0, h1, h2⟩ | ⟨k, off, s, h1, h2⟩ | ⟨k, el, e, xs, h1, h2⟩ | ⟨k, i, h1, h2⟩
      · exact .inl h
      · exact .inr (.inl ⟨t, s, h0, h1, List.mem_cons_of_mem _ h2⟩)
      · exact .inr (.inr (.inl ⟨k, off, s, h1, List.mem_cons_of_mem _ h2⟩))
      · exact .inr (.inr (.inr (.inl ⟨k, el, e, xs, h1, List.mem_cons_of_mem _ h2⟩)))
      · exact .inr (.inr (.inr (.inr ⟨k, i, h1, List.mem_cons_of_mem _ h2⟩)))
    cases f with
    | slot t s =>
      simp only [inMem] at h
      cases hb : Nat.ble 1000000 t with
      | false => rw [hb] at h; exact lift h
      | true =>
        rw [hb] at h
        simp only [cond_true, List.mem_cons] at h
        rcases h with rfl | h
        · exact .inr (.inl ⟨t, s, Nat.le_of_ble_eq_true hb, rfl, List.mem_cons_self⟩)
        · exact lift h
    | cell k off s =>
      simp only [inMem] at h
      cases hb : memN k seen with
      | true =>
        rw [hb] at h
        simp only [cond_true, List.mem_cons] at h
        rcases h with rfl | h
        · exact .inr (.inr (.inl ⟨k, off, s, rfl, List.mem_cons_self⟩))
        · exact lift h
      | false =>
        rw [hb] at h
        simp only [cond_false, List.mem_cons] at h
        rcases h with rfl | rfl | h
        · exact .inr (.inr (.inl ⟨k, off, s, rfl, List.mem_cons_self⟩))
        · exact .inl ⟨k, rfl⟩
        · exact lift h
    | row k el e xs =>
      simp only [inMem] at h
      cases hb : memN k seen with
      | true =>
        rw [hb] at h
        simp only [cond_true, List.mem_cons] at h
        rcases h with rfl | h
        · exact .inr (.inr (.inr (.inl ⟨k, el, e, xs, rfl, List.mem_cons_self⟩)))
        · exact lift h
      | false =>
        rw [hb] at h
        simp only [cond_false, List.mem_cons] at h
        rcases h with rfl | rfl | h
        · exact .inr (.inr (.inr (.inl ⟨k, el, e, xs, rfl, List.mem_cons_self⟩)))
        · exact .inl ⟨k, rfl⟩
        · exact lift h
    | ob k i =>
      simp only [inMem] at h
      cases hb : memN k seen with
      | true =>
        rw [hb] at h
        simp only [cond_true, List.mem_cons] at h
        rcases h with rfl | h
        · exact .inr (.inr (.inr (.inr ⟨k, i, rfl, List.mem_cons_self⟩)))
        · exact lift h
      | false =>
        rw [hb] at h
        simp only [cond_false, List.mem_cons] at h
        rcases h with rfl | rfl | h
        · exact .inr (.inr (.inr (.inr ⟨k, i, rfl, List.mem_cons_self⟩)))
        · exact .inl ⟨k, rfl⟩
        · exact lift h
    | fix k =>
      simp only [inMem] at h
      exact lift h

theorem mem_outMem {all : Bool} {fks : List Nat} {B : Nat} {q : Fact} : ∀ {st : St}, q ∈ outMem all fks B st →
    (∃ k off s, q = .cell (outK fks B k) off (s.mapK (outK fks B)) ∧ Fact.cell k off s ∈ st) ∨ (∃ k el e xs, q = .row (outK fks B k) el e xs ∧ Fact.row k el e xs ∈ st) ∨ (∃ k i, q = .ob (outK fks B k) i ∧ Fact.ob k i ∈ st)
  | [], h => by cases h
  | f :: r, h => by
    have lift : q ∈ outMem all fks B r → (∃ k off s, q = .cell (outK fks B k) off (s.mapK (outK fks B)) ∧ Fact.cell k off s ∈ f :: r) ∨ (∃ k el e xs, q = .row (outK fks B k) el e xs ∧ Fact.row k el e xs ∈ f :: r) ∨ (∃ k i, q = .ob (outK fks B k) i ∧ Fact.ob k i ∈ f :: r) := fun h => by
      rcases mem_outMem h with ⟨k, off, s, h1, h2⟩ | ⟨k, el, e, xs, h1, h2⟩ | ⟨k, i, h1, h2⟩
      · exact .inl ⟨k, off, s, h1, List.mem_cons_of_mem _ h2⟩
      · exact .inr (.inl ⟨k, el, e, xs, h1, List.mem_cons_of_mem _ h2⟩)
      · exact .inr (.inr ⟨k, i, h1, List.mem_cons_of_mem _ h2⟩)
    cases f with
    | slot t s => exact lift (by simpa [outMem] using h)
    | fix k => exact lift (by simpa [outMem] using h)
    | cell k off s =>
      simp only [outMem] at h
      cases hb : (all || oldK fks B k) with
      | false => rw [hb] at h; exact lift h
      | true =>
        rw [hb] at h
        simp only [cond_true, List.mem_cons] at h
        rcases h with rfl | h
        · exact .inl ⟨k, off, s, rfl, List.mem_cons_self⟩
        · exact lift h
    | row k el e xs =>
      simp only [outMem] at h
      cases hb : (all || oldK fks B k) with
      | false => rw [hb] at h; exact lift h
      | true =>
        rw [hb] at h
        simp only [cond_true, List.mem_cons] at h
        rcases h with rfl | h
        · exact .inr (.inl ⟨k, el, e, xs, rfl, List.mem_cons_self⟩)
        · exact lift h
    | ob k i =>
      simp only [outMem] at h
      cases hb : (all || oldK fks B k) with
      | false => rw [hb] at h; exact lift h
      | true =>
        rw [hb] at h
        simp only [cond_true, List.mem_cons] at h
        rcases h with rfl | h
        · exact .inr (.inr ⟨k, i, rfl, List.mem_cons_self⟩)
        · exact lift h

theorem mem_outSlots {d : Nat} {fks : List Nat} {B : Nat} {q : Fact} : ∀ {st : St}, q ∈ outSlots d fks B st →
    (∃ t s, q = .slot t s ∧ t ≠ d ∧ s.inK (keptK fks B) = true ∧ Fact.slot t s ∈ st) ∨ (∃ k, q = .fix k ∧ keptK fks B k = true ∧ Fact.fix k ∈ st)
  | [], h => by cases h
  | f :: r, h => by
    have lift : q ∈ outSlots d fks B r → (∃ t s, q = .slot t s ∧ t ≠ d ∧ s.inK (keptK fks B) = true ∧ Fact.slot t s ∈ f :: r) ∨ (∃ k, q = .fix k ∧ keptK fks B k = true ∧ Fact.fix k ∈ f :: r) := fun h => by
      rcases mem_outSlots h with ⟨t, s, h1, h2, h3, h4⟩ | ⟨k, h1, h2, h3⟩
      · exact .inl ⟨t, s, h1, h2, h3, List.mem_cons_of_mem _ h4⟩
      · exact .inr ⟨k, h1, h2, List.mem_cons_of_mem _ h3⟩
    cases f with
    | slot t s =>
      simp only [outSlots] at h
      cases hb : (!Nat.beq t d && s.inK (keptK fks B)) with
      | false => rw [hb] at h; exact lift h
      | true =>
        rw [hb] at h
        simp only [cond_true, List.mem_cons] at h
        simp only [Bool.and_eq_true, Bool.not_eq_true'] at hb
        rcases h with rfl | h
        · exact .inl ⟨t, s, rfl, Nat.ne_of_beq_eq_false hb.1, hb.2, List.mem_cons_self⟩
        · exact lift h
    | fix k =>
      simp only [outSlots] at h
      cases hb : keptK fks B k with
      | false => rw [hb] at h; exact lift h
      | true =>
        rw [hb] at h
        simp only [cond_true, List.mem_cons] at h
        rcases h with rfl | h
        · exact .inr ⟨k, rfl, hb, List.mem_cons_self⟩
        · exact lift h
    | cell k off s => exact lift (by simpa [outSlots] using h)
    | row k el e xs => exact lift (by simpa [outSlots] using h)
    | ob k i => exact lift (by simpa [outSlots] using h)

theorem argF_mem {q : Fact} : ∀ {ss : List SV} {i : Nat}, q ∈ argF i ss → ∃ j s, nth ss j = some s ∧ q = .slot (i + j) (s.mapK up)
  | [], i, h => by cases h
  | s :: r, i, h => by
    simp only [argF, List.mem_cons] at h
    rcases h with rfl | h
    · exact ⟨0, s, rfl, rfl⟩
    · obtain ⟨j, u, h1, h2⟩ := argF_mem h
      exact ⟨j + 1, u, h1, by rw [h2, Nat.add_assoc, Nat.add_comm 1 j]⟩

theorem holdsA_nth {V : View} {η : Eta} : ∀ {ss : List SV} {vs : List Value} {j : Nat} {s : SV}, holdsA V η ss vs → nth ss j = some s → ∃ v, vs[j]? = some v ∧ holdsV V η s v
  | [], _, _, _, _, h => by simp [nth] at h
  | _ :: _, [], _, _, H, _ => H.elim
  | s :: r, v :: l, 0, u, ⟨h1, _⟩, h => by
    simp only [nth, Option.some.injEq] at h
    subst h
    exact ⟨v, rfl, h1⟩
  | s :: r, v :: l, j + 1, u, ⟨_, h2⟩, h => by
    obtain ⟨w, h3, h4⟩ := holdsA_nth h2 (show nth r j = some u from h)
    exact ⟨w, by simpa using h3, h4⟩

theorem holdsA_length {V : View} {η : Eta} : ∀ {ss : List SV} {vs : List Value}, holdsA V η ss vs → ss.length = vs.length
  | [], [], _ => rfl
  | [], _ :: _, H => H.elim
  | _ :: _, [], H => H.elim
  | s :: r, v :: l, ⟨_, h2⟩ => by simp [holdsA_length h2]

theorem ptrs_holds {V : View} {η : Eta} : ∀ {ps : List (Nat × Nat)} {vs : List Value}, ptrL η ps vs → holdsA V η (ptrsOf ps) vs
  | [], [], _ => trivial
  | [], _ :: _, H => H.elim
  | _ :: _, [], H => H.elim
  | p :: r, v :: l, ⟨h1, h2⟩ => ⟨h1, ptrs_holds h2⟩

theorem ptrsOf_length : ∀ ps : List (Nat × Nat), (ptrsOf ps).length = ps.length
  | [] => rfl
  | p :: r => by simp [ptrsOf, ptrsOf_length r]

theorem tgt_sound {E : Env} {η : Eta} {st : St} {a : Act} {w : World} (H : ∀ f ∈ st, Fact.holds E η a w f) {fo : Operand} {g : Nat} {fs cs : List (Nat × Nat)} (h : tgt st fo = some (g, fs, cs)) :
    ∃ fv cv : List Value, a.eval fo = .func (.func g) fv.toArray cv.toArray ∧ ptrL η fs fv ∧ ptrL η cs cv := by
  unfold tgt at h
  split at h
  · rename_i g' fs' cs' he
    simp only [Option.some.injEq, Prod.mk.injEq] at h
    obtain ⟨rfl, rfl, rfl⟩ := h
    exact eval_sound H he
  · rename_i g' x y he
    cases hb : (x.size == 0 && y.size == 0) with
    | false => rw [hb] at h; simp at h
    | true =>
      rw [hb] at h
      simp only [cond_true, Option.some.injEq, Prod.mk.injEq] at h
      obtain ⟨rfl, rfl, rfl⟩ := h
      simp only [Bool.and_eq_true, beq_iff_eq] at hb
      have e : a.eval fo = .func (.func g') x y := eval_sound H he
      have hx : x = ([] : List Value).toArray := by simpa using hb.1
      have hy : y = ([] : List Value).toArray := by simpa using hb.2
      exact ⟨[], [], by rw [e, hx, hy], trivial, trivial⟩
  · cases h


theorem oldK_iff {fks : List Nat} {B K : Nat} : oldK fks B K = true ↔ K ∈ fks ∧ SH ≤ K ∧ K - SH < B := by
  simp only [oldK, Bool.and_eq_true, memN_iff]
  constructor
  · rintro ⟨h1, h2, h3⟩; exact ⟨h1, Nat.le_of_ble_eq_true h2, blt_lt h3⟩
  · rintro ⟨h1, h2, h3⟩; exact ⟨h1, Nat.ble_eq_true_of_le h2, blt_yes h3⟩

theorem outK_old {fks : List Nat} {B K : Nat} (h : oldK fks B K = true) : outK fks B K = K - SH := by unfold outK; rw [h, cond_true]
theorem outK_new {fks : List Nat} {B K : Nat} (h : oldK fks B K = false) : outK fks B K = B + K := by unfold outK; rw [h, cond_false]

theorem out_eta {fks : List Nat} {B : Nat} {ηn η2 : Eta} (hnd : ∀ k, ηn k = bif Nat.blt k B then (bif oldK fks B (k + SH) then η2 (k + SH) else none) else (bif oldK fks B (k - B) then none else η2 (k - B))) (K : Nat) : ηn (outK fks B K) = η2 K := by
  by_cases ho : oldK fks B K = true
  · obtain ⟨h1, h2, h3⟩ := oldK_iff.1 ho
    rw [outK_old ho, hnd, blt_yes h3, cond_true]
    have e : K - SH + SH = K := Nat.sub_add_cancel h2
    rw [e, ho, cond_true]
  · have ho : oldK fks B K = false := by cases h : oldK fks B K <;> simp_all
    rw [outK_new ho, hnd, blt_no (Nat.le_add_right _ _), cond_false]
    have e : B + K - B = K := Nat.add_sub_cancel_left ..
    rw [e, ho, cond_false]

theorem inl_sound {P : Program} {OB : Nat → Obj → Prop} {c : Cfg} (hC : ∀ nt, CfgOk P OB { c with nt := nt }) (hm : P.follows .mixedOrders = true) {tbl : List (Nat × InlF)} (hT : InlOk P tbl) (nt : Nat) : HookOk P OB nt (inlHook c tbl nt) := by
  intro E hP hOB o st F a w K K' Q ro q hh hF hR hK
  subst hP hOB
  unfold inlHook at hh
  split at hh
  case h_2 => cases hh
  case h_1 fo args ats ho =>
  split at hh
  case h_2 => cases hh
  case h_1 g fs cs htg =>
  split at hh
  case h_2 => cases hh
  case h_1 I hI =>
  split at hh
  case h_2 => cases hh
  case h_1 ss d hss hd =>
  cases hb : (Nat.blt d nt && (Nat.beq (fs.length + (ss.length + cs.length)) I.np && Nat.ble I.np I.nt)) with
  | false => rw [hb] at hh; simp at hh
  | true =>
  rw [hb] at hh
  simp only [cond_true, Option.some.injEq] at hh
  subst hh
  simp only [Bool.and_eq_true] at hb
  have hdn := blt_lt hb.1
  have hnp := Nat.eq_of_beq_eq_true hb.2.1
  have hnt := Nat.le_of_ble_eq_true hb.2.2
  obtain ⟨fn, hf, hbody, hfnt, hrs, hdo, hnr, hlim, hname⟩ := hT g I hI
  obtain ⟨η, gd, H⟩ := hR
  obtain ⟨fv, cv, hfo, hfv, hcv⟩ := tgt_sound H htg
  have hA : holdsA (vw E η w) η (ptrsOf fs ++ (ss ++ ptrsOf cs)) (fv ++ (args.toList.map a.eval ++ cv)) := holdsA_app (ptrs_holds hfv) (holdsA_app (evals_vals H hss) (ptrs_holds hcv))
  obtain ⟨vals, hvals⟩ : ∃ vals, vals = fv ++ (args.toList.map a.eval ++ cv) := ⟨_, rfl⟩
  obtain ⟨SS, hSS⟩ : ∃ SS, SS = ptrsOf fs ++ (ss ++ ptrsOf cs) := ⟨_, rfl⟩
  rw [← hvals, ← hSS] at hA
  have hlen : vals.length = I.np := by
    rw [← holdsA_length hA, hSS]; simp [ptrsOf_length]; omega
  have hrun : (execOp a.eval o).run E.P w = .ok (.enter g vals.toArray) w := by
    have e2' : ¬ fn.name = "runtime.NumGoroutine" := by simpa using hname
    have e3' : ¬ fn.body = none := by rw [hbody]; intro h; cases h
    have e : vals.toArray = fv.toArray ++ args.map a.eval ++ cv.toArray := by
      rw [hvals]; apply Array.ext'; simp
    rw [e]
    simp [execOp, ho, resolve, Deferred.ofValue, hfo, invoke, callFunc, hf, e2', e3']
  have hgrow := gd.grow
  refine wpIn_of_run (by intro d h; rw [ho] at h; cases h) hrun ⟨fun h => (by cases h), callsFw (R := fun e w' => ∃ v, e = .returned v ∧ K' (a.put o.dst v) w') ?_ |>.mono fun e w' ⟨v, h1, h2⟩ => by subst h1; exact h2⟩
  simp only [inlVC, forceN_eq, force_eq] at hF
  obtain ⟨B, hB⟩ : ∃ B, B = topKey 1 st := ⟨_, rfl⟩
  rw [← hB, ← hSS] at hF
  obtain ⟨η', hdef⟩ : ∃ η' : Eta, ∀ K, η' K = bif Nat.ble SH K then η (K - SH) else none := ⟨fun K => bif Nat.ble SH K then η (K - SH) else none, fun _ => rfl⟩
  let E' : Env := { P := E.P, M := fun b => E.Mp b, mu := fun b => E.mu b ∧ ∃ k n, η k = some (b, n), w0 := w, OB := E.OB, x := { mw := fun b => E.low b ∧ ∃ k n, η k = some (b, n), eta0 := η', nd := true } }
  have hup : ∀ k, η' (up k) = η k := fun k => by
    rw [hdef, up, Nat.ble_eq_true_of_le (Nat.le_add_left _ _), Nat.add_sub_cancel, cond_true]
  have hη' : ∀ K b n, η' K = some (b, n) → SH ≤ K ∧ η (K - SH) = some (b, n) := fun K b n h => by
    rw [hdef] at h
    cases hb : Nat.ble SH K with
    | false => rw [hb] at h; cases h
    | true => rw [hb] at h; exact ⟨Nat.le_of_ble_eq_true hb, h⟩
  have hmu : ∀ b, E.mu b → b < w.heap.size := fun b h => by
    have := gd.dis b h
    have : ¬ E.w0.heap.size ≤ b := fun h => this (.inl h)
    omega
  have hlow : ∀ b, E'.low b → E.low b := fun b h => h.elim (fun h => .inl (Nat.le_trans hgrow h)) (fun h => h.1)
  have hMp : ∀ b, E.Mp b → b < w.heap.size ∧ ∀ k n, η k = some (b, n) → ¬ E.low b := fun b h => by
    rcases h with h | ⟨o, h⟩
    · have h1 := gd.old b h
      have : ¬ E.w0.heap.size ≤ b := fun h => h1 (.inl h)
      exact ⟨by omega, fun _ _ _ => h1⟩
    · obtain ⟨_, h2, h3⟩ := gd.defers.2 _ h
      exact ⟨lt_of_heap h2, fun k n hk => absurd hk (h3 k n)⟩
  obtain ⟨a', ha'⟩ : ∃ a' : Act, a' = { tmps := vals.toArray ++ Array.replicate (fn.ntmps - vals.toArray.size) undef, defers := [] } := ⟨_, rfl⟩
  have hsz : a'.tmps.size = I.nt := by rw [ha', hfnt]; simp; omega
  have hget : ∀ (j : Nat) v, vals[j]? = some v → a'.tmps.getD j undef = v := fun j v h => by
    have hl := (List.getElem?_eq_some_iff.1 h).1
    rw [ha']
    simp only [Array.getD_eq_getD_getElem?]
    rw [Array.getElem?_append_left (by simpa using hl)]
    simp [h]
  have hview : ∀ b c, vw E η w b c → vw E' η' w b c := fun b c ⟨h1, h2, h3⟩ => ⟨fun h => h.elim h1 (fun ⟨_, h⟩ => by cases h), fun K n hK => h2 _ _ (hη' K b n hK).2, h3⟩
  have hR' : RelS E' I.nt (argF 0 SS ++ inMem [] st) a' w := by
    refine ⟨η', {
      size := hsz, lim := hlim, defers := ⟨⟨[], by rw [ha']; rfl, List.nodup_nil, fun _ h => (by cases h)⟩, fun _ h => (by cases h)⟩, os := rfl, tape := rfl, output := rfl, grow := Nat.le_refl _, keep := fun _ _ _ _ => rfl,
      own := fun K b n hK => ?_, dis := fun b hb h => ?_, inj := fun K L b n n' hK hL => ?_, old := fun b hb h => ?_, obkeep := fun b i o _ _ h1 h2 => ⟨o, h1, h2⟩, nd := fun _ => (by rw [ha']) }, fun f hf => ?_⟩
    · obtain ⟨_, hk⟩ := hη' K b n hK
      obtain ⟨h1, h2⟩ := gd.own _ b n hk
      exact ⟨h1, h2.imp (fun h => .inr ⟨h, _, _, hk⟩) (fun h => ⟨h, _, _, hk⟩)⟩
    · exact gd.dis b hb.1 (hlow b h)
    · obtain ⟨h1, h2⟩ := hη' K b n hK
      obtain ⟨h3, h4⟩ := hη' L b n' hL
      have := gd.inj _ _ b n n' h2 h4
      omega
    · obtain ⟨h1, h2⟩ := hMp b hb
      rcases h with h | ⟨h3, k, n, h4⟩
      · have h : w.heap.size ≤ b := h
        omega
      · exact h2 k n h4 h3
    · rcases List.mem_append.1 hf with hf | hf
      · obtain ⟨j, s, h1, rfl⟩ := argF_mem hf
        obtain ⟨v, h2, h3⟩ := holdsA_nth hA h1
        simp only [Fact.holds, Nat.zero_add]
        have hj : j < I.nt := by have := (List.getElem?_eq_some_iff.1 h2).1; omega
        rw [sval_lt (by omega), hget j v h2]
        exact holdsV_mapK (h := fun _ => true) hview (fun k _ => hup k) (SV.inK_true s) h3
      · rcases mem_inMem hf with ⟨k, rfl⟩ | ⟨t, s, h0, rfl, h2⟩ | ⟨k, off, s, rfl, h2⟩ | ⟨k, el, e, xs, rfl, h2⟩ | ⟨k, i, rfl, h2⟩
        · exact (Eq.refl (η' (up k)))
        · have h := H _ h2
          simp only [Fact.holds] at h ⊢
          have e : sval a' t = sval a t := by unfold sval; rw [blt_no h0]; rfl
          rw [e]
          exact holdsV_mapK (h := fun _ => true) hview (fun k _ => hup k) (SV.inK_true s) h
        · obtain ⟨b, n, cur, el, v, h3, h4, h5, h6, h7, h8⟩ := H _ h2
          exact ⟨b, n, cur, el, v, .inr ⟨h3, k, n, h4⟩, (hup k).trans h4, h5, h6, h7, holds1_mapK (h := fun _ => true) hview (fun k _ => hup k) (S1.inK_true s) h8⟩
        · rcases H _ h2 with ⟨h3, h4⟩ | ⟨b, n, cur, h3, h4, h5, h6⟩
          · exact .inl ⟨(hup k).trans h3, h4⟩
          · exact .inr ⟨b, n, cur, .inr ⟨h3, k, n, h4⟩, (hup k).trans h4, h5, h6.mono hview⟩
        · obtain ⟨b, n, o, h3, h4, h5⟩ := H _ h2
          exact ⟨b, n, o, (hup k).trans h3, h4, h5⟩
  have hC' := hC I.nt
  refine callsIn_wide.1 (callsIn_of_wp (F := Fence.wide) (n := 0) hf hbody trivial ?_)
  rw [← ha']
  refine wpIn_mono (vc_sound hC' (par_sound hm hC') I.body 0 _ _ a' w E' none rfl rfl (.inr hnr) hdo hF hR') fun e a2 w2 ⟨⟨xe, st', e1, e2, η2, g2, H2⟩, _⟩ => ?_
  subst e1
  have fin : inlOut { c with nt := I.nt } I d B st K st' → a2.defers = [] ∧ ∃ v, (results fn a2.tmps).run E.P w2 = .ok v w2 ∧ ∃ v', Ending.returned v = .returned v' ∧ K' (a.put o.dst v') w2 := by
    intro e2
    unfold inlOut at e2
    split at e2
    case h_2 => exact e2.elim
    case h_1 s hs =>
    simp only [forceNs_eq, force_eq] at e2
    obtain ⟨fks, hfks⟩ : ∃ fks, fks = fixKs st' := ⟨_, rfl⟩
    rw [← hfks] at e2
    obtain ⟨v, hv, hsv⟩ : ∃ v, (results fn a2.tmps).run E.P w2 = .ok v w2 ∧ holdsV (vw E' η2 w2) η2 s v := by
      unfold svsOf at hs
      split at hs
      · rename_i hr
        simp only [Option.some.injEq] at hs
        subst hs
        exact ⟨.tuple #[], results_run (vs := []) (by rw [hrs, hr]; rfl), rfl⟩
      · rename_i r hr
        obtain ⟨v, k1, k2⟩ := svOf_sound (E := E') hC'.tbl H2 hs
        have k1 : (resVal a2.tmps r).run E.P w2 = .ok v w2 := k1
        exact ⟨v, results_run (vs := [v]) (by rw [hrs, hr]; simp [List.mapM_cons, k1]), k2⟩
      · cases hs
    refine ⟨g2.nd rfl, v, hv, v, rfl, ?_⟩
    rw [hd]
    refine hK _ _ _ e2 ?_
    obtain ⟨ηn, hnd⟩ : ∃ ηn : Eta, ∀ k, ηn k = bif Nat.blt k B then (bif oldK fks B (k + SH) then η2 (k + SH) else none) else (bif oldK fks B (k - B) then none else η2 (k - B)) := ⟨_, fun _ => rfl⟩
    have hout : ∀ K, ηn (outK fks B K) = η2 K := out_eta hnd
    have hηn : ∀ k b n, ηn k = some (b, n) → (k < B ∧ oldK fks B (k + SH) = true ∧ η2 (k + SH) = some (b, n)) ∨ (B ≤ k ∧ oldK fks B (k - B) = false ∧ η2 (k - B) = some (b, n)) := fun k b n h => by
      rw [hnd] at h
      cases hb : Nat.blt k B with
      | true =>
        rw [hb] at h
        simp only [cond_true] at h
        cases ho : oldK fks B (k + SH) with
        | true => rw [ho] at h; exact .inl ⟨blt_lt hb, rfl, h⟩
        | false => rw [ho] at h; cases h
      | false =>
        rw [hb] at h
        simp only [cond_false] at h
        have hle : B ≤ k := Nat.le_of_not_lt fun h => by rw [blt_yes h] at hb; cases hb
        cases ho : oldK fks B (k - B) with
        | true => rw [ho] at h; cases h
        | false => rw [ho] at h; exact .inr ⟨hle, rfl, h⟩
    have hη2 : ∀ k b n, ηn k = some (b, n) → ∃ K, η2 K = some (b, n) := fun k b n h => (hηn k b n h).elim (fun h => ⟨_, h.2.2⟩) (fun h => ⟨_, h.2.2⟩)
    have hold : ∀ b n K, b < w.heap.size → η2 K = some (b, n) → ∃ k n', η k = some (b, n') := fun b n K hb h => by
      obtain ⟨_, h⟩ := g2.own K b n h
      rcases h with (h | ⟨_, h⟩) | ⟨_, h⟩
      · have h : w.heap.size ≤ b := h
        omega
      · exact h
      · exact h
    have hfree : ∀ b, b < w.heap.size → (∀ k n, η k ≠ some (b, n)) → ∀ k n, ηn k ≠ some (b, n) := fun b hb h k n hk => by
      obtain ⟨K, hK⟩ := hη2 k b n hk
      obtain ⟨k', n', h'⟩ := hold b n K hb hK
      exact h k' n' h'
    have hstay : ∀ b, b < w.heap.size → (∀ k n, η k ≠ some (b, n)) → w2.heap[b]? = w.heap[b]? := fun b hb h => g2.keep b hb (fun hm => by obtain ⟨_, k, n, hk⟩ := hm; exact h k n hk) (fun hm => by obtain ⟨_, k, n, hk⟩ := hm; exact h k n hk)
    have hvo : ∀ b c, vw E η w b c → vw E ηn w2 b c := fun b c ⟨h1, h2, el, f, h3⟩ => ⟨h1, hfree b (lt_of_heap h3) h2, el, f, (hstay b (lt_of_heap h3) h2).trans h3⟩
    have hvn : ∀ b c, vw E' η2 w2 b c → vw E ηn w2 b c := fun b c ⟨h1, h2, h3⟩ => ⟨fun h => h1 (.inl h), fun k n hk => by obtain ⟨K, hK⟩ := hη2 k b n hk; exact h2 K n hK, h3⟩
    have hkept : ∀ k, keptK fks B k = true → ηn k = η k := fun k h => by
      simp only [keptK, Bool.and_eq_true] at h
      have hfx := (oldK_iff.1 h.2).1
      have hmem : Fact.fix (k + SH) ∈ st' := mem_fixKs (by rw [← hfks]; exact hfx)
      have hfx : η2 (k + SH) = η' (k + SH) := H2 _ hmem
      rw [hnd, h.1, h.2, cond_true, cond_true]
      exact hfx.trans (hup k)
    have hdsz : d < a.tmps.size := by rw [gd.size]; exact hdn
    have hlimd : d < 1000000 := Nat.lt_of_lt_of_le hdn gd.lim
    refine ⟨ηn, {
      size := by rw [← gd.size]; simp [Act.put]
      lim := gd.lim
      defers := ?_
      os := g2.os.trans gd.os
      tape := g2.tape.trans gd.tape
      output := g2.output.trans gd.output
      grow := Nat.le_trans gd.grow g2.grow
      keep := fun b hb h1 h2 => (g2.keep b (Nat.lt_of_lt_of_le hb gd.grow) (fun h => h1 h.1) (fun h => h.1.elim (fun h => absurd hb (Nat.not_lt_of_le h)) h2)).trans (gd.keep b hb h1 h2)
      own := fun k b n h => ?_
      dis := gd.dis
      inj := fun k k' b n n' h h' => ?_
      old := gd.old
      obkeep := fun b i o hb h1 h2 h3 => ?_
      nd := gd.nd }, fun f hf => ?_⟩
    · obtain ⟨⟨ms, h1, h2, h3⟩, h4⟩ := gd.defers
      exact ⟨⟨ms, h1, h2, fun D hD => by
        obtain ⟨k1, k2, k3⟩ := h3 D hD
        exact ⟨k1, (hstay D (lt_of_heap k2) k3).trans k2, hfree D (lt_of_heap k2) k3⟩⟩, fun p hp => by
        obtain ⟨k1, k2, k3⟩ := h4 p hp
        exact ⟨k1, (hstay _ (lt_of_heap k2) k3).trans k2, hfree _ (lt_of_heap k2) k3⟩⟩
    · obtain ⟨K, hK⟩ := hη2 k b n h
      obtain ⟨h1, h2⟩ := g2.own K b n hK
      exact ⟨h1, h2.imp (hlow b) (fun h => h.1)⟩
    · rcases hηn k b n h with ⟨h1, h2, h3⟩ | ⟨h1, h2, h3⟩ <;> rcases hηn k' b n' h' with ⟨k1, k2, k3⟩ | ⟨k1, k2, k3⟩
      · have := g2.inj _ _ b n n' h3 k3; omega
      · have := g2.inj _ _ b n n' h3 k3
        rw [this, k2] at h2; cases h2
      · have := g2.inj _ _ b n n' h3 k3
        rw [← this, h2] at k2; cases k2
      · have := g2.inj _ _ b n n' h3 k3; omega
    · obtain ⟨o', h4, h5⟩ := gd.obkeep b i o hb h1 h2 h3
      by_cases hk : ∃ k n, η k = some (b, n)
      · exact g2.obkeep b i o' (lt_of_heap h4) ⟨h1, hk⟩ h4 h5
      · exact ⟨o', (hstay b (lt_of_heap h4) fun k n h => hk ⟨k, n, h⟩).trans h4, h5⟩
    · rcases List.mem_cons.1 hf with rfl | hf
      · simp only [Fact.holds]
        rw [sval_put_eq hdsz hlimd]
        exact holdsV_mapK (h := fun _ => true) hvn (fun k _ => hout k) (SV.inK_true s) hsv
      rcases List.mem_append.1 hf with hf | hf
      · rcases mem_outSlots hf with ⟨t, s, rfl, h1, h2, h3⟩ | ⟨k, rfl, h1, h2⟩
        · have h := H _ h3
          simp only [Fact.holds] at h ⊢
          have e : sval (a.put (some d) v) t = sval a t := sval_congr (getD_put_ne h1)
          rw [e, ← SV.mapK_id s]
          exact holdsV_mapK (f := fun k => k) (h := keptK fks B) hvo (fun k hk => hkept k hk) h2 h
        · exact (hkept k h1).trans (H _ h2)
      · rcases mem_outMem hf with ⟨k, off, s, rfl, h2⟩ | ⟨k, el, e, xs, rfl, h2⟩ | ⟨k, i, rfl, h2⟩
        · obtain ⟨b, n, cur, el, v, h3, h4, h5, h6, h7, h8⟩ := H2 _ h2
          exact ⟨b, n, cur, el, v, hlow b h3, (hout k).trans h4, h5, h6, h7, holds1_mapK (h := fun _ => true) hvn (fun k _ => hout k) (S1.inK_true s) h8⟩
        · rcases H2 _ h2 with ⟨h3, h4⟩ | ⟨b, n, cur, h3, h4, h5, h6⟩
          · exact .inl ⟨(hout k).trans h3, h4⟩
          · exact .inr ⟨b, n, cur, hlow b h3, (hout k).trans h4, h5, h6.mono hvn⟩
        · obtain ⟨b, n, o, h3, h4, h5⟩ := H2 _ h2
          exact ⟨b, n, o, (hout k).trans h3, h4, h5⟩
  cases xe with
  | normal => exact fin e2
  | exit id => exact e2.elim
  | ret => exact fin e2

/-- The settings with some functions walked in place. -/
def Cfg.withInl (c : Cfg) (tbl : List (Nat × InlF)) : Cfg := { c with hk := inlHook c tbl }

theorem withInl_ok {P : Program} {OB : Nat → Obj → Prop} {c : Cfg} (hC : ∀ nt, CfgOk P OB { c with nt := nt }) (hm : P.follows .mixedOrders = true) {tbl : List (Nat × InlF)} (hT : InlOk P tbl) (nt : Nat) : CfgOk P OB { c.withInl tbl with nt := nt } where
  tbl := (hC nt).tbl
  eqs := (hC nt).eqs
  ctr := (hC nt).ctr
  ext := (hC nt).ext
  extb := (hC nt).extb
  obs := (hC nt).obs
  its := (hC nt).its
  ios := (hC nt).ios
  vas := (hC nt).vas
  hk := fun n => inl_sound hC hm hT n

end Go.Eng
