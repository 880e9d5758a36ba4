/- The verification condition of a body: regions, branches, loops with their invariants, results. Definitions alone; nothing is proved here. -/
import Derived.Test.YtimkbccpbjabiaaE1
set_option linter.all false
namespace Go.Eng

/-! ### Slices of the body's own that become data -/

def S1.frz (k : Nat) (e : Ty) (xs : List e.Den) : S1 → S1
  | .o k' n => bif Nat.beq k' k then .d (.sl e) xs else .o k' n
  | s => s

def S1.frzP (k len : Nat) : S1 → Prop
  | .o k' n => bif Nat.beq k' k then n = len else True
  | _ => True

def frzL (k : Nat) (e : Ty) (xs : List e.Den) : List S1 → List S1
  | [] => []
  | s :: r => s.frz k e xs :: frzL k e xs r

def frzLP (k len : Nat) : List S1 → Prop
  | [] => True
  | s :: r => s.frzP k len ∧ frzLP k len r

def SV.frz (k : Nat) (e : Ty) (xs : List e.Den) : SV → SV
  | .one s => .one (s.frz k e xs)
  | .agg cs => .agg (frzL k e xs cs)
  | .tup cs => .tup (frzL k e xs cs)

def SV.frzP (k len : Nat) : SV → Prop
  | .one s => s.frzP k len
  | .agg cs | .tup cs => frzLP k len cs

def Fact.frz (k : Nat) (e : Ty) (xs : List e.Den) : Fact → Fact
  | .slot t s => .slot t (s.frz k e xs)
  | .cell j off s => .cell j off (s.frz k e xs)
  | f => f

def Fact.frzP (k len : Nat) : Fact → Prop
  | .slot _ s => s.frzP k len
  | .cell _ _ s => s.frzP k len
  | _ => True

def Fact.ment (ks : List Nat) : Fact → Bool
  | .slot _ s => s.ment ks
  | .cell k _ s => memN k ks || s.ment ks
  | .row k _ _ _ => memN k ks
  | .ob k _ => memN k ks

def frzSt (k : Nat) (e : Ty) (xs : List e.Den) : St → St
  | [] => []
  | f :: r => bif (f.frz k e xs).ment [k] then frzSt k e xs r else f.frz k e xs :: frzSt k e xs r

def frzStP (k len : Nat) : St → Prop
  | [] => True
  | f :: r => bif f.ment [k] then f.frzP k len ∧ frzStP k len r else frzStP k len r

def freeze (k : Nat) (st : St) : Option (Prop × St) :=
  match findRow k st with
  | some r => some (frzStP k r.xs.length st, frzSt k r.e r.xs st)
  | none => none

/-- What a freezing asks for: that lengths agree. -/
def Frz (p : Prop) : Prop := p
theorem Frz.mk {p : Prop} (h : p) : Frz p := h

def freezes : List Nat → St → Option (OP × St)
  | [], st => some (none, st)
  | k :: r, st => match freeze k st with
    | some (p, st1) => match freezes r st1 with
      | some (none, st2) => some (some (Frz p), st2)
      | some (some q, st2) => some (some (Frz p ∧ q), st2)
      | none => none
    | none => freezes r st

/-! ### Evaluation of a state, ahead of what follows -/

def forceTy : (t : Ty) → (Ty → Prop) → Prop
  | .int k, K => K (.int k)
  | .bool, K => K .bool
  | .str, K => K .str
  | .flt k, K => K (.flt k)
  | .cpx k, K => K (.cpx k)
  | .sl e, K => forceTy e fun e' => K (.sl e')
  | .nil, K => K .nil
  | .cons a b, K => forceTy a fun a' => forceTy b fun b' => K (.cons a' b')

def forceNat (n : Nat) (K : Nat → Prop) : Prop := bif Nat.beq n 0 then K 0 else K n

def forceS1 (s : S1) (K : S1 → Prop) : Prop :=
  match s with
  | .d t x => K (.d t x)
  | .lb true => K (.lb true)
  | .lb false => K (.lb false)
  | .v x => K (.v x)
  | .p k off => K (.p k off)
  | .pd t x => K (.pd t x)
  | .pr k i sz => K (.pr k i sz)
  | .o k n => K (.o k n)

def forceL : List S1 → (List S1 → Prop) → Prop
  | [], K => K []
  | s :: r, K => forceS1 s fun s' => forceL r fun r' => K (s' :: r')

def forceSV (s : SV) (K : SV → Prop) : Prop :=
  match s with
  | .one s => forceS1 s fun s' => K (.one s')
  | .agg cs => forceL cs fun cs' => K (.agg cs')
  | .tup cs => forceL cs fun cs' => K (.tup cs')

def force : St → (St → Prop) → Prop
  | [], K => K []
  | .slot t s :: r, K => forceSV s fun s' => force r fun r' => K (.slot t s' :: r')
  | .cell k off s :: r, K => forceS1 s fun s' => force r fun r' => K (.cell k off s' :: r')
  | .row k el e xs :: r, K => force r fun r' => K (.row k el e xs :: r')
  | .ob k i :: r, K => force r fun r' => K (.ob k i :: r')

theorem forceS1_eq (s : S1) (K : S1 → Prop) : forceS1 s K = K s := by
  cases s <;> try rfl
  rename_i b; cases b <;> rfl

theorem forceL_eq : ∀ (l : List S1) (K : List S1 → Prop), forceL l K = K l
  | [], K => rfl
  | s :: r, K => by simp only [forceL, forceS1_eq, forceL_eq r]

theorem forceSV_eq (s : SV) (K : SV → Prop) : forceSV s K = K s := by
  cases s <;> simp only [forceSV, forceS1_eq, forceL_eq]

theorem force_eq : ∀ (l : St) (K : St → Prop), force l K = K l
  | [], K => rfl
  | .slot t s :: r, K => by simp only [force, forceSV_eq, force_eq r]
  | .cell k off s :: r, K => by simp only [force, forceS1_eq, force_eq r]
  | .row k el e xs :: r, K => by simp only [force, force_eq r]
  | .ob k i :: r, K => by simp only [force, force_eq r]

def forceN (m : Nat) (K : Nat → Prop) : Prop :=
  match m with
  | 0 => K 0
  | .succ n => K (.succ n)

def forceNs : List Nat → (List Nat → Prop) → Prop
  | [], K => K []
  | m :: r, K => forceN m fun m' => forceNs r fun r' => K (m' :: r')

theorem forceN_eq (m : Nat) (K : Nat → Prop) : forceN m K = K m := by cases m <;> rfl

theorem forceNs_eq : ∀ (l : List Nat) (K : List Nat → Prop), forceNs l K = K l
  | [], K => rfl
  | m :: r, K => by simp only [forceNs, forceN_eq, forceNs_eq r]

def keys1 : S1 → List Nat
  | .o k _ => [k]
  | _ => []

def keysL : List S1 → List Nat
  | [] => []
  | s :: r => keys1 s ++ keysL r

def SV.keys : SV → List Nat
  | .one s => keys1 s
  | .agg cs | .tup cs => keysL cs

def keysOps (st : St) : List Operand → List Nat
  | [] => []
  | o :: r => match eval st o with
    | some s => s.keys ++ keysOps st r
    | none => keysOps st r

def sndL {α β : Type} : List (α × β) → List β
  | [] => []
  | p :: r => p.2 :: sndL r

def needKeys (st : St) (o : Oper) : List Nat :=
  match o.op with
  | .call { callee := .value _, args, argTypes := _ } => keysOps st args.toList
  | .buildSlice _ _ ps => keysOps st (sndL ps.toList)
  | .slice _ x _ _ _ => keysOps st [x]
  | .store _ a x => match eval st a with
    | some (.one (.pr _ _ _)) => keysOps st [x]
    | _ => []
  | _ => []

/-! ### Regions -/

def undefSt (d : Option Nat) (st : St) : St :=
  match d with
  | none => st
  | some d => .slot d (.one (.v (.tuple #[]))) :: filt (Kill.surv { slots := [d] }) st

def setLb (t : Nat) (b : Bool) (st : St) : St := .slot t (.one (.lb b)) :: filt (Kill.surv { slots := [t] }) st

inductive GV where
  | yes | no | open_ (t : Nat) (b : Bool) | bad

def guardOf (c : Cfg) (ops : Array Oper) (st : St) (o : Oper) : GV :=
  match o.guard with
  | none => .yes
  | some (j, want) => match ops[j]? with
    | some g => match g.dst with
      | some t => bif Nat.blt t c.nt then (match findSlot t st with
        | some (.one (.lb b)) => bif (b == want) then .yes else .no
        | some (.one (.d .bool b)) => .open_ t b
        | some (.one (.v (.tuple _))) => .no
        | _ => .bad) else .bad
      | none => .bad
    | none => .bad

def runOne (c : Cfg) (o : Oper) (st : St) (K : St → Prop) : Prop :=
  match freezes (needKeys st o) st with
  | some (p, st1) => match stepRes c st1 o with
    | some r => p.andK (r.ob.andK (force (after st1 r) K))
    | none => False
  | none => False

def wantOf (o : Oper) : Bool := match o.guard with | some (_, w) => w | none => true

def runOps (c : Cfg) (ops : Array Oper) : List Oper → St → (St → Prop) → Prop
  | [], st, K => K st
  | o :: r, st, K => match guardOf c ops st o with
    | .yes => runOne c o st fun st' => runOps c ops r st' K
    | .no => runOps c ops r (undefSt o.dst st) K
    | .open_ t b =>
      both (b = wantOf o → runOne c o (setLb t (wantOf o) st) fun st' => runOps c ops r st' K)
        (b = (!wantOf o) → runOps c ops r (undefSt o.dst (setLb t (!wantOf o) st)) K)
    | .bad => False

/-! ### Other names for a block -/

def renN (k k' n : Nat) : Nat := bif Nat.beq n k then k' else n

def S1.ren (k k' : Nat) : S1 → S1
  | .p n off => .p (renN k k' n) off
  | .pr n i sz => .pr (renN k k' n) i sz
  | .o n m => .o (renN k k' n) m
  | s => s

def renL (k k' : Nat) : List S1 → List S1
  | [] => []
  | s :: r => s.ren k k' :: renL k k' r

def SV.ren (k k' : Nat) : SV → SV
  | .one s => .one (s.ren k k')
  | .agg cs => .agg (renL k k' cs)
  | .tup cs => .tup (renL k k' cs)

def Fact.ren (k k' : Nat) : Fact → Fact
  | .slot t s => .slot t (s.ren k k')
  | .cell n off s => .cell (renN k k' n) off (s.ren k k')
  | .row n el e xs => .row (renN k k' n) el e xs
  | .ob n i => .ob (renN k k' n) i

def renSt (k k' : Nat) : St → St
  | [] => []
  | f :: r => bif f.ment [k'] then renSt k k' r else f.ren k k' :: renSt k k' r

/-- A nil slice in a slot, as a slice of the body's own that holds nothing. -/
def nilOwn (t k el : Nat) (e : Ty) (st : St) : St :=
  .slot t (.one (.o k 0)) :: .row k el e [] :: filt (Kill.surv { slots := [t], keys := [k] }) st

def nilOwnCell (j off k el : Nat) (e : Ty) (st : St) : St :=
  .cell j off (.o k 0) :: .row k el e [] :: filt (Kill.surv { cells := [(j, off)], keys := [k] }) st

/-- The state brought to the names that the target uses. -/
def align1 (target : St) (f : Fact) (st : St) : Option (Prop × St) :=
  match f with
  | .slot t (.one (.o k _)) => match findSlot t st with
    | some (.one (.o k' _)) => bif Nat.beq k' k then some (True, st) else some (True, renSt k' k st)
    | some (.one (.v x)) => bif isNilSlice x then (match findRow k target with
        | some r => some (True, nilOwn t k r.el r.e st)
        | none => none) else none
    | _ => none
  | .slot t (.one (.p k _)) => match findSlot t st with
    | some (.one (.p k' _)) => bif Nat.beq k' k then some (True, st) else some (True, renSt k' k st)
    | _ => none
  | .slot t (.one (.d _ _)) => match findSlot t st with
    | some (.one (.o k' _)) => freeze k' st
    | _ => some (True, st)
  | .cell j off (.o k _) => match findCell j off st with
    | some (.o k' _) => bif Nat.beq k' k then some (True, st) else some (True, renSt k' k st)
    | some (.v x) => if (isNilSlice x && !Nat.beq j k) = true then (match findRow k target with
        | some r => some (True, nilOwnCell j off k r.el r.e st)
        | none => none) else none
    | _ => none
  | .cell j off (.d _ _) => match findCell j off st with
    | some (.o k' _) => freeze k' st
    | _ => some (True, st)
  | _ => some (True, st)

def align (target : St) : St → St → Option (Prop × St)
  | [], st => some (True, st)
  | f :: r, st => match align1 target f st with
    | some (p, st1) => match align target r st1 with
      | some (q, st2) => some (p ∧ q, st2)
      | none => none
    | none => none

/-! ### A state that says no more than another one -/

/-- Equality of data, part by part, at the plain types. -/
def eqD : (t : Ty) → t.Den → t.Den → Prop
  | .cons a b, x, y => eqD a x.1 y.1 ∧ eqD b x.2 y.2
  | .nil, _, _ => True
  | .int _, (x : Int), (y : Int) => x = y
  | .bool, (x : Bool), (y : Bool) => x = y
  | .str, (x : ByteArray), (y : ByteArray) => x = y
  | .flt _, (x : Nat), (y : Nat) => x = y
  | .cpx _, (x : Nat × Nat), (y : Nat × Nat) => x = y
  | .sl e, (x : List e.Den), (y : List e.Den) => x = y

theorem eqD_eq : ∀ (t : Ty) (x y : t.Den), eqD t x y → x = y
  | .cons a b, (x1, x2), (y1, y2), h => by
    have h1 := eqD_eq a x1 y1 h.1
    have h2 := eqD_eq b x2 y2 h.2
    rw [h1, h2]
  | .nil, _, _, _ => rfl
  | .int _, _, _, h => h
  | .bool, _, _, h => h
  | .str, _, _, h => h
  | .flt _, _, _, h => h
  | .cpx _, _, _, h => h
  | .sl _, _, _, h => h

def eqS1 (s' s : S1) : Prop :=
  match s with
  | .d t x => match s'.den t with
    | some y => eqD t y x
    | none => False
  | .lb b => match s' with
    | .lb b' => b' = b
    | .d .bool b' => b' = b
    | _ => False
  | .v x => match s' with
    | .v y => y = x
    | _ => False
  | .p k off => match s' with
    | .p k' off' => bif Nat.beq k' k && Nat.beq off' off then True else False
    | _ => False
  | .pd t x => match s' with
    | .pd t' y => match castD t' t y with
      | some z => eqD t z x
      | none => False
    | _ => False
  | .pr k i sz => match s' with
    | .pr k' i' sz' => bif Nat.beq k' k && Nat.beq sz' sz then i' = i else False
    | _ => False
  | .o k n => match s' with
    | .o k' n' => bif Nat.beq k' k then n' = n else False
    | _ => False

def eqL : List S1 → List S1 → Prop
  | [], [] => True
  | s' :: r', s :: r => eqS1 s' s ∧ eqL r' r
  | _, _ => False

def eqSV (s' s : SV) : Prop :=
  match s with
  | .one (.d t x) => match s'.den t with
    | some y => eqD t y x
    | none => False
  | .one s => match s' with
    | .one u => eqS1 u s
    | _ => False
  | .agg cs => match s' with
    | .agg cs' => eqL cs' cs
    | _ => False
  | .tup cs => match s' with
    | .tup cs' => eqL cs' cs
    | _ => False

def entF (st : St) : Fact → Prop
  | .slot t s => match findSlot t st with
    | some s' => eqSV s' s
    | none => False
  | .cell k off s => match findCell k off st with
    | some s' => eqS1 s' s
    | none => False
  | .row k el e xs => match findRow k st with
    | some r => bif Nat.beq r.el el then (match castD (.sl r.e) (.sl e) r.xs with
      | some ys => ys = xs
      | none => False) else False
    | none => False
  | .ob k i => match findOb k st with
    | some j => bif Nat.beq j i then True else False
    | none => False

def entL (st : St) : St → Prop
  | [] => True
  | f :: r => entF st f ∧ entL st r

def ent (st target : St) : Prop :=
  match align target target st with
  | some (p, st1) => Leaf (p ∧ entL st1 target)
  | none => False

/-! ### Bodies -/

inductive XE where
  | normal
  | exit (id : Nat)
  | ret

structure LoopAnn where
  σ : Type
  pat : σ → St
  inv : σ → Prop
  meas : σ → Nat

/-- An annotation's parts, laid open ahead of what follows. -/
def unAnn (A : LoopAnn) (K : (σ : Type) → (σ → St) → (σ → Prop) → (σ → Nat) → Prop) : Prop :=
  match A with
  | ⟨σ, p, i, m⟩ => K σ p i m

theorem unAnn_eq (A : LoopAnn) (K : (σ : Type) → (σ → St) → (σ → Prop) → (σ → Nat) → Prop) : unAnn A K = K A.σ A.pat A.inv A.meas := rfl

/-- What an annotation reads from the state ahead: a whole number, a list, a bool, any data. -/
def withI (t : Nat) (st : St) (K : Int → LoopAnn) : LoopAnn :=
  match findSlot t st with
  | some (.one (.d (.int .i64) x)) => K x
  | _ => K 0
def withB (t : Nat) (st : St) (K : Bool → LoopAnn) : LoopAnn :=
  match findSlot t st with
  | some (.one (.d .bool x)) => K x
  | some (.one (.lb x)) => K x
  | _ => K false
def withL (t : Nat) (st : St) (K : List Int → LoopAnn) : LoopAnn :=
  match findSlot t st with
  | some (.one (.d (.sl (.int .i64)) x)) => K x
  | _ => K []
def withLL (t : Nat) (st : St) (K : List (List Int) → LoopAnn) : LoopAnn :=
  match findSlot t st with
  | some (.one (.d (.sl (.sl (.int .i64))) x)) => K x
  | _ => K []
def withC (k off : Nat) (st : St) (K : Int → LoopAnn) : LoopAnn :=
  match findCell k off st with
  | some (.d (.int .i64) x) => K x
  | _ => K 0
def withR (k : Nat) (st : St) (K : List Int → LoopAnn) : LoopAnn :=
  match findRow k st with
  | some ⟨_, .int .i64, x⟩ => K x
  | _ => K []

def opsDst : List Oper → List Nat
  | [] => []
  | o :: r => match o.dst with
    | some d => d :: opsDst r
    | none => opsDst r

def dsts : Code → List Nat
  | .region _ ops _ => opsDst ops.toList
  | .seq a b => dsts a ++ dsts b
  | .cond _ a b => dsts a ++ dsts b
  | .block _ c => dsts c
  | .loop c => dsts c
  | _ => []

def nloops : Code → Nat
  | .seq a b => nloops a + nloops b
  | .cond _ a b => nloops a + nloops b
  | .block _ c => nloops c
  | .loop c => nloops c + 1
  | _ => 0

def slotsOf : St → List Nat
  | [] => []
  | .slot t _ :: r => t :: slotsOf r
  | _ :: r => slotsOf r

def keysOf : St → List Nat
  | [] => []
  | .cell k _ _ :: r => k :: keysOf r
  | .row k _ _ _ :: r => k :: keysOf r
  | _ :: r => keysOf r

/-- What is known ahead of a loop and holds at each round's head: all that the body does not touch and the pattern does not name. -/
def keepSt (ds ps ks : List Nat) : St → St
  | [] => []
  | f :: r => match f with
    | .slot t s => bif memN t ds || memN t ps || s.ment ds then keepSt ds ps ks r else .slot t s :: keepSt ds ps ks r
    | .cell k off s => bif memN k ks || memN k ds || s.ment ds then keepSt ds ps ks r else .cell k off s :: keepSt ds ps ks r
    | .row k el e xs => bif memN k ks || memN k ds then keepSt ds ps ks r else .row k el e xs :: keepSt ds ps ks r
    | .ob k i => bif memN k ds then keepSt ds ps ks r else .ob k i :: keepSt ds ps ks r

def headSt (ds : List Nat) (st pat : St) : St := pat ++ keepSt ds (slotsOf pat) (keysOf pat) st

def nthA : List (St → LoopAnn) → Nat → Option (St → LoopAnn)
  | [], _ => none
  | a :: _, 0 => some a
  | _ :: r, n + 1 => nthA r n

def vc (c : Cfg) (par : Array Oper → St → (St → Prop) → Prop) (anns : List (St → LoopAnn)) : Code → Nat → St → (XE → St → Prop) → Prop
  | .skip, _, st, K => K .normal st
  | .label _, _, st, K => K .normal st
  | .region _ ops false, _, st, K => runOps c ops ops.toList st (K .normal)
  | .region _ ops true, _, st, K => par ops st (K .normal)
  | .seq a b, n, st, K => vc c par anns a n st fun e st' => match e with
    | .normal => forceN (n + nloops a) fun m => vc c par anns b m st' K
    | e => K e st'
  | .cond x a b, n, st, K => match eval st x with
    | some (.one (.lb true)) => vc c par anns a n st K
    | some (.one (.lb false)) => forceN (n + nloops a) fun m => vc c par anns b m st K
    | some (.one (.d .bool g)) => both (g = true → vc c par anns a n st K) (g = false → forceN (n + nloops a) fun m => vc c par anns b m st K)
    | _ => False
  | .block id b, n, st, K => vc c par anns b n st fun e st' => match e with
    | .exit j => bif Nat.beq j id then K .normal st' else K (.exit j) st'
    | e => K e st'
  | .loop b, n, st, K => match nthA anns n with
    | some A => unAnn (A st) fun σ pat inv meas => forceNs (dsts b) fun ds => both (Goal (∃ s : σ, ent st (headSt ds st (pat s)) ∧ inv s))
      (∀ s : σ, inv s → force (headSt ds st (pat s)) fun st0 => vc c par anns b (n + 1) st0 fun e st' => match e with
        | .normal => Goal (∃ s' : σ, ent st' (headSt ds st (pat s')) ∧ inv s' ∧ meas s' < meas s)
        | e => K e st')
    | none => False
  | .exit id, _, st, K => K (.exit id) st
  | .ret, _, st, K => K .ret st
  | _, _, _, _ => False

/-! ### Functions -/

def svOf (c : Cfg) (st : St) : ResultVar → Option SV
  | .tmp t => findSlot t st
  | .cell a ty => match findSlot a st with
    | some (.one (.p k off)) => match c.tt.get ty with
      | some i => bif i.kind.isAgg then (match findCells st k off i.size with
          | some cs => some (.agg cs)
          | none => none)
        else (match findCell k off st with
          | some s => some (.one s)
          | none => none)
      | none => none
    | _ => none

def resKeys (c : Cfg) (st : St) : List ResultVar → List RC → List Nat
  | r :: rs, q :: cs => match q.own with
    | none => (match svOf c st r with | some s => s.keys | none => []) ++ resKeys c st rs cs
    | some _ => resKeys c st rs cs
  | _, _ => []

def noOwn : List RC → Bool
  | [] => true
  | q :: r => (match q.own with | none => true | some _ => false) && noOwn r

def resOf (c : Cfg) (st : St) : List ResultVar → (cs : List RC) → Option (Prop × (resTy cs).Den)
  | [], [] => some (True, ())
  | r :: rs, { own := none, t := t } :: cs => match svOf c st r with
    | some s => match s.den t with
      | some x => match resOf c st rs cs with
        | some (p, y) => some (p, (x, y))
        | none => none
      | none => none
    | none => none
  | r :: rs, { own := some el, t := .sl e } :: cs => bif noOwn cs then (match svOf c st r with
    | some (.one (.o k n)) => match findRow k st with
      | some q => bif Nat.beq q.el el then (match castD (.sl q.e) (.sl e) q.xs with
        | some xs => match resOf c st rs cs with
          | some (p, y) => some (p ∧ n = List.length (α := e.Den) xs, (xs, y))
          | none => none
        | none => none) else none
      | none => none
    | some (.one (.v x)) => bif isNilSlice x then (match resOf c st rs cs with
      | some (p, y) => some (p, (([] : List e.Den), y))
      | none => none) else none
    | _ => none) else none
  | _, _ => none

def retVC (c : Cfg) (rs : List ResultVar) (cs : List RC) (y : (resTy cs).Den) (st : St) : Prop :=
  match freezes (resKeys c st rs cs) st with
  | some (p, st1) => match resOf c st1 rs cs with
    | some (q, x) => p.andK (Leaf (q ∧ eqD (resTy cs) x y))
    | none => False
  | none => False

def initFacts : (ps : List Pat) → (argTy ps).Den → Nat → St
  | [], _, _ => []
  | .dat t :: r, x, i => .slot i (.one (.d t x.1)) :: initFacts r x.2 (i + 1)
  | .lit v :: r, x, i => .slot i (.one (.v v)) :: initFacts r x (i + 1)
  | .ob j :: r, x, i => .slot i (.one (.p (50000 + i) 0)) :: .ob (50000 + i) j :: initFacts r x (i + 1)

def bodyVC (c : Cfg) (par : Array Oper → St → (St → Prop) → Prop) (anns : List (St → LoopAnn)) (rs : List ResultVar) (body : Code) (sp : Spec) (x : (argTy sp.pats).Den) : Prop :=
  vc c par anns body 0 (initFacts sp.pats x 0) fun e st => match e with
    | .ret | .normal => retVC c rs sp.res (sp.f x) st
    | _ => False

end Go.Eng
