/- The definitions of a symbolic executor over the model's code: types of plain data, symbolic values, facts on the frame and on memory, the effect of an operation, and the verification condition of a body. Conditions: none; nothing is proved here. -/
import Derived.WalkKit
import Derived.WalkSpells
import Derived.WalkLawsBesides
import Derived.Laws.FloatArith
import Derived.Laws.Cover2
import Derived.Laws.Externs
import GoSem.Extern.MathSqrt
set_option linter.all false
namespace Go.Eng

/-- Types of plain data. A struct is a chain of cons that ends with nil. -/
inductive Ty where
  | int (k : IntKind) | bool | str | flt (k : FloatKind) | cpx (k : FloatKind) | sl (e : Ty) | nil | cons (a b : Ty)
  deriving DecidableEq, Inhabited

@[reducible] def Ty.Den : Ty → Type
  | .int _ => Int
  | .bool => Bool
  | .str => ByteArray
  | .flt _ => Nat
  | .cpx _ => Nat × Nat
  | .sl e => List e.Den
  | .nil => Unit
  | .cons a b => a.Den × b.Den

def Ty.size : Ty → Nat
  | .nil => 0
  | .cons a b => a.size + b.size
  | _ => 1

def Ty.agg : Ty → Bool
  | .nil | .cons _ _ => true
  | _ => false

def Ty.dflt : (t : Ty) → t.Den
  | .int _ => (0 : Int)
  | .bool => false
  | .str => ByteArray.empty
  | .flt _ => (0 : Nat)
  | .cpx _ => ((0 : Nat), (0 : Nat))
  | .sl _ => []
  | .nil => ()
  | .cons a b => (a.dflt, b.dflt)

/-- Equality as Go has it, on types that hold whole numbers, bools and texts alone. -/
def Ty.beq : (t : Ty) → t.Den → t.Den → Bool
  | .int _, (x : Int), (y : Int) => decide (x = y)
  | .bool, (x : Bool), (y : Bool) => x == y
  | .str, (x : ByteArray), (y : ByteArray) => x == y
  | .nil, _, _ => true
  | .cons a b, x, y => a.beq x.1 y.1 && b.beq x.2 y.2
  | _, _, _ => false

/-- Symbolic values of one cell (d may also stand for a whole struct). -/
inductive S1 where
  | d (t : Ty) (x : t.Den)
  | lb (b : Bool)
  | v (x : Value)
  | p (k off : Nat)
  | pd (t : Ty) (x : t.Den)
  | pr (k : Nat) (i : Int) (sz : Nat)
  | o (k : Nat) (n : Nat)

inductive SV where
  | one (s : S1)
  | agg (cs : List S1)
  | tup (ss : List S1)

inductive Fact where
  | slot (t : Nat) (s : SV)
  | cell (k off : Nat) (s : S1)
  | row (k : Nat) (el : Nat) (e : Ty) (xs : List e.Den)
  | ob (k : Nat) (i : Nat)

abbrev St := List Fact

def memN (n : Nat) : List Nat → Bool
  | [] => false
  | m :: r => bif Nat.beq m n then true else memN n r

def memC (k off : Nat) : List (Nat × Nat) → Bool
  | [] => false
  | m :: r => bif Nat.beq m.1 k && Nat.beq m.2 off then true else memC k off r

def S1.ment (ks : List Nat) : S1 → Bool
  | .p k _ | .pr k _ _ | .o k _ => memN k ks
  | _ => false

def anyS (f : S1 → Bool) : List S1 → Bool
  | [] => false
  | s :: r => f s || anyS f r

def SV.ment (ks : List Nat) : SV → Bool
  | .one s => s.ment ks
  | .agg cs | .tup cs => anyS (S1.ment ks) cs

/-- What an operation does away with: slots, blocks with all that points to them, cells, and all that a block holds. -/
structure Kill where
  slots : List Nat := []
  keys : List Nat := []
  cells : List (Nat × Nat) := []
  rows : List Nat := []
  allof : List Nat := []
  cont : List Nat := []

def Kill.surv (K : Kill) : Fact → Bool
  | .slot t s => !memN t K.slots && !s.ment K.keys
  | .cell k off s => !memN k K.keys && !memC k off K.cells && !memN k K.allof && !memN k K.cont && !s.ment K.keys
  | .row k _ _ _ => !memN k K.keys && !memN k K.rows && !memN k K.allof && !memN k K.cont
  | .ob k _ => !memN k K.keys && !memN k K.rows && !memN k K.allof

def filt (f : Fact → Bool) : St → St
  | [] => []
  | x :: r => bif f x then x :: filt f r else filt f r

def findSlot (t : Nat) : St → Option SV
  | [] => none
  | .slot t' s :: r => bif Nat.beq t' t then some s else findSlot t r
  | _ :: r => findSlot t r

def findCell (k off : Nat) : St → Option S1
  | [] => none
  | .cell k' o' s :: r => bif Nat.beq k' k && Nat.beq o' off then some s else findCell k off r
  | _ :: r => findCell k off r

structure RowF where
  el : Nat
  e : Ty
  xs : List e.Den

def findRow (k : Nat) : St → Option RowF
  | [] => none
  | .row k' el e xs :: r => bif Nat.beq k' k then some ⟨el, e, xs⟩ else findRow k r
  | _ :: r => findRow k r

def findOb (k : Nat) : St → Option Nat
  | [] => none
  | .ob k' i :: r => bif Nat.beq k' k then some i else findOb k r
  | _ :: r => findOb k r

def findCells (st : St) (k : Nat) : (off n : Nat) → Option (List S1)
  | _, 0 => some []
  | off, n + 1 => match findCell k off st with
    | some s => match findCells st k (off + 1) n with
      | some r => some (s :: r)
      | none => none
    | none => none

/-! ### The table of types -/

inductive TK where
  | int (k : IntKind) | bool | str | flt (k : FloatKind) | cpx (k : FloatKind)
  | slice (e : Nat)
  | struct (fs : List (Nat × Nat))   -- type, offset
  | array (n e : Nat)
  | ptr (e : Nat)
  | other

structure TInfo where
  kind : TK
  size : Nat
  bytes : Nat
  zero : Value

abbrev TT := List (Nat × TInfo)

def TT.get (tt : TT) (t : Nat) : Option TInfo :=
  match tt with
  | [] => none
  | (t', i) :: r => bif Nat.beq t' t then some i else TT.get r t

def chain : List Ty → Ty
  | [] => .nil
  | a :: r => .cons a (chain r)

mutual
def tyOf (tt : TT) : Nat → Nat → Option Ty
  | 0, _ => none
  | n + 1, t => match tt.get t with
    | some i => match i.kind with
      | .int k => some (.int k)
      | .bool => some .bool
      | .str => some .str
      | .flt k => some (.flt k)
      | .cpx k => some (.cpx k)
      | .slice e => (tyOf tt n e).map .sl
      | .struct fs => tyOfs tt n fs
      | .array m e => bif Nat.ble m 8 then (tyOf tt n e).map (fun a => chain (List.replicate m a)) else none
      | _ => none
    | none => none
def tyOfs (tt : TT) : Nat → List (Nat × Nat) → Option Ty
  | 0, _ => none
  | _, [] => some .nil
  | n + 1, f :: r => match tyOf tt n f.1 with
    | some a => match tyOfs tt n r with
      | some b => some (.cons a b)
      | none => none
    | none => none
end

def TK.isAgg : TK → Bool
  | .struct _ | .array _ _ => true
  | _ => false

/-- The table is right in itself: sizes and places add up. -/
def fieldsOk (tt : TT) : Nat → List (Nat × Nat) → Nat → Bool
  | off, [], n => Nat.beq off n
  | off, f :: r, n => Nat.beq f.2 off && match tt.get f.1 with
    | some i => fieldsOk tt (off + i.size) r n
    | none => false

def rowOk (tt : TT) (i : TInfo) : Bool :=
  match i.kind with
  | .struct fs => fieldsOk tt 0 fs i.size
  | .array n e => match tt.get e with
    | some ei => Nat.beq i.size (n * ei.size)
    | none => false
  | _ => Nat.beq i.size 1

def tblOk (all : TT) : TT → Bool
  | [] => true
  | (_, i) :: r => rowOk all i && tblOk all r

/-! ### From symbolic values to data, and back -/

def castD (t t' : Ty) (x : t.Den) : Option t'.Den := if h : t = t' then some (h ▸ x) else none

def isNilSlice : Value → Bool
  | .slice none n m => Nat.beq n 0 && Nat.beq m 0
  | _ => false

def S1.den (t : Ty) : S1 → Option t.Den
  | .d t' x => castD t' t x
  | .lb b => castD .bool t b
  | .v x => match t with
    | .sl _ => bif isNilSlice x then some [] else none
    | _ => none
  | _ => none

def pair1 {α : Type} (l : List S1) : Option α → Option (α × List S1)
  | some x => some (x, l)
  | none => none

def parse : (t : Ty) → List S1 → Option (t.Den × List S1)
  | .nil, l => some ((), l)
  | .cons a b, l => match parse a l with
    | some (x, l1) => match parse b l1 with
      | some (y, l2) => some ((x, y), l2)
      | none => none
    | none => none
  | .int k, s :: l => pair1 l (s.den (.int k))
  | .bool, s :: l => pair1 l (s.den .bool)
  | .str, s :: l => pair1 l (s.den .str)
  | .flt k, s :: l => pair1 l (s.den (.flt k))
  | .cpx k, s :: l => pair1 l (s.den (.cpx k))
  | .sl e, s :: l => pair1 l (s.den (.sl e))
  | _, [] => none

def SV.den (t : Ty) : SV → Option t.Den
  | .one s => s.den t
  | .agg cs => bif t.agg then (match parse t cs with | some (x, []) => some x | _ => none) else none
  | .tup _ => none

def cellsOf : (t : Ty) → t.Den → List S1
  | .nil, _ => []
  | .cons a b, x => cellsOf a x.1 ++ cellsOf b x.2
  | .int k, x => [.d (.int k) x]
  | .bool, x => [.d .bool x]
  | .str, x => [.d .str x]
  | .flt k, x => [.d (.flt k) x]
  | .cpx k, x => [.d (.cpx k) x]
  | .sl e, x => [.d (.sl e) x]

/-- The value of one cell. -/
def constS1 : Value → Option S1
  | .int k n => some (.d (.int k) n)
  | .bool b => some (.lb b)
  | .string s => some (.d .str s)
  | .float k b => some (.d (.flt k) b)
  | .complex k a b => some (.d (.cpx k) (a, b))
  | .agg _ => none
  | .tuple _ => none
  | x => some (.v x)

def constCells : List Value → Option (List S1)
  | [] => some []
  | x :: r => match constS1 x with
    | some s => match constCells r with
      | some l => some (s :: l)
      | none => none
    | none => none

def constSV : Value → Option SV
  | .agg cs => (constCells cs.toList).map .agg
  | .tuple _ => none
  | x => (constS1 x).map .one

def SV.cells : SV → Option (List S1)
  | .one (.d t x) => some (cellsOf t x)
  | .one (.v x) => bif x.oneCell' then some [.v x] else none
  | .one s => some [s]
  | .agg cs => some cs
  | .tup _ => none

def eval (st : St) : Operand → Option SV
  | .tmp t => findSlot t st
  | .const x => constSV x
  | .func f => some (.one (.v (.func (.func f) #[] #[])))
  | .global _ => none

/-! ### Contracts -/

inductive Pat where
  | dat (t : Ty)
  | lit (x : Value)
  | ob (i : Nat)

structure RC where
  own : Option Nat := none     -- a slice of new memory, of this element type
  t : Ty

def argTy : List Pat → Ty
  | [] => .nil
  | .dat t :: r => .cons t (argTy r)
  | _ :: r => argTy r

def resTy : List RC → Ty
  | [] => .nil
  | c :: r => .cons c.t (resTy r)

structure Spec where
  pats : List Pat
  res : List RC
  pre : (argTy pats).Den → Prop
  f : (argTy pats).Den → (resTy res).Den

/-- Function literals that may be handed on. -/
def litEq : Value → Value → Bool
  | .func (.func f) a b, .func (.func g) c d => Nat.beq f g && (a.size == 0 && b.size == 0 && c.size == 0 && d.size == 0)
  | _, _ => false

def matchArgs (st : St) : (ps : List Pat) → List SV → Option ((argTy ps).Den × List Nat)
  | [], [] => some ((), [])
  | .dat t :: r, s :: l => match s.den t with
    | some x => match matchArgs st r l with
      | some (y, ks) => some ((x, y), ks)
      | none => none
    | none => none
  | .lit x :: r, s :: l => match s with
    | .one (.v y) => bif litEq x y then (match matchArgs st r l with | some (z, ks) => some (z, ks) | none => none) else none
    | _ => none
  | .ob i :: r, s :: l => match s with
    | .one (.p k 0) => match findOb k st with
      | some j => bif Nat.beq i j then (match matchArgs st r l with | some (z, ks) => some (z, k :: ks) | none => none) else none
      | none => none
    | _ => none
  | _, _ => none

/-- All that the executor knows of the program: types, contracts, the number of slots. -/
structure Cfg where
  tt : TT
  eqs : List Nat            -- struct types whose equality is that of the data
  ctr : List (Nat × Spec)
  nt : Nat
  ext : List Nat := []           -- functions without a body that are math.sqrt
  obs : List (Nat × Nat) := []   -- types whose new objects are kept by a law of their own, with the law's number

def obOf (t : Nat) : List (Nat × Nat) → Option Nat
  | [] => none
  | p :: r => bif Nat.beq p.1 t then some p.2 else obOf t r

def getSpec (f : Nat) : List (Nat × Spec) → Option Spec
  | [] => none
  | (g, s) :: r => bif Nat.beq g f then some s else getSpec f r

/-! ### Operations -/

abbrev OP := Option Prop

@[reducible] def OP.hold : OP → Prop
  | none => True
  | some p => p

/-- A side condition that waits: all the walk's steps stop at it. -/
@[irreducible] def Held (p : Prop) : Prop := p
@[irreducible] def GHeld (p : Prop) : Prop := p

/-- A side condition; what a loop asks for. -/
def Leaf (p : Prop) : Prop := Unit → Held p
def Goal (p : Prop) : Prop := Unit → GHeld p

theorem Held.mk {p : Prop} (h : p) : Held p := by unfold Held; exact h
theorem GHeld.mk {p : Prop} (h : p) : GHeld p := by unfold GHeld; exact h
theorem Leaf.out {p : Prop} (h : Leaf p) : p := by have := h (); unfold Held at this; exact this
theorem Leaf.mk {p : Prop} (h : p) : Leaf p := fun _ => Held.mk h
theorem Goal.out {p : Prop} (h : Goal p) : p := by have := h (); unfold GHeld at this; exact this
theorem Goal.mk {p : Prop} (h : p) : Goal p := fun _ => GHeld.mk h

inductive Two where
  | l | r

/-- Both of two, as a choice that is made for us. -/
def both (A B : Prop) : Prop := (t : Two) → match t with
  | .l => A
  | .r => B

theorem both.out {A B : Prop} (h : both A B) : A ∧ B := ⟨h .l, h .r⟩
theorem both.mk {A B : Prop} (h : A ∧ B) : both A B := fun t => match t with
  | .l => h.1
  | .r => h.2

def OP.andK : OP → Prop → Prop
  | none, K => K
  | some p, K => both (Leaf p) K

theorem OP.andK_out {o : OP} {K : Prop} (h : o.andK K) : o.hold ∧ K := by
  cases o with
  | none => exact ⟨trivial, h⟩
  | some p => exact ⟨h.out.1.out, h.out.2⟩

def inR (k : IntKind) (n : Int) : Prop :=
  match k with
  | .i64 => -9223372036854775808 ≤ n ∧ n ≤ 9223372036854775807
  | k => k.wrap n = n

def big : Nat := 2147483648

inductive Eff where
  | val (ob : OP) (s : SV)
  | new (el : Nat) (cells : List S1)
  | newob (el i : Nat)
  | newrow (ob : OP) (el : Nat) (e : Ty) (xs : List e.Den)
  | st (k off : Nat) (cells : List S1)
  | strow (ob : OP) (k el : Nat) (e : Ty) (xs : List e.Den)
  | app (ob : OP) (k : Option Nat) (el : Nat) (e : Ty) (xs : List e.Den)
  | call (ob : OP) (oks : List Nat) (cs : List RC) (x : (resTy cs).Den)

def evals (st : St) : List Operand → Option (List SV)
  | [] => some []
  | o :: r => match eval st o with
    | some s => match evals st r with
      | some l => some (s :: l)
      | none => none
    | none => none

def binI (op : BinOp) (k : IntKind) (m n : Int) : Option Eff :=
  match op with
  | .add => some (.val (some (inR k (m + n))) (.one (.d (.int k) (m + n))))
  | .sub => some (.val (some (inR k (m - n))) (.one (.d (.int k) (m - n))))
  | .mul => some (.val (some (inR k (m * n))) (.one (.d (.int k) (m * n))))
  | .quo => some (.val (some (n ≠ 0 ∧ inR k (m.tdiv n))) (.one (.d (.int k) (m.tdiv n))))
  | .rem => some (.val (some (n ≠ 0)) (.one (.d (.int k) (m.tmod n))))
  | .and => some (.val none (.one (.d (.int k) (bits .and k m n))))
  | .or => some (.val none (.one (.d (.int k) (bits .or k m n))))
  | .xor => some (.val none (.one (.d (.int k) (bits .xor k m n))))
  | .eql => some (.val none (.one (.d .bool (decide (m = n)))))
  | .neq => some (.val none (.one (.d .bool (!decide (m = n)))))
  | .lss => some (.val none (.one (.d .bool (decide (m < n)))))
  | .leq => some (.val none (.one (.d .bool (decide (m ≤ n)))))
  | .gtr => some (.val none (.one (.d .bool (decide (m > n)))))
  | .geq => some (.val none (.one (.d .bool (decide (m ≥ n)))))
  | _ => none

def binB (op : BinOp) (m n : Bool) : Option Eff :=
  match op with
  | .eql => some (.val none (.one (.d .bool (m == n))))
  | .neq => some (.val none (.one (.d .bool (!(m == n)))))
  | _ => none

/-- Types on which Go's equality is Ty.beq. -/
def Ty.plain : Ty → Bool
  | .int _ | .bool | .str | .nil => true
  | .cons a b => a.plain && b.plain
  | _ => false

def S1.asBool : S1 → Option Bool
  | .lb b => some b
  | .d .bool x => some x
  | _ => none

def SV.asI : SV → Option Int
  | .one (.d (.int .i64) x) => some x
  | _ => none

/-- A number as it stands in a contract or a comparison, at whatever kind. -/
def isBoolT (tt : TT) (t : Nat) : Bool :=
  match tt.get t with
  | some i => match i.kind with
    | .bool => true
    | _ => false
  | none => false

/-- A slice's type. -/
def isSliceT (tt : TT) (t : Nat) : Bool := match tt.get t with
  | some i => match i.kind with
    | .slice _ => true
    | _ => false
  | none => false

def effBin (tt : TT) (eqs : List Nat) (op : BinOp) (xt : Nat) (x y : SV) : Option Eff :=
  match x, y with
  | .one (.d (.int k) m), .one (.d (.int k') n) => if k = k' then binI op k m n else none
  | .one (.lb m), .one (.lb n) => if isBoolT tt xt = true then binB op m n else none
  | .one (.d .bool m), .one (.d .bool n) => if isBoolT tt xt = true then binB op m n else none
  | .one (.lb m), .one (.d .bool n) => if isBoolT tt xt = true then binB op m n else none
  | .one (.d .bool m), .one (.lb n) => if isBoolT tt xt = true then binB op m n else none
  | .one (.d (.sl e) xs), .one (.v z) => bif isNilSlice z && isSliceT tt xt then (match op with
      | .eql => some (.val (some (0 < List.length (α := e.Den) xs)) (.one (.lb false)))
      | .neq => some (.val (some (0 < List.length (α := e.Den) xs)) (.one (.lb true)))
      | _ => none) else none
  | x, y => match tyOf tt 20 xt with
    | some t => bif memN xt eqs && t.agg then match x.den t, y.den t with
        | some a, some b => match op with
          | .eql => some (.val none (.one (.d .bool (t.beq a b))))
          | .neq => some (.val none (.one (.d .bool (!t.beq a b))))
          | _ => none
        | _, _ => none
      else none
    | none => none

def effLoad (tt : TT) (st : St) (t : Nat) (a : SV) : Option Eff :=
  match tt.get t with
  | some i => match a with
    | .one (.p k off) => bif i.kind.isAgg then (match findCells st k off i.size with
        | some cs => some (.val none (.agg cs))
        | none => none)
      else (match findCell k off st with
        | some s => some (.val none (.one s))
        | none => none)
    | .one (.pd t' x) => match tyOf tt 20 t with
      | some t'' => if t'' = t' then some (.val none (.one (.d t' x))) else none
      | none => none
    | .one (.pr k j sz) => match findRow k st with
      | some r => match tyOf tt 20 t with
        | some t'' => if t'' = r.e then (bif Nat.beq sz r.e.size then some (.val (some (0 ≤ j ∧ j < r.xs.length)) (.one (.d r.e (r.xs.getD j.toNat r.e.dflt)))) else none) else none
        | none => none
      | none => none
    | _ => none
  | none => none

def effStore (tt : TT) (st : St) (t : Nat) (a x : SV) : Option Eff :=
  match tt.get t with
  | some i => match a with
    | .one (.p k off) => match x.cells with
      | some cs => match findCells st k off i.size with
        | some _ => bif Nat.beq cs.length i.size && Nat.ble 1 i.size then some (.st k off cs) else none
        | none => none
      | none => none
    | .one (.pr k j sz) => match findRow k st with
      | some r => match x.den r.e with
        | some y => bif Nat.beq r.e.size i.size && Nat.beq sz i.size then some (.strow (some (0 ≤ j ∧ j < r.xs.length)) k r.el r.e (r.xs.set j.toNat y)) else none
        | none => none
      | none => none
    | _ => none
  | none => none

def nth {α : Type} : List α → Nat → Option α
  | [], _ => none
  | a :: _, 0 => some a
  | _ :: r, n + 1 => nth r n

/-- The field number n of a struct in memory that does not change. -/
def fieldD : (t : Ty) → t.Den → Nat → Option ((a : Ty) × a.Den)
  | .cons a _, x, 0 => some ⟨a, x.1⟩
  | .cons _ b, x, n + 1 => fieldD b x.2 n
  | _, _, _ => none

def effFieldAddr (tt : TT) (s : Nat) (a : SV) (f : Nat) : Option Eff :=
  match tt.get s with
  | some i => match i.kind with
    | .struct fs => match nth fs f with
      | some g => match tt.get g.1 with
        | some gi => bif Nat.beq gi.size 0 then none else match a with
          | .one (.p k off) => some (.val none (.one (.p k (off + g.2))))
          | .one (.pd t x) => match tyOf tt 20 s with
            | some t' => if t' = t then (match fieldD t x f with
              | some y => some (.val none (.one (.pd y.1 y.2)))
              | none => none) else none
            | none => none
          | _ => none
        | none => none
      | none => none
    | _ => none
  | none => none

def effField (tt : TT) (s : Nat) (a : SV) (f : Nat) : Option Eff :=
  match tt.get s with
  | some i => match i.kind with
    | .struct fs => match nth fs f with
      | some g => match tt.get g.1 with
        | some gi => match a with
          | .one (.d t x) => match tyOf tt 20 s with
            | some t' => if t' = t then (match fieldD t x f with
              | some y => some (.val none (.one (.d y.1 y.2)))
              | none => none) else none
            | none => none
          | .agg cs => bif gi.kind.isAgg then some (.val none (.agg ((cs.drop g.2).take gi.size))) else (match nth cs g.2 with
            | some s => some (.val none (.one s))
            | none => none)
          | _ => none
        | none => none
      | none => none
    | _ => none
  | none => none

def effIndexAddr (tt : TT) (t : Nat) (a i : SV) : Option Eff :=
  match i.asI with
  | some j => match tt.get t with
    | some ti => match ti.kind with
      | .slice e => match a with
        | .one (.d (.sl u) xs) => match tyOf tt 20 e with
          | some u' => if u' = u then some (.val (some (0 ≤ j ∧ j < xs.length)) (.one (.pd u (xs.getD j.toNat u.dflt)))) else none
          | none => none
        | .one (.o k n) => match tt.get e with
          | some ei => some (.val (some (0 ≤ j ∧ j < n)) (.one (.pr k j ei.size)))
          | none => none
        | _ => none
      | .array n e => match a with
        | .one (.p k off) => match tt.get e with
          | some ei => match j with
            | .ofNat m => bif Nat.blt m n then some (.val none (.one (.p k (off + m * ei.size)))) else none
            | _ => none
          | none => none
        | _ => none
      | _ => none
    | none => none
  | none => none

def effLen (tt : TT) (t : Nat) (a : SV) : Option Eff :=
  match tt.get t with
  | some ti => match ti.kind with
    | .slice _ => match a with
      | .one (.d (.sl _) xs) => some (.val none (.one (.d (.int .i64) (xs.length : Int))))
      | .one (.o _ n) => some (.val none (.one (.d (.int .i64) (n : Int))))
      | .one (.v x) => bif isNilSlice x then some (.val none (.one (.d (.int .i64) (0 : Int)))) else none
      | _ => none
    | .str => match a with
      | .one (.d .str s) => some (.val none (.one (.d (.int .i64) (s.size : Int))))
      | _ => none
    | _ => none
  | none => none

def foldMM (isMax : Bool) : Int → List SV → Option Int
  | x, [] => some x
  | x, s :: r => match s.asI with
    | some y => foldMM isMax (bif isMax then (if y > x then y else x) else (if y < x then y else x)) r
    | none => none

/-- The elements of a slice that is a source of an append. -/
def srcOf (st : St) (e : Ty) (s : SV) : Option (Prop × List e.Den) :=
  match s with
  | .one (.o k n) => match findRow k st with
    | some r => match castD (.sl r.e) (.sl e) r.xs with
      | some ys => some (n = r.xs.length, ys)
      | none => none
    | none => none
  | s => match s.den (.sl e) with
    | some ys => some (True, ys)
    | none => none

def effAppend (tt : TT) (st : St) (t : Nat) (s x : SV) : Option Eff :=
  match tt.get t with
  | some ti => match ti.kind with
    | .slice el => match tt.get el with
      | some ei => match s with
        | .one (.o k n) => match findRow k st with
          | some r => match srcOf st r.e x with
            | some (ob, ys) => bif Nat.beq r.el el && Nat.beq r.e.size ei.size && Nat.ble 1 ei.size && Nat.ble ei.bytes 65536 then
                some (.app (some (n = r.xs.length ∧ ob ∧ r.xs.length + ys.length ≤ big)) (some k) el r.e (r.xs ++ ys)) else none
            | none => none
          | none => none
        | .one (.v z) => match tyOf tt 20 el with
          | some e => match srcOf st e x with
            | some (ob, ys) => bif isNilSlice z && Nat.beq e.size ei.size && Nat.ble 1 ei.size && Nat.ble ei.bytes 65536 then
                some (.app (some (ob ∧ ys.length ≤ big)) none el e ys) else none
            | none => none
          | none => none
        | _ => none
      | none => none
    | _ => none
  | none => none

def setCells : List S1 → Nat → List S1 → Option (List S1)
  | l, 0, cs => match l.drop cs.length with
    | r => bif Nat.ble cs.length l.length then some (cs ++ r) else none
  | a :: l, n + 1, cs => match setCells l n cs with
    | some r => some (a :: r)
    | none => none
  | [], _ + 1, _ => none

def buildParts (place : Nat → Option (Nat × Nat)) (st : St) : List S1 → List (Nat × Operand) → Option (List S1)
  | l, [] => some l
  | l, (i, x) :: r => match place i with
    | some (off, n) => match eval st x with
      | some s => match s.cells with
        | some cs => bif Nat.beq cs.length n then (match setCells l off cs with
          | some l' => buildParts place st l' r
          | none => none) else none
        | none => none
      | none => none
    | none => none

def placeOf (tt : TT) : TK → Nat → Option (Nat × Nat)
  | .struct fs, i => match nth fs i with
    | some g => match tt.get g.1 with
      | some gi => some (g.2, gi.size)
      | none => none
    | none => none
  | .array n e, i => match tt.get e with
    | some ei => bif Nat.blt i n then some (i * ei.size, ei.size) else none
    | none => none
  | _, _ => none

def elems (st : St) (e : Ty) : Nat → List (Nat × Operand) → Option (List e.Den)
  | _, [] => some []
  | n, (i, x) :: r => bif Nat.beq i n then (match eval st x with
    | some s => match s.den e with
      | some y => match elems st e (n + 1) r with
        | some l => some (y :: l)
        | none => none
      | none => none
    | none => none) else none

def optI : Option SV → Option (Option Int)
  | none => some none
  | some s => match s.asI with
    | some n => some (some n)
    | none => none

def cutD (u : Ty) (xs : List u.Den) : Option Int → Option Int → Eff
  | none, none => .val none (.one (.d (.sl u) xs))
  | some l, none => .val (some (0 ≤ l ∧ l ≤ (xs.length : Int))) (.one (.d (.sl u) (xs.drop l.toNat)))
  | none, some h => .val (some (0 ≤ h ∧ h ≤ (xs.length : Int))) (.one (.d (.sl u) (xs.take h.toNat)))
  | some l, some h => .val (some (0 ≤ l ∧ l ≤ h ∧ h ≤ (xs.length : Int))) (.one (.d (.sl u) ((xs.take h.toNat).drop l.toNat)))

def effSlice (tt : TT) (t : TK) (x : SV) (lo hi : Option SV) : Option Eff :=
  match t with
  | .slice el => match tt.get el, tyOf tt 20 el with
    | some _, some u => match x.den (.sl u), optI lo, optI hi with
      | some xs, some l, some h => some (cutD u xs l h)
      | _, _, _ => none
    | _, _ => none
  | _ => none

def optEval (st : St) : Option Operand → Option (Option SV)
  | none => some none
  | some o => match eval st o with
    | some s => some (some s)
    | none => none

/-- A new slice's elements, kept from being laid out one by one. -/
@[irreducible] def repl {α : Type} (n : Int) (x : α) : List α := List.replicate n.toNat x
theorem repl_eq {α : Type} (n : Int) (x : α) : repl n x = List.replicate n.toNat x := by unfold repl; rfl
theorem repl_len {α : Type} (n : Int) (x : α) : (repl n x).length = n.toNat := by rw [repl_eq, List.length_replicate]

def effOf (c : Cfg) (st : St) (o : Oper) : Option Eff :=
  match o.op with
  | .move x | .assign x => match eval st x with
    | some s => some (.val none s)
    | none => none
  | .pick x a b => match eval st x with
    | some (.one (.lb g)) => match eval st (bif g then a else b) with
      | some s => some (.val none s)
      | none => none
    | some (.one (.d .bool g)) => match eval st a, eval st b with
      | some (.one s), some (.one u) => match s.asBool, u.asBool with
        | some p, some q => some (.val none (.one (.d .bool (cond g p q))))
        | _, _ => none
      | _, _ => none
    | _ => none
  | .alloc el => match obOf el c.obs with
    | some i => some (.newob el i)
    | none => match c.tt.get el with
      | some i => match constSV i.zero with
        | some s => match s.cells with
          | some cs => some (.new el cs)
          | none => none
        | none => none
      | none => none
  | .box el x => match eval st x with
    | some s => match s.cells with
      | some cs => some (.new el cs)
      | none => none
    | none => none
  | .build t ps => match c.tt.get t with
    | some i => bif i.kind.isAgg then (match constSV i.zero with
      | some (.agg z) => match buildParts (placeOf c.tt i.kind) st z ps.toList with
        | some cs => some (.val none (.agg cs))
        | none => none
      | _ => none) else none
    | none => none
  | .buildSlice t n ps => match c.tt.get t with
    | some i => match i.kind with
      | .slice el => match tyOf c.tt 20 el with
        | some e => match c.tt.get el with
          | some ei => match elems st e 0 ps.toList with
            | some xs => bif Nat.beq xs.length n && Nat.beq e.size ei.size && Nat.ble n 4096 && Nat.ble ei.size 4096 && Nat.ble 1 ei.size then some (.newrow none el e xs) else none
            | none => none
          | none => none
        | none => none
      | _ => none
    | none => none
  | .load t a => match eval st a with
    | some s => effLoad c.tt st t s
    | none => none
  | .store t a x => match eval st a, eval st x with
    | some s, some y => effStore c.tt st t s y
    | _, _ => none
  | .nilCheck x => match eval st x with
    | some (.one (.p k off)) => some (.val none (.one (.p k off)))
    | some (.one (.pd t y)) => some (.val none (.one (.pd t y)))
    | some (.one (.pr k i sz)) => some (.val none (.one (.pr k i sz)))
    | _ => none
  | .binOp op xt x y _ => match eval st x, eval st y with
    | some s, some u => effBin c.tt c.eqs op xt s u
    | _, _ => none
  | .unOp op _ x => match op, eval st x with
    | .not, some (.one (.lb b)) => some (.val none (.one (.lb (!b))))
    | .not, some (.one (.d .bool b)) => some (.val none (.one (.d .bool (!b))))
    | .neg, some (.one (.d (.int k) n)) => some (.val (some (inR k (-n))) (.one (.d (.int k) (-n))))
    | _, _ => none
  | .convert s d x => match c.tt.get s, c.tt.get d, eval st x with
    | some si, some di, some (.one (.d (.int k) n)) => match si.kind, di.kind with
      | .int _, .int k' => if k = k' then some (.val (some (inR k n)) (.one (.d (.int k) n))) else none
      | .int _, .flt k' => some (.val none (.one (.d (.flt k') (floatOfInt k' n))))
      | _, _ => none
    | some si, some di, some (.one (.d (.flt k) n)) => match si.kind, di.kind with
      | .flt _, .int k' => some (.val (some ((floatToIntVal k n k').isSome = true)) (.one (.d (.int k') ((floatToIntVal k n k').getD 0))))
      | _, _ => none
    | _, _, _ => none
  | .makeSlice t l m => match c.tt.get t with
    | some i => match i.kind with
      | .slice el => match tyOf c.tt 20 el, c.tt.get el, eval st l, eval st m with
        | some e, some ei, some sl, some sm => match constSV ei.zero, sl.asI, sm.asI with
          | some z, some n, some n' => match z.den e with
            | some x => bif Nat.beq e.size ei.size && Nat.ble ei.bytes 65536 && Nat.ble 1 ei.size then some (.newrow (some (n' = n ∧ 0 ≤ n ∧ n ≤ (big : Int))) el e (repl n x)) else none
            | none => none
          | _, _, _ => none
        | _, _, _, _ => none
      | _ => none
    | none => none
  | .slice t x lo hi none => match c.tt.get t, eval st x, optEval st lo, optEval st hi with
    | some i, some s, some l, some h => effSlice c.tt i.kind s l h
    | _, _, _, _ => none
  | .fieldAddr s x f => match eval st x with
    | some a => effFieldAddr c.tt s a f
    | none => none
  | .field s x f => match eval st x with
    | some a => effField c.tt s a f
    | none => none
  | .indexAddr t x i => match eval st x, eval st i with
    | some a, some j => effIndexAddr c.tt t a j
    | _, _ => none
  | .extract x i => match eval st x with
    | some (.tup ss) => match nth ss i with
      | some s => some (.val none (.one s))
      | none => none
    | _ => none
  | .call { callee := .builtin .len, args, argTypes } => match args.toList, argTypes.toList with
    | [x], [t] => match eval st x with
      | some s => effLen c.tt t s
      | none => none
    | _, _ => none
  | .call { callee := .builtin .max, args, argTypes := _ } => match evals st args.toList with
    | some (s :: r) => match s.asI with
      | some x => match foldMM true x r with
        | some y => some (.val none (.one (.d (.int .i64) y)))
        | none => none
      | none => none
    | _ => none
  | .call { callee := .builtin .min, args, argTypes := _ } => match evals st args.toList with
    | some (s :: r) => match s.asI with
      | some x => match foldMM false x r with
        | some y => some (.val none (.one (.d (.int .i64) y)))
        | none => none
      | none => none
    | _ => none
  | .call { callee := .builtin .append, args, argTypes } => match args.toList, argTypes.toList with
    | [s, x], [t, t'] => match eval st s, eval st x with
      | some a, some b => bif Nat.beq t t' then effAppend c.tt st t a b else none
      | _, _ => none
    | _, _ => none
  | .call { callee := .value f, args, argTypes := _ } => match eval st f with
    | some (.one (.v (.func (.func g) fa ca))) => bif fa.size == 0 && ca.size == 0 then (match getSpec g c.ctr with
      | some sp => match evals st args.toList with
        | some l => match matchArgs st sp.pats l with
          | some (x, oks) => some (.call (some (sp.pre x)) oks sp.res (sp.f x))
          | none => none
        | none => none
      | none => bif memN g c.ext then (match evals st args.toList with
        | some [.one (.d (.flt .f64) x)] => some (.val (some ((FloatKind.f64.format.sqrt x).isSome = true)) (.one (.d (.flt .f64) ((FloatKind.f64.format.sqrt x).getD 0))))
        | _ => none) else none) else none
    | _ => none
  | _ => none

structure Res where
  ob : OP
  add : St
  kill : Kill

def cellFacts (k : Nat) : Nat → List S1 → St
  | _, [] => []
  | off, s :: r => .cell k off s :: cellFacts k (off + 1) r

def cellLocs (k : Nat) : Nat → List S1 → List (Nat × Nat)
  | _, [] => []
  | off, _ :: r => (k, off) :: cellLocs k (off + 1) r

/-- The results of a call: their symbolic values, and the facts on slices of new memory. -/
def resS1 (d : Nat) : (cs : List RC) → (resTy cs).Den → Nat → List S1 × (St × List Nat)
  | [], _, _ => ([], ([], []))
  | c :: r, x, j =>
    let (ss, fs, ks) := resS1 d r x.2 (j + 1)
    match c with
    | { own := none, t := t } => (.d t x.1 :: ss, fs, ks)
    | { own := some el, t := .sl e } => (.o (d + 100000 * j) (List.length (α := e.Den) x.1) :: ss, .row (d + 100000 * j) el e x.1 :: fs, (d + 100000 * j) :: ks)
    | { own := some _, t := t } => (.d t x.1 :: ss, fs, ks)

def oneOrTup : List S1 → SV
  | [s] => .one s
  | l => .tup l

def toRes (dst : Option Nat) (e : Eff) : Option Res :=
  match dst with
  | none => match e with
    | .st k off cs => some { ob := none, add := cellFacts k off cs, kill := { cells := cellLocs k off cs, rows := [k] } }
    | .strow ob k el e xs => some { ob := ob, add := [.row k el e xs], kill := { allof := [k] } }
    | _ => none
  | some d => match e with
    | .val ob s => some { ob := ob, add := [.slot d s], kill := { slots := [d] } }
    | .new _ cs => bif anyS (S1.ment [d]) cs then none else some { ob := none, add := .slot d (.one (.p d 0)) :: cellFacts d 0 cs, kill := { slots := [d], keys := [d] } }
    | .newob _ i => some { ob := none, add := [.slot d (.one (.p d 0)), .ob d i], kill := { slots := [d], keys := [d] } }
    | .newrow ob el e xs => some { ob := ob, add := [.slot d (.one (.o d xs.length)), .row d el e xs], kill := { slots := [d], keys := [d] } }
    | .app ob k el e xs => some { ob := ob, add := [.slot d (.one (.o d xs.length)), .row d el e xs], kill := { slots := [d], keys := (match k with | some k => [d, k] | none => [d]) } }
    | .call ob oks cs x => some { ob := ob, add := .slot d (oneOrTup (resS1 d cs x 0).1) :: (resS1 d cs x 0).2.1, kill := { slots := [d], keys := (resS1 d cs x 0).2.2, cont := oks } }
    | _ => none

def stepRes (c : Cfg) (st : St) (o : Oper) : Option Res :=
  match effOf c st o with
  | some e => match o.dst with
    | none => toRes none e
    | some d => bif Nat.blt d c.nt then toRes (some d) e else none
  | none => none

def after (st : St) (r : Res) : St := r.add ++ filt r.kill.surv st

end Go.Eng
