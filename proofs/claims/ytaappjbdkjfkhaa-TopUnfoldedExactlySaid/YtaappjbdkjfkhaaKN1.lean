/- Texts EA, as far as they are used. Conditions: each lemma's own. -/
import Derived.WalkKit
import Derived.WalkSpells
import Derived.WalkLawsBesides
import Derived.Laws.FloatArith
import Derived.Laws.Cover2
import Derived.Laws.Externs
import GoSem.Extern.MathSqrt
import Derived.Laws.Cover3
import Derived.Laws.ComplexArith
import Derived.TacticsIn
import Derived.OrdersIn
import Derived.RangeFuncKeeps
import Derived.RangeFuncLeaves
import Derived.LoopNIn
import Derived.Laws.BytesArg
import Derived.Laws.IdiomStrings
import Derived.Laws.Strings3
import Derived.Laws.Concat
import Derived.RangeFuncRecord
set_option linter.all false
namespace Go.Eng
inductive Ty where
  | int (k:IntKind)|bool|str|flt (k:FloatKind)|cpx (k:FloatKind)|sl (e:Ty)|nil|cons (a b:Ty)
  | ptr (t:Ty)|clo (g:Nat) (a:Ty)|fnl (f:Nat)|osl (e:Ty)|err
  deriving DecidableEq,Inhabited
@[reducible] def Ty.Den:Ty→Type
  | .int _=>Int
  | .bool=>Bool
  | .str=>ByteArray
  | .flt _=>Nat
  | .cpx _=>Nat×Nat
  | .sl e=>List e.Den
  | .nil=>Unit
  | .cons a b=>a.Den×b.Den
  | .ptr t=>t.Den
  | .clo _ a=>a.Den
  | .fnl _=>Unit
  | .osl e=>Option (List e.Den)
  | .err=>Bool
def Ty.size:Ty→Nat
  | .nil=>0
  | .cons a b=>a.size+b.size
  | _=>1
def Ty.agg:Ty→Bool
  | .nil | .cons _ _=>true
  | _=>false
def Ty.dflt:(t:Ty)→t.Den
  | .int _=>(0:Int)
  | .bool=>false
  | .str=>ByteArray.empty
  | .flt _=>(0:Nat)
  | .cpx _=>((0:Nat),(0:Nat))
  | .sl _=>[]
  | .nil=>()
  | .cons a b=>(a.dflt,b.dflt)
  | .ptr t=>t.dflt
  | .clo _ a=>a.dflt
  | .fnl _=>()
  | .osl _=>none
  | .err=>false
def Ty.beq:(t:Ty)→t.Den→t.Den→Bool
  | .int _,(x:Int),(y:Int)=>decide (x=y)
  | .bool,(x:Bool),(y:Bool)=>x == y
  | .str,(x:ByteArray),(y:ByteArray)=>x == y
  | .nil,_,_=>true
  | .cons a b,x,y=>a.beq x.1 y.1&&b.beq x.2 y.2
  | _,_,_=>false
inductive S1 where
  | d (t:Ty) (x:t.Den)
  | lb (b:Bool)
  | v (x:Value)
  | p (k off:Nat)
  | pd (t:Ty) (x:t.Den)
  | po (off : Nat) (t : Ty) (x : t.Den)     -- a pointer; so many cells on lies this data
  | dfl (u : Ty) (xs : List u.Den)           -- a slice whose capacity is its length
  | pw (t : Ty) (x : t.Den)           -- a pointer to a whole block of data
  | pr (k:Nat) (i:Int) (sz:Nat)
  | pq (k:Nat) (i:Int) (sz off:Nat)
  | o (k:Nat) (n:Nat)
  | u
  | fo (k:FloatKind) (r:Option Nat)
  | fn (g:Nat) (fs cs:List (Nat×Nat))
inductive SV where
  | one (s:S1)
  | agg (cs:List S1)
  | tup (ss:List S1)
inductive Fact where
  | slot (t:Nat) (s:SV)
  | cell (k off:Nat) (s:S1)
  | row (k:Nat) (el:Nat) (e:Ty) (xs:List e.Den)
  | ob (k:Nat) (i:Nat)
  | fix (k : Nat)       -- the key's block is that of the start
abbrev St:=List Fact
def memN (n:Nat):List Nat→Bool
  | []=>false
  | m::r=>bif Nat.beq m n then true else memN n r
def memC (k off:Nat):List (Nat×Nat)→Bool
  | []=>false
  | m::r=>bif Nat.beq m.1 k&&Nat.beq m.2 off then true else memC k off r
def anyK (ks:List Nat):List (Nat×Nat)→Bool
  | []=>false
  | p::r=>memN p.1 ks || anyK ks r
def S1.ment (ks:List Nat):S1→Bool
  | .p k _ | .pr k _ _ | .pq k _ _ _ | .o k _=>memN k ks
  | .fn _ fs cs=>anyK ks fs || anyK ks cs
  | _=>false
def anyS (f:S1→Bool):List S1→Bool
  | []=>false
  | s::r=>f s || anyS f r
def SV.ment (ks:List Nat):SV→Bool
  | .one s=>s.ment ks
  | .agg cs | .tup cs=>anyS (S1.ment ks) cs
structure Kill where
  slots:List Nat:=[]
  keys:List Nat:=[]
  cells:List (Nat×Nat):=[]
  rows:List Nat:=[]
  allof:List Nat:=[]
  cont:List Nat:=[]
def Kill.surv (K:Kill):Fact→Bool
  | .slot t s=>!memN t K.slots && !s.ment K.keys
  | .cell k off s=>!memN k K.keys && !memC k off K.cells && !memN k K.allof && !memN k K.cont && !s.ment K.keys
  | .row k _ _ _=>!memN k K.keys && !memN k K.rows && !memN k K.allof && !memN k K.cont
  | .ob k _=>!memN k K.keys && !memN k K.rows && !memN k K.allof
  | .fix k=>!memN k K.keys
def filt (f:Fact→Bool):St→St
  | []=>[]
  | x::r=>bif f x then x::filt f r else filt f r
def zaI (t:Nat):St→Option SV
  | []=>none
  | .slot t' s::r=>bif Nat.beq t' t then some s else zaI t r
  | _::r=>zaI t r
def zaM (k off:Nat):St→Option S1
  | []=>none
  | .cell k' o' s::r=>bif Nat.beq k' k&&Nat.beq o' off then some s else zaM k off r
  | _::r=>zaM k off r
def ziG:St→St
  | []=>[]
  | .cell k off (.o _ _)::r=>.cell k off .u::ziG r
  | _::r=>ziG r
def addU (st:St):St:=st++ziG st
structure RowF where
  el:Nat
  e:Ty
  xs:List e.Den
def zaS (k:Nat):St→Option RowF
  | []=>none
  | .row k' el e xs::r=>bif Nat.beq k' k then some ⟨el,e,xs⟩ else zaS k r
  | _::r=>zaS k r
def zdd (k:Nat):St→Option Nat
  | []=>none
  | .ob k' i::r=>bif Nat.beq k' k then some i else zdd k r
  | _::r=>zdd k r
def za0 (st:St) (k:Nat):(off n:Nat)→Option (List S1)
  | _,0=>some []
  | off,n+1=>match zaM k off st with
    | some s=>match za0 st k (off+1) n with
      | some r=>some (s::r)
      | none=>none
    | none=>none
/-! ### The table of types -/
inductive TK where
  | int (k:IntKind)|bool|str|flt (k:FloatKind)|cpx (k:FloatKind)
  | slice (e:Nat)
  | struct (fs : List (Nat × Nat))   -- type, offset
  | array (n e:Nat)
  | ptr (e:Nat)
  | iface
  | other
structure TInfo where
  kind:TK
  size:Nat
  bytes:Nat
  zero:Value
abbrev TT:=List (Nat×TInfo)
def TT.get (tt:TT) (t:Nat):Option TInfo:=
  match tt with
  | []=>none
  | (t',i)::r=>bif Nat.beq t' t then some i else TT.get r t
def zbm:List Ty→Ty
  | []=>.nil
  | a::r=>.cons a (zbm r)
mutual
def tyOf (tt:TT):Nat→Nat→Option Ty
  | 0,_=>none
  | n + 1,t=>match tt.get t with
    | some i=>match i.kind with
      | .int k=>some (.int k)
      | .bool=>some .bool
      | .str=>some .str
      | .flt k=>some (.flt k)
      | .cpx k=>some (.cpx k)
      | .slice e=>(tyOf tt n e).map .sl
      | .struct fs=>zfe tt n fs
      | .array m e=>bif Nat.ble m 8 then (tyOf tt n e).map (fun a=>zbm (List.replicate m a)) else none
      | _=>none
    | none=>none
def zfe (tt:TT):Nat→List (Nat×Nat)→Option Ty
  | 0,_=>none
  | _,[]=>some .nil
  | n + 1,f::r=>match tyOf tt n f.1 with
    | some a=>match zfe tt n r with
      | some b=>some (.cons a b)
      | none=>none
    | none=>none
end
def TK.isAgg:TK→Bool
  | .struct _ | .array _ _=>true
  | _=>false
def zaV (tt:TT):Nat→List (Nat×Nat)→Nat→Bool
  | off,[],n=>Nat.beq off n
  | off,f::r,n=>Nat.beq f.2 off&&match tt.get f.1 with
    | some i=>zaV tt (off+i.size) r n
    | none=>false
def zdg (tt:TT) (i:TInfo):Bool:=
  match i.kind with
  | .struct fs=>zaV tt 0 fs i.size
  | .array n e=>match tt.get e with
    | some ei=>Nat.beq i.size (n*ei.size)
    | none=>false
  | _=>Nat.beq i.size 1
def ziQ (all:TT):TT→Bool
  | []=>true
  | (_,i)::r=>zdg all i&&ziQ all r
/-! ### From symbolic values to data, and back -/
def zbF (t t':Ty) (x:t.Den):Option t'.Den:=if h:t=t' then some (h▸x) else none
def ol {α:Type}:Option (List α)→List α
  | some l=>l
  | none=>[]
def toD:(t' t:Ty)→t'.Den→Option t.Den
  | .osl e',.sl e,x=>zbF (.sl e') (.sl e) (ol x)
  | t',t,x=>zbF t' t x
def zah:Value→Bool
  | .slice none n m=>Nat.beq n 0&&Nat.beq m 0
  | _=>false
def zjT:Value→Bool
  | .nilIface=>true
  | _=>false
def S1.den (t:Ty):S1→Option t.Den
  | .d t' x=>toD t' t x
  | .dfl e xs=>toD (.sl e) t xs
  | .lb b=>zbF .bool t b
  | .v x=>match t with
    | .sl _=>bif zah x then some [] else none
    | .osl _=>bif zah x then some none else none
    | .err=>bif zjT x then some false else none
    | .fnl f=>match x with
      | .func (.func g) a b=>bif Nat.beq g f&&a.size == 0&&b.size == 0 then some () else none
      | _=>none
    | _=>none
  | .pd t' x=>match t with
    | .ptr t=>zbF t' t x
    | _=>none
  | _=>none
def zeG {α:Type} (l:List S1):Option α→Option (α×List S1)
  | some x=>some (x,l)
  | none=>none
def zeF:(t:Ty)→List S1→Option (t.Den×List S1)
  | .nil,l=>some ((),l)
  | .cons a b,l=>match zeF a l with
    | some (x,l1)=>match zeF b l1 with
      | some (y,l2)=>some ((x,y),l2)
      | none=>none
    | none=>none
  | .int k,s::l=>zeG l (s.den (.int k))
  | .bool,s::l=>zeG l (s.den .bool)
  | .str,s::l=>zeG l (s.den .str)
  | .flt k,s::l=>zeG l (s.den (.flt k))
  | .cpx k,s::l=>zeG l (s.den (.cpx k))
  | .sl e,s::l=>zeG l (s.den (.sl e))
  | .ptr t,s::l=>zeG l (s.den (.ptr t))
  | .clo g a,s::l=>zeG l (s.den (.clo g a))
  | .fnl f,s::l=>zeG l (s.den (.fnl f))
  | .osl e,s::l=>zeG l (s.den (.osl e))
  | .err,s::l=>zeG l (s.den .err)
  | _,[]=>none
def SV.den (t:Ty):SV→Option t.Den
  | .one s=>s.den t
  | .agg cs=>bif t.agg then (match zeF t cs with|some (x,[])=>some x | _=>none) else none
  | .tup _=>none
def cellsOf:(t:Ty)→t.Den→List S1
  | .nil,_=>[]
  | .cons a b,x=>cellsOf a x.1++cellsOf b x.2
  | .int k,x=>[.d (.int k) x]
  | .bool,x=>[.d .bool x]
  | .str,x=>[.d .str x]
  | .flt k,x=>[.d (.flt k) x]
  | .cpx k,x=>[.d (.cpx k) x]
  | .sl e,x=>[.d (.sl e) x]
  | .ptr t,x=>[.d (.ptr t) x]
  | .clo g a,x=>[.d (.clo g a) x]
  | .fnl f,x=>[.d (.fnl f) x]
  | .osl e,x=>[.d (.osl e) x]
  | .err,x=>[.d .err x]
def zeW:Value→Option S1
  | .int k n=>some (.d (.int k) n)
  | .bool b=>some (.lb b)
  | .string s=>some (.d .str s)
  | .float k b=>some (.d (.flt k) b)
  | .complex k a b=>some (.d (.cpx k) (a,b))
  | .agg _=>none
  | .tuple _=>none
  | x=>some (.v x)
def zbD:List Value→Option (List S1)
  | []=>some []
  | x :: r=>match zeW x with
    | some s=>match zbD r with
      | some l=>some (s::l)
      | none=>none
    | none=>none
def zeV:Value→Option SV
  | .agg cs=>(zbD cs.toList).map .agg
  | .tuple _=>none
  | x=>(zeW x).map .one
def SV.cells:SV→Option (List S1)
  | .one (.d t x)=>some (cellsOf t x)
  | .one (.v x)=>bif x.oneCell' then some [.v x] else none
  | .one .u=>none
  | .one s=>some [s]
  | .agg cs=>some cs
  | .tup _=>none
def eval (st:St):Operand→Option SV
  | .tmp t=>bif Nat.blt t 1000000 then zaI t st else none
  | .const x=>zeV x
  | .func f=>some (.one (.v (.func (.func f) #[] #[])))
  | .global g=>zaI (1000000+g) st
/-! ### Contracts -/
inductive Pat where
  | dat (t:Ty)
  | lit (x:Value)
  | ob (i:Nat)
  | gl (g : Nat) (t : Ty)    -- a package-level variable that nobody writes: no argument stands for it
  | gw (g : Nat) (t : Ty)    -- such a variable's whole block
structure RC where
  own : Option Nat := none     -- a slice of new memory, of this element type
  t:Ty
def zab:List Pat→Ty
  | []=>.nil
  | .dat t::r=>.cons t (zab r)
  | .gl _ t::r=>.cons t (zab r)
  | .gw _ t::r=>.cons t (zab r)
  | .lit _::r=>zab r
  | .ob _::r=>zab r
def zac:List RC→Ty
  | []=>.nil
  | c::r=>.cons c.t (zac r)
structure Spec where
  pats:List Pat
  res:List RC
  pre:(zab pats).Den→Prop
  f:(zab pats).Den→(zac res).Den
inductive IC where
  | dat (t:Ty)
  | ob (i:Nat)
  | own (el:Nat) (e:Ty)
def icTy:List IC→Ty
  | []=>.nil
  | .dat t::r=>.cons t (icTy r)
  | .ob _::r=>icTy r
  | .own _ e::r=>.cons (.sl e) (icTy r)
structure IoSpec where
  cs:List IC
  pats:List Pat
  pre:(icTy cs).Den→(zab pats).Den→Prop
  out:(icTy cs).Den→(zab pats).Den→(icTy cs).Den
def zmZ (g:Nat):List (Nat×IoSpec)→Option IoSpec
  | []=>none
  | (f,s)::r=>bif Nat.beq f g then some s else zmZ g r
structure VaSpec where
  cs:List IC
  outs:List IC:=cs
  pats:List Pat
  pre:(icTy cs).Den→(zab pats).Den→Prop
  out:(icTy cs).Den→(zab pats).Den→(icTy outs).Den
def zjb (g:Nat):List (Nat×VaSpec)→Option VaSpec
  | []=>none
  | (f,s)::r=>bif Nat.beq f g then some s else zjb g r
def zgt:List SV→Option (List SV×SV)
  | []=>none
  | [s]=>some ([],s)
  | s::r=>match zgt r with
    | some (l,u)=>some (s::l,u)
    | none=>none
def zed:List Nat→Bool
  | []=>true
  | k::r=>!memN k r&&zed r
def zbo (st:St):(cs:List IC)→List S1→Option (Prop×(icTy cs).Den×List Nat×List Nat)
  | [],[]=>some (True,(),[],[])
  | .dat t::r,s::l=>match s.den t with
    | some x=>match zbo st r l with
      | some (p,y,os,ws)=>some (p,(x,y),os,ws)
      | none=>none
    | none=>none
  | .ob i::r,s::l=>match s with
    | .p k 0=>match zdd k st with
      | some j=>bif Nat.beq i j then (match zbo st r l with
        | some (p,y,os,ws)=>some (p,y,k::os,ws)
        | none=>none) else none
      | none=>none
    | _=>none
  | .own el e::r,s::l=>match s with
    | .o k n=>match zaS k st with
      | some q=>bif Nat.beq q.el el then (match zbF (.sl q.e) (.sl e) q.xs with
        | some xs=>match zbo st r l with
          | some (p,y,os,ws)=>some (p∧n=List.length (α:=e.Den) xs,(xs,y),os,k::ws)
          | none=>none
        | none=>none) else none
      | none=>none
    | .v x=>bif zah x then (match zbo st r l with
      | some (p,y,os,ws)=>some (p,(([]:List e.Den),y),os,ws)
      | none=>none) else none
    | _=>none
  | _,_=>none
def zmT:Value→Value→Bool
  | .func (.func f) a b,.func (.func g) c d=>Nat.beq f g&&(a.size == 0&&b.size == 0&&c.size == 0&&d.size == 0)
  | _,_=>false
def zas (st:St):(ps:List Pat)→List SV→Option ((zab ps).Den×List Nat)
  | [],[]=>some ((),[])
  | .gl g t::r,l=>match zaI (1000000+g) st with
    | some (.one s)=>match s.den (.ptr t) with
      | some x=>match zas st r l with
        | some (y,ks)=>some ((x,y),ks)
        | none=>none
      | none=>none
    | _=>none
  | .gw g t::r,l=>match zaI (1000000+g) st with
    | some (.one (.pw t' x'))=>match zbF t' t x' with
      | some x=>match zas st r l with
        | some (y,ks)=>some ((x,y),ks)
        | none=>none
      | none=>none
    | _=>none
  | .dat t::r,s::l=>match s.den t with
    | some x=>match zas st r l with
      | some (y,ks)=>some ((x,y),ks)
      | none=>none
    | none=>none
  | .lit x::r,s::l=>match s with
    | .one (.v y)=>bif zmT x y then (match zas st r l with|some (z,ks)=>some (z,ks)|none=>none) else none
    | _=>none
  | .ob i::r,s::l=>match s with
    | .one (.p k 0)=>match zdd k st with
      | some j=>bif Nat.beq i j then (match zas st r l with|some (z,ks)=>some (z,k::ks)|none=>none) else none
      | none=>none
    | _=>none
  | _,_=>none
/-! ### What a range over a function yields -/
def Ty.flat:Ty→Bool
  | .sl _ | .ptr _ | .clo _ _ | .fnl _ | .osl _ | .err=>false
  | .cons a b=>a.flat&&b.flat
  | _=>true
def rdTy:List (Nat×Nat×Ty)→Ty
  | []=>.nil
  | r::l=>.cons r.2.2 (rdTy l)
structure ISpec where
  rd:List (Nat×Nat×Ty)
  e:Ty
  seq:(rdTy rd).Den→Nat→e.Den
  len:(rdTy rd).Den→Option Nat
  nb : Nat := 0                     -- how many of the values are bound (the others are caught)
  pre:(rdTy rd).Den→Prop:=fun _=>True
  two : Bool := false               -- a number is yielded ahead of the element
  ix : (rdTy rd).Den → Nat → Int := fun _ i => (i : Int)   -- that number
@[reducible] def ISpec.args (isp:ISpec) (x:(rdTy isp.rd).Den) (i:Nat) (v:Value):Array Value:=match isp.two with|false=>#[v]|true=>#[.int .i64 (isp.ix x i),v]
def addQ (two:Bool) (q:Nat) (n:Int) (st:St):St:=match two with|true=>.slot q (.one (.d (.int .i64) n))::st|false=>st
def parP:List Nat→Option (Nat×Bool×Nat)
  | [p]=>some (p,false,p)
  | [q,p]=>some (p,true,q)
  | _=>none
def zjc (g:Nat):List (Nat×ISpec)→Option ISpec
  | []=>none
  | (f,s)::r=>bif Nat.beq f g then some s else zjc g r
structure Cfg where
  tt:TT
  eqs : List Nat            -- struct types whose equality is that of the data
  ctr:List (Nat×Spec)
  nt:Nat
  ext : List Nat := []           -- functions without a body that are math.sqrt
  extb : List (Nat × FloatKind) := []   -- functions without a body that give a float's bits
  obs : List (Nat × Nat) := []   -- types whose new objects are kept by a law of their own, with the law's number
  its : List (Nat × ISpec) := []   -- iterators: functions over which the body ranges
  fuel : Nat := 0   -- rounds of a loop without annotation
  clos : List (Nat × List Ty) := []   -- closures whose variables stay as they are once it is made: the types of these
  unr : List Nat := []   -- loops that go round by round, by their numbers
  nan : Bool := false   -- results of operations on floats may be NaNs, whose bits are drawn
  ios : List (Nat × IoSpec) := []   -- methods that may write their receiver
  vas : List (Nat × VaSpec) := []   -- functions that are handed a struct with slices of own memory, and hand it back
  vno : List Nat := []   -- where a call's result lies in such a slot, vas is not looked at
  hk : Nat → Oper → St → Option ((St → Prop) → Prop) := fun _ _ _ => none   -- calls that are walked in place
def zlS (c:Cfg) (d:Option Nat) (g:Nat):Option VaSpec:=
  match d with
  | some d=>bif memN d c.vno then none else zjb g c.vas
  | none=>zjb g c.vas
theorem zja {c:Cfg} {d:Option Nat} {g:Nat} {sp:VaSpec} (h:zlS c d g=some sp):zjb g c.vas=some sp:=by
  unfold zlS at h
  split at h
  · rename_i d
    cases hb:memN d c.vno with
    | true=>rw[hb] at h;cases h
    | false=>rw[hb] at h;exact h
  · exact h
def obOf (t:Nat):List (Nat×Nat)→Option Nat
  | []=>none
  | p::r=>bif Nat.beq p.1 t then some p.2 else obOf t r
def zlU (g:Nat):List (Nat×List Ty)→Option (List Ty)
  | []=>none
  | (f,s)::r=>bif Nat.beq f g then some s else zlU g r
def zc1 (f:Nat):List (Nat×Spec)→Option Spec
  | []=>none
  | (g,s)::r=>bif Nat.beq g f then some s else zc1 f r
/-! ### Operations -/
abbrev OP:=Option Prop
@[reducible] def OP.hold:OP→Prop
  | none=>True
  | some p=>p
@[irreducible] def Held (p:Prop):Prop:=p
@[irreducible] def zal (p:Prop):Prop:=p
def Leaf (p:Prop):Prop:=Unit→Held p
def Goal (p:Prop):Prop:=Unit→zal p
theorem Held.mk {p:Prop} (h:p):Held p:=by unfold Held;exact h
theorem zal.mk {p:Prop} (h:p):zal p:=by unfold zal;exact h
theorem Leaf.out {p:Prop} (h:Leaf p):p:=by have:=h ();unfold Held at this;exact this
theorem Leaf.mk {p:Prop} (h:p):Leaf p:=fun _=>Held.mk h
theorem Goal.out {p:Prop} (h:Goal p):p:=by have:=h ();unfold zal at this;exact this
theorem Goal.mk {p:Prop} (h:p):Goal p:=fun _=>zal.mk h
inductive Two where
  | l|r
def both (A B:Prop):Prop:=(t:Two)→match t with
  | .l=>A
  | .r=>B
theorem both.out {A B:Prop} (h:both A B):A∧B:=⟨h .l,h .r⟩
theorem both.mk {A B:Prop} (h:A∧B):both A B:=fun t=>match t with
  | .l=>h.1
  | .r=>h.2
def OP.andK:OP→Prop→Prop
  | none,K=>K
  | some p,K=>both (Leaf p) K
theorem OP.andK_out {o:OP} {K:Prop} (h:o.andK K):o.hold∧K:=by
  cases o with
  | none=>exact⟨trivial,h⟩
  | some p=>exact⟨h.out.1.out,h.out.2⟩
def inR (k:IntKind) (n:Int):Prop:=
  match k with
  | .i64=>-9223372036854775808≤n∧n≤9223372036854775807
  | .u8=>0≤n∧n≤255
  | k=>k.wrap n=n
def big:Nat:=2147483648
inductive Eff where
  | val (ob:OP) (s:SV)
  | nan (ob:OP) (k:FloatKind) (r:Option Nat)
  | new (el:Nat) (cells:List S1)
  | newob (el i:Nat)
  | newrow (ob:OP) (el:Nat) (e:Ty) (xs:List e.Den)
  | st (k off:Nat) (cells:List S1)
  | strow (ob:OP) (k el:Nat) (e:Ty) (xs:List e.Den)
  | app (ob:OP) (k:Option Nat) (el:Nat) (e:Ty) (xs:List e.Den)
  | call (ob:OP) (oks:List Nat) (cs:List RC) (x:(zac cs).Den)
  | callio (ob:OP) (k:Nat) (oks wks:List Nat) (cs:List IC) (x:(icTy cs).Den)
  | callva (ob:OP) (wks:List Nat) (cs:List IC) (x:(icTy cs).Den)
  | alc (ob : OP) (cs : List RC) (x : (zac cs).Den)      -- a value that may lie in new memory
def zbp (st:St):List Operand→Option (List SV)
  | []=>some []
  | o :: r=>match eval st o with
    | some s=>match zbp st r with
      | some l=>some (s::l)
      | none=>none
    | none=>none
def binI (op:BinOp) (k:IntKind) (m n:Int):Option Eff:=
  match op with
  | .add=>some (.val (some (inR k (m+n))) (.one (.d (.int k) (m+n))))
  | .sub=>some (.val (some (inR k (m - n))) (.one (.d (.int k) (m - n))))
  | .mul=>some (.val (some (inR k (m*n))) (.one (.d (.int k) (m*n))))
  | .quo=>some (.val (some (n≠0∧inR k (m.tdiv n))) (.one (.d (.int k) (m.tdiv n))))
  | .rem=>some (.val (some (n≠0)) (.one (.d (.int k) (m.tmod n))))
  | .and=>some (.val none (.one (.d (.int k) (bits .and k m n))))
  | .or=>some (.val none (.one (.d (.int k) (bits .or k m n))))
  | .xor=>some (.val none (.one (.d (.int k) (bits .xor k m n))))
  | .eql=>some (.val none (.one (.d .bool (decide (m=n)))))
  | .neq=>some (.val none (.one (.d .bool (!decide (m=n)))))
  | .lss=>some (.val none (.one (.d .bool (decide (m<n)))))
  | .leq=>some (.val none (.one (.d .bool (decide (m≤n)))))
  | .gtr=>some (.val none (.one (.d .bool (decide (m>n)))))
  | .geq=>some (.val none (.one (.d .bool (decide (m≥n)))))
  | _=>none
def zlN:BinOp→Bool
  | .shl | .shr=>true
  | _=>false
def shlN (k:IntKind) (m n:Int):Int:=m*2 ^ (min n.toNat k.bits)
def shrN (k:IntKind) (m n:Int):Int:=m.fdiv (2 ^ (min n.toNat k.bits))
def shI (op:BinOp) (k:IntKind) (m n:Int):Option Eff:=
  match op with
  | .shl=>some (.val (some (0≤n∧inR k (shlN k m n))) (.one (.d (.int k) (shlN k m n))))
  | .shr=>some (.val (some (0≤n)) (.one (.d (.int k) (shrN k m n))))
  | _=>none
def zgR (op:BinOp) (k:FloatKind) (m n:Nat):Option (Option Nat):=
  match op with
  | .add=>some (k.format.add m n)
  | .sub=>some (k.format.sub m n)
  | .mul=>some (k.format.mul m n)
  | .quo=>some (k.format.div m n)
  | _=>none
def fCmp (op:BinOp) (k:FloatKind) (m n:Nat):Option Bool:=
  match op with
  | .eql=>some (k.format.order m n == some .eq)
  | .neq=>some (k.format.order m n != some .eq)
  | .lss=>some (k.format.order m n == some .lt)
  | .leq=>some (k.format.order m n == some .lt || k.format.order m n == some .eq)
  | .gtr=>some (k.format.order m n == some .gt)
  | .geq=>some (k.format.order m n == some .gt || k.format.order m n == some .eq)
  | _=>none
def binF (op:BinOp) (k:FloatKind) (m n:Nat):Option Eff:=
  match zgR op k m n with
  | some r=>some (.val (some (r.isSome=true)) (.one (.d (.flt k) (r.getD 0))))
  | none=>match fCmp op k m n with
    | some b=>some (.val none (.one (.d .bool b)))
    | none=>none
def binC (op:BinOp) (k:FloatKind) (z u:Nat×Nat):Option Eff:=
  match op with
  | .add=>some (.val (some ((cSumBits .add k z.1 z.2 u.1 u.2).isSome=true)) (.one (.d (.cpx k) ((cSumBits .add k z.1 z.2 u.1 u.2).getD (0,0)))))
  | .sub=>some (.val (some ((cSumBits .sub k z.1 z.2 u.1 u.2).isSome=true)) (.one (.d (.cpx k) ((cSumBits .sub k z.1 z.2 u.1 u.2).getD (0,0)))))
  | .eql=>some (.val none (.one (.d .bool ((k.format.order z.1 u.1 == some .eq)&&(k.format.order z.2 u.2 == some .eq)))))
  | .neq=>some (.val none (.one (.d .bool (!((k.format.order z.1 u.1 == some .eq)&&(k.format.order z.2 u.2 == some .eq))))))
  | _=>none
def f2f (k:FloatKind) (n:Nat) (k':FloatKind):Option Nat:=
  if k=k' then some n else match k.decode n with
  | .nan _ _=>none
  | .infinity s=>some (k'.encode (.infinity s))
  | .number s m e=>if (k'.decode (k'.encode (.number s m e))).isInfinity then none else some (k'.encode (.number s m e))
def bitK:FloatKind→IntKind
  | .f32=>.u32
  | .f64=>.u64
def zlT (f:Nat):List (Nat×FloatKind)→Option FloatKind
  | []=>none
  | (g,k)::r=>bif Nat.beq g f then some k else zlT f r
def binB (op:BinOp) (m n:Bool):Option Eff:=
  match op with
  | .eql=>some (.val none (.one (.d .bool (m == n))))
  | .neq=>some (.val none (.one (.d .bool (!(m == n)))))
  | _=>none
def S1.asBool:S1→Option Bool
  | .lb b=>some b
  | .d .bool x=>some x
  | _=>none
def SV.asI:SV→Option Int
  | .one (.d (.int .i64) x)=>some x
  | _=>none
def zeN (tt:TT) (t:Nat):Bool:=
  match tt.get t with
  | some i=>match i.kind with
    | .bool=>true
    | _=>false
  | none=>false
def zfn (tt:TT) (t:Nat):Bool:=match tt.get t with
  | some i=>match i.kind with
    | .iface=>true
    | _=>false
  | none=>false
def binS (op:BinOp) (s u:ByteArray):Option Eff:=
  match op with
  | .add=>some (.val (some (s.size+u.size≤big)) (.one (.d .str (s++u))))
  | .eql=>some (.val none (.one (.d .bool (s.data.toList == u.data.toList))))
  | .neq=>some (.val none (.one (.d .bool (!(s.data.toList == u.data.toList)))))
  | _=>none
def zbH (tt:TT) (t:Nat):Bool:=match tt.get t with
  | some i=>match i.kind with
    | .slice _=>true
    | _=>false
  | none=>false
def zl9 (tt:TT) (eqs:List Nat) (op:BinOp) (xt:Nat) (x y:SV):Option Eff:=
  match x,y with
  | .one (.d (.int k) m),.one (.d (.int k') n)=>bif zlN op then shI op k m n else if k=k' then binI op k m n else none
  | .one (.lb m),.one (.lb n)=>if zeN tt xt=true then binB op m n else none
  | .one (.d .bool m),.one (.d .bool n)=>if zeN tt xt=true then binB op m n else none
  | .one (.lb m),.one (.d .bool n)=>if zeN tt xt=true then binB op m n else none
  | .one (.d .bool m),.one (.lb n)=>if zeN tt xt=true then binB op m n else none
  | .one (.d (.sl e) xs),.one (.v z)=>bif zah z&&zbH tt xt then (match op with
      | .eql=>some (.val (some (0<List.length (α:=e.Den) xs)) (.one (.lb false)))
      | .neq=>some (.val (some (0<List.length (α:=e.Den) xs)) (.one (.lb true)))
      | _=>none) else none
  | .one (.d (.flt k) m),.one (.d (.flt k') n)=>if k=k' then binF op k m n else none
  | .one (.d (.cpx k) m),.one (.d (.cpx k') n)=>if k=k' then binC op k m n else none
  | .one (.d (.osl e) o),.one (.v z)=>bif zah z&&zbH tt xt then (match op with
      | .eql=>some (.val none (.one (.d .bool (Option.isNone (α:=List e.Den) o))))
      | .neq=>some (.val none (.one (.d .bool (Option.isSome (α:=List e.Den) o))))
      | _=>none) else none
  | .one (.v x),.one (.v z)=>bif zah x&&zah z&&zbH tt xt then (match op with
      | .eql=>some (.val none (.one (.lb true)))
      | .neq=>some (.val none (.one (.lb false)))
      | _=>none) else none
  | .one (.o _ n),.one (.v z)=>bif zah z&&zbH tt xt then (match op with
      | .eql=>some (.val (some (0<n)) (.one (.lb false)))
      | .neq=>some (.val (some (0<n)) (.one (.lb true)))
      | _=>none) else none
  | .one (.d .str s),.one (.d .str u)=>binS op s u
  | x, y => match tyOf tt 20 xt with
    | some t=>bif memN xt eqs&&t.agg then match x.den t,y.den t with
        | some a,some b=>match op with
          | .eql=>some (.val none (.one (.d .bool (t.beq a b))))
          | .neq=>some (.val none (.one (.d .bool (!t.beq a b))))
          | _=>none
        | _,_=>none
      else none
    | none=>none
def subD:(e:Ty)→e.Den→Nat→(t:Ty)→Option t.Den
  | .cons a b,x,off,t=>match (bif Nat.beq off 0 then zbF (.cons a b) t x else none) with
    | some y=>some y
    | none=>bif Nat.blt off a.size then subD a x.1 off t else subD b x.2 (off - a.size) t
  | e,x,off,t=>bif Nat.beq off 0 then zbF e t x else none
def setD : (e:Ty)→e.Den→Nat→(t:Ty)→t.Den→Option e.Den
  | .cons a b,x,off,t,y=>match (bif Nat.beq off 0 then zbF t (.cons a b) y else none) with
    | some z=>some z
    | none=>bif Nat.blt off a.size then (match setD a x.1 off t y with
        | some z=>some (z,x.2)
        | none=>none)
      else (match setD b x.2 (off - a.size) t y with
        | some z=>some (x.1,z)
        | none=>none)
  | e,_,off,t,y=>bif Nat.beq off 0 then zbF t e y else none
def zhu (k:Nat):St→Bool
  | []=>false
  | .cell k' _ _::r=>bif Nat.beq k' k then true else zhu k r
  | _::r=>zhu k r
def zjj (tt:TT) (st:St) (t:Nat) (a:SV):Option Eff:=
  match tt.get t with
  | some i => match a with
    | .one (.p k off)=>bif i.kind.isAgg then (match za0 st k off i.size with
        | some cs=>some (.val none (.agg cs))
        | none=>none)
      else (match zaM k off st with
        | some s=>some (.val none (.one s))
        | none=>none)
    | .one (.pd (.fnl f) _)=>bif i.kind.isAgg then none else some (.val none (.one (.v (.func (.func f) #[] #[]))))
    | .one (.pd t' x)=>match tyOf tt 20 t with
      | some t''=>if t''=t' then some (.val none (.one (.d t' x))) else none
      | none=>none
    | .one (.pr k j sz)=>bif zhu k st then (bif i.kind.isAgg then none else match j with
      | .ofNat m=>match zaM k (m*sz) st with
        | some s=>some (.val none (.one s))
        | none=>none
      | _=>none) else match zaS k st with
      | some r=>match tyOf tt 20 t with
        | some t''=>if t''=r.e then (bif Nat.beq sz r.e.size then some (.val (some (0≤j∧j<r.xs.length)) (.one (.d r.e (r.xs.getD j.toNat r.e.dflt)))) else none) else none
        | none=>none
      | none=>none
    | .one (.pq k j sz off)=>match zaS k st with
      | some r=>match tyOf tt 20 t with
        | some t''=>match subD r.e (r.xs.getD j.toNat r.e.dflt) off t'' with
          | some y=>bif Nat.beq sz r.e.size&&Nat.ble 1 t''.size then some (.val (some (0≤j∧j<r.xs.length)) (.one (.d t'' y))) else none
          | none=>none
        | none=>none
      | none=>none
    | _=>none
  | none=>none
def zhB (tt : TT) (st:St) (t:Nat) (a x:SV):Option Eff:=
  match tt.get t with
  | some i => match a with
    | .one (.p k off)=>match x.cells with
      | some cs=>match za0 st k off i.size with
        | some _=>bif Nat.beq cs.length i.size&&Nat.ble 1 i.size then some (.st k off cs) else none
        | none=>none
      | none=>none
    | .one (.pr k j sz)=>match zaS k st with
      | some r=>match x.den r.e with
        | some y=>bif Nat.beq r.e.size i.size&&Nat.beq sz i.size then some (.strow (some (0≤j∧j<r.xs.length)) k r.el r.e (r.xs.set j.toNat y)) else none
        | none=>none
      | none=>none
    | .one (.pq k j sz off)=>match zaS k st with
      | some r=>match tyOf tt 20 t with
        | some t''=>match x.den t'' with
          | some y=>match setD r.e (r.xs.getD j.toNat r.e.dflt) off t'' y with
            | some z=>bif Nat.beq sz r.e.size&&Nat.ble 1 t''.size then some (.strow (some (0≤j∧j<r.xs.length)) k r.el r.e (r.xs.set j.toNat z)) else none
            | none=>none
          | none=>none
        | none=>none
      | none=>none
    | _=>none
  | none=>none
def nth {α:Type}:List α→Nat→Option α
  | [],_=>none
  | a::_,0=>some a
  | _::r,n+1=>nth r n
def zdP:(t:Ty)→t.Den→Nat→Option ((a:Ty)×a.Den)
  | .cons a _,x,0=>some ⟨a,x.1⟩
  | .cons _ b,x,n+1=>zdP b x.2 n
  | _,_,_=>none
def zdt (tt : TT) (s:Nat) (a:SV) (f:Nat):Option Eff:=
  match tt.get s with
  | some i => match i.kind with
    | .struct fs=>match nth fs f with
      | some g => match tt.get g.1 with
        | some gi=>bif Nat.beq gi.size 0 then none else match a with
          | .one (.p k off)=>some (.val none (.one (.p k (off+g.2))))
          | .one (.pd t x)=>match tyOf tt 20 s with
            | some t'=>if t'=t then (match zdP t x f with
              | some y=>some (.val none (.one (.pd y.1 y.2)))
              | none=>none) else none
            | none=>none
          | .one (.pr k j sz)=>some (.val none (.one (.pq k j sz g.2)))
          | .one (.pq k j sz off)=>some (.val none (.one (.pq k j sz (off+g.2))))
          | .one (.po off t x)=>bif Nat.beq off g.2 then some (.val none (.one (.pd t x))) else none
          | _=>none
        | none=>none
      | none=>none
    | _=>none
  | none=>none
def zhF (tt : TT) (s:Nat) (a:SV) (f:Nat):Option Eff:=
  match tt.get s with
  | some i => match i.kind with
    | .struct fs=>match nth fs f with
      | some g => match tt.get g.1 with
        | some gi=>match a with
          | .one (.d t x)=>match tyOf tt 20 s with
            | some t'=>if t'=t then (match zdP t x f with
              | some y=>some (.val none (.one (.d y.1 y.2)))
              | none=>none) else none
            | none=>none
          | .agg cs=>bif gi.kind.isAgg then some (.val none (.agg ((cs.drop g.2).take gi.size))) else (match nth cs g.2 with
            | some s=>some (.val none (.one s))
            | none=>none)
          | _=>none
        | none=>none
      | none=>none
    | _=>none
  | none=>none
def chL (e:Ty):(n:Nat)→(zbm (List.replicate n e)).Den→List e.Den
  | 0,_=>[]
  | n+1,x=>x.1::chL e n x.2
def zds (tt : TT) (t:Nat) (a i:SV):Option Eff:=
  match i.asI with
  | some j => match tt.get t with
    | some ti => match ti.kind with
      | .slice e=>match a with
        | .one (.d (.sl u) xs)=>match tyOf tt 20 e with
          | some u'=>if u'=u then some (.val (some (0≤j∧j<xs.length)) (.one (.pd u (xs.getD j.toNat u.dflt)))) else none
          | none=>none
        | .one (.o k n)=>match tt.get e with
          | some ei=>some (.val (some (0≤j∧j<n)) (.one (.pr k j ei.size)))
          | none=>none
        | _=>none
      | .array n e=>match a with
        | .one (.p k off)=>match tt.get e with
          | some ei=>match j with
            | .ofNat m=>bif Nat.blt m n then some (.val none (.one (.p k (off+m*ei.size)))) else none
            | _=>none
          | none=>none
        | .one (.pd t' x)=>match tyOf tt 20 t with
          | some t''=>if t''=t' then (match (bif Nat.ble 3 n then tyOf tt 19 e else none) with
            | some u=>match zbF t' (zbm (List.replicate n u)) x with
              | some y=>some (.val (some (0≤j∧j<(n:Int))) (.one (.pd u ((chL u n y).getD j.toNat u.dflt))))
              | none=>none
            | none=>match j with
              | .ofNat m=>match zdP t' x m with
                | some y=>some (.val none (.one (.pd y.1 y.2)))
                | none=>none
              | _=>none) else none
          | none=>none
        | .one (.pr k jj sz)=>match tt.get e with
          | some ei=>match j with
            | .ofNat m=>bif Nat.blt m n then some (.val none (.one (.pq k jj sz (m*ei.size)))) else none
            | _=>none
          | none=>none
        | .one (.pq k jj sz off)=>match tt.get e with
          | some ei=>match j with
            | .ofNat m=>bif Nat.blt m n then some (.val none (.one (.pq k jj sz (off+m*ei.size)))) else none
            | _=>none
          | none=>none
        | _=>none
      | _=>none
    | none=>none
  | none=>none
def zhE (tt:TT) (t:Nat) (a i:SV):Option Eff:=
  match i.asI with
  | some j => match tt.get t with
    | some ti=>match ti.kind with
      | .array n e=>bif Nat.ble n 8 then (match tyOf tt 19 e with
        | some u=>match a.den (zbm (List.replicate n u)) with
          | some x=>some (.val (some (0≤j∧j<(n:Int))) (.one (.d u ((chL u n x).getD j.toNat u.dflt))))
          | none=>none
        | none=>none) else none
      | .str=>match a with
        | .one (.d .str s)=>some (.val (some (0≤j∧j<(ByteArray.size s:Int))) (.one (.d (.int .u8) (((ByteArray.data s).toList.getD j.toNat 0).toNat:Int))))
        | _=>none
      | _=>none
    | none=>none
  | none=>none
def zl8 (tt:TT) (t:Nat) (a:SV):Option Eff:=
  match tt.get t with
  | some ti=>match ti.kind with
    | .slice _=>match a with
      | .one (.d (.sl _) xs)=>some (.val none (.one (.d (.int .i64) (xs.length:Int))))
      | .one (.o _ n)=>some (.val none (.one (.d (.int .i64) (n:Int))))
      | .one (.v x)=>bif zah x then some (.val none (.one (.d (.int .i64) (0:Int)))) else none
      | .one (.d (.osl e) o)=>some (.val none (.one (.d (.int .i64) (List.length (α:=e.Den) (ol o):Int))))
      | _=>none
    | .str=>match a with
      | .one (.d .str s)=>some (.val none (.one (.d (.int .i64) (s.size:Int))))
      | _=>none
    | _=>none
  | none=>none
def zgO (isMax:Bool):Int→List SV→Option Int
  | x,[]=>some x
  | x,s::r=>match s.asI with
    | some y=>zgO isMax (bif isMax then (if y>x then y else x) else (if y<x then y else x)) r
    | none=>none
def ziS (st:St) (e:Ty) (s:SV):Option (Prop×List e.Den):=
  match s with
  | .one (.o k n)=>match zaS k st with
    | some r=>match zbF (.sl r.e) (.sl e) r.xs with
      | some ys=>some (n=r.xs.length,ys)
      | none=>none
    | none=>none
  | s=>match s.den (.sl e) with
    | some ys=>some (True,ys)
    | none=>none
def zga (tt : TT) (st:St) (t:Nat) (s x:SV):Option Eff:=
  match tt.get t with
  | some ti => match ti.kind with
    | .slice el => match tt.get el with
      | some ei => match s with
        | .one (.o k n)=>match zaS k st with
          | some r=>match ziS st r.e x with
            | some (ob,ys)=>bif Nat.beq r.el el&&Nat.beq r.e.size ei.size&&Nat.ble 1 ei.size&&Nat.ble ei.bytes 65536 then
                some (.app (some (n=r.xs.length∧ob∧r.xs.length+ys.length≤big)) (some k) el r.e (r.xs++ys)) else none
            | none=>none
          | none=>none
        | .one (.dfl e xs)=>match ziS st e x with
          | some (ob,ys)=>bif Nat.beq e.size ei.size&&Nat.ble 1 ei.size&&Nat.ble ei.bytes 65536 then
              some (.app (some (ob∧0<xs.length∧0<ys.length∧xs.length+ys.length≤big)) none el e (xs++ys)) else none
          | none=>none
        | .one (.v z)=>match tyOf tt 20 el with
          | some e=>match ziS st e x with
            | some (ob,ys)=>bif zah z&&Nat.beq e.size ei.size&&Nat.ble 1 ei.size&&Nat.ble ei.bytes 65536 then
                some (.app (some (ob∧ys.length≤big)) none el e ys) else none
            | none=>none
          | none=>none
        | _=>none
      | none=>none
    | _=>none
  | none=>none
def zcM:List S1→Nat→List S1→Option (List S1)
  | l,0,cs=>match l.drop cs.length with
    | r=>bif Nat.ble cs.length l.length then some (cs++r) else none
  | a::l,n+1,cs=>match zcM l n cs with
    | some r=>some (a::r)
    | none=>none
  | [],_+1,_=>none
def zcE (place:Nat→Option (Nat×Nat)) (st:St):List S1→List (Nat×Operand)→Option (List S1)
  | l,[]=>some l
  | l, (i, x)::r=>match place i with
    | some (off,n)=>match eval st x with
      | some s=>match s.cells with
        | some cs=>bif Nat.beq cs.length n then (match zcM l off cs with
          | some l'=>zcE place st l' r
          | none=>none) else none
        | none=>none
      | none=>none
    | none=>none
def zhi (tt:TT):TK→Nat→Option (Nat×Nat)
  | .struct fs,i=>match nth fs i with
    | some g=>match tt.get g.1 with
      | some gi=>some (g.2,gi.size)
      | none=>none
    | none=>none
  | .array n e,i=>match tt.get e with
    | some ei=>bif Nat.blt i n then some (i*ei.size,ei.size) else none
    | none=>none
  | _,_=>none
def zji (st:St) (e:Ty):Nat→List (Nat×Operand)→Option (List e.Den)
  | _,[]=>some []
  | n, (i,x)::r=>bif Nat.beq i n then (match eval st x with
    | some s=>match s.den e with
      | some y=>match zji st e (n+1) r with
        | some l=>some (y::l)
        | none=>none
      | none=>none
    | none=>none) else none
def optI:Option SV→Option (Option Int)
  | none=>some none
  | some s=>match s.asI with
    | some n=>some (some n)
    | none=>none
def cutD (u:Ty) (xs:List u.Den):Option Int→Option Int→Eff
  | none,none=>.val none (.one (.d (.sl u) xs))
  | some l,none=>.val (some (0≤l∧l≤(xs.length:Int))) (.one (.d (.sl u) (xs.drop l.toNat)))
  | none,some h=>.val (some (0≤h∧h≤(xs.length:Int))) (.one (.d (.sl u) (xs.take h.toNat)))
  | some l,some h=>.val (some (0≤l∧l≤h∧h≤(xs.length:Int))) (.one (.d (.sl u) ((xs.take h.toNat).drop l.toNat)))
def ziF (u:Ty):(n:Nat)→(zbm (List.replicate n u)).Den→List u.Den
  | 0,_=>[]
  | n+1,(x:u.Den×(zbm (List.replicate n u)).Den)=>x.1::ziF u n x.2
def cutS (s:ByteArray):Option Int→Option Int→Eff
  | none,none=>.val none (.one (.d .str (s.extract 0 s.size)))
  | some l,none=>.val (some (0≤l∧l≤(s.size:Int))) (.one (.d .str (s.extract l.toNat s.size)))
  | none,some h=>.val (some (0≤h∧h≤(s.size:Int))) (.one (.d .str (s.extract 0 h.toNat)))
  | some l,some h=>.val (some (0≤l∧l≤h∧h≤(s.size:Int))) (.one (.d .str (s.extract l.toNat h.toNat)))
def zhC (tt:TT) (t:TK) (x:SV) (lo hi:Option SV):Option Eff:=
  match t with
  | .slice el=>match tt.get el,tyOf tt 20 el with
    | some _,some u=>match x.den (.sl u),optI lo,optI hi with
      | some xs,some l,some h=>some (cutD u xs l h)
      | _,_,_=>none
    | _,_=>none
  | .array n el=>match x,lo,hi with
    | .one (.pd t y),none,none=>match tt.get el,tyOf tt 20 el with
      | some _,some u=>bif Nat.ble n 8 then (match zbF t (zbm (List.replicate n u)) y with
        | some z=>some (.val none (.one (.dfl u (ziF u n z))))
        | none=>none) else none
      | _,_=>none
    | _,_,_=>none
  | .str=>match x,optI lo,optI hi with
    | .one (.d .str s),some l,some h=>some (cutS s l h)
    | _,_,_=>none
  | _=>none
def zcR (st:St):Option Operand→Option (Option SV)
  | none=>some none
  | some o=>match eval st o with
    | some s=>some (some s)
    | none=>none
@[irreducible] def repl {α:Type} (n:Int) (x:α):List α:=List.replicate n.toNat x
theorem zhd {α:Type} (n:Int) (x:α):repl n x=List.replicate n.toNat x:=by unfold repl;rfl
theorem zcQ {α:Type} (n:Int) (x:α):(repl n x).length=n.toNat:=by rw[zhd,List.length_replicate]
def zgT (st:St):List Operand→Option (List (Nat×Nat))
  | []=>some []
  | o :: r=>match eval st o with
    | some (.one (.p k off))=>match zgT st r with
      | some l=>some ((k,off)::l)
      | none=>none
    | _=>none
def zix (st:St):List Operand→Option ((a:Ty)×a.Den)
  | []=>some ⟨.nil,()⟩
  | o :: r=>match eval st o with
    | some (.one (.pd t x))=>match zix st r with
      | some l=>some ⟨.cons (.ptr t) l.1,(x,l.2)⟩
      | none=>none
    | _=>none
def zna:(a:Ty)→a.Den→List SV
  | .cons (.ptr t) b,x=>.one (.pd t x.1)::zna b x.2
  | _,_=>[]
def zky:Ty→Bool
  | .cons (.ptr _) b=>zky b
  | .nil=>true
  | _=>false
def zlB (tt:TT) (op:BinOp) (xt:Nat) (s:SV) (y:Operand):Option Eff:=
  match s,y with
  | .one (.d .err b),.const .nilIface=>bif zfn tt xt then (match op with
      | .eql=>some (.val none (.one (.d .bool (!b))))
      | .neq=>some (.val none (.one (.d .bool b)))
      | _=>none) else none
  | _,_=>none
def zlE (on:Bool) (op:BinOp) (s u:SV):Option Eff:=
  bif on then (match s,u with
    | .one (.d (.flt k) m),.one (.d (.flt k') n)=>if k=k' then (match zgR op k m n with
      | some r=>some (.nan none k r)
      | none=>none) else none
    | _,_=>none) else none
def zoq (st:St) (isp:IoSpec):Option (List SV)→Option Eff
  | some (.one (.p k 0)::l)=>match za0 st k 0 isp.cs.length with
    | some ss=>match zbo st isp.cs ss with
      | some (p,x,os,ws)=>bif zed (k::(os++ws))&&Nat.ble 1 isp.cs.length then (match zas st isp.pats l with
        | some (y,[])=>some (.callio (some (p∧isp.pre x y)) k os ws isp.cs (isp.out x y))
        | _=>none) else none
      | none=>none
    | none=>none
  | _=>none
def zop (st:St) (vsp:VaSpec):Option (List SV)→Option Eff
  | some l=>match zgt l with
    | some (l,.agg ss)=>match zbo st vsp.cs ss with
      | some (p,x,[],ws)=>bif zed ws then (match zas st vsp.pats l with
        | some (y,[])=>some (.callva (some (p∧vsp.pre x y)) ws vsp.outs (vsp.out x y))
        | _=>none) else none
      | _=>none
    | _=>none
  | none=>none
def zl7 (c : Cfg) (st:St) (o:Oper):Option Eff:=
  match o.op with
  | .move x | .assign x=>match eval st x with
    | some s=>some (.val none s)
    | none=>none
  | .pick x a b=>match eval st x with
    | some (.one (.lb g))=>match eval st (bif g then a else b) with
      | some s=>some (.val none s)
      | none=>none
    | some (.one (.d .bool g))=>match eval st a,eval st b with
      | some (.one s),some (.one u)=>match s.asBool,u.asBool with
        | some p,some q=>some (.val none (.one (.d .bool (cond g p q))))
        | _,_=>none
      | _,_=>none
    | _=>none
  | .alloc el=>match obOf el c.obs with
    | some i=>some (.newob el i)
    | none => match c.tt.get el with
      | some i=>match zeV i.zero with
        | some s=>match s.cells with
          | some cs=>some (.new el cs)
          | none=>none
        | none=>none
      | none=>none
  | .box el x=>match eval st x with
    | some s=>match s.cells with
      | some cs=>some (.new el cs)
      | none=>none
    | none=>none
  | .build t ps=>match c.tt.get t with
    | some i=>bif i.kind.isAgg then (match zeV i.zero with
      | some (.agg z)=>match zcE (zhi c.tt i.kind) st z ps.toList with
        | some cs=>some (.val none (.agg cs))
        | none=>none
      | _=>none) else none
    | none=>none
  | .buildSlice t n ps=>match c.tt.get t with
    | some i => match i.kind with
      | .slice el=>match tyOf c.tt 20 el with
        | some e=>match c.tt.get el with
          | some ei=>match zji st e 0 ps.toList with
            | some xs=>bif Nat.beq xs.length n&&Nat.beq e.size ei.size&&Nat.ble n 4096&&Nat.ble ei.size 4096&&Nat.ble 1 ei.size then some (.newrow none el e xs) else none
            | none=>none
          | none=>none
        | none=>none
      | _=>none
    | none=>none
  | .load t a=>match eval st a with
    | some s=>zjj c.tt st t s
    | none=>none
  | .store t a x=>match eval st a,eval st x with
    | some s,some y=>zhB c.tt st t s y
    | _,_=>none
  | .nilCheck x=>match eval st x with
    | some (.one (.p k off))=>some (.val none (.one (.p k off)))
    | some (.one (.pd t y))=>some (.val none (.one (.pd t y)))
    | some (.one (.pr k i sz))=>some (.val none (.one (.pr k i sz)))
    | some (.one (.pq k i sz off))=>some (.val none (.one (.pq k i sz off)))
    | some (.one (.po off t y))=>some (.val none (.one (.po off t y)))
    | some (.one (.d (.ptr t) y))=>some (.val none (.one (.pd t y)))
    | _=>none
  | .binOp op xt x y _=>match eval st x,eval st y with
    | some s,some u=>match zlE c.nan op s u with
      | some e=>some e
      | none=>match zlB c.tt op xt s y with
        | some e=>some e
        | none=>zl9 c.tt c.eqs op xt s u
    | _,_=>none
  | .unOp op _ x=>match op,eval st x with
    | .not,some (.one (.lb b))=>some (.val none (.one (.lb (!b))))
    | .not,some (.one (.d .bool b))=>some (.val none (.one (.d .bool (!b))))
    | .neg,some (.one (.d (.int k) n))=>some (.val (some (inR k (-n))) (.one (.d (.int k) (-n))))
    | _,_=>none
  | .convert s d x=>match c.tt.get s,c.tt.get d,eval st x with
    | some si,some di,some (.one (.d (.int k) n))=>match si.kind,di.kind with
      | .int _,.int k'=>if k=k' then some (.val (some (inR k n)) (.one (.d (.int k) n))) else some (.val (some (inR k' n)) (.one (.d (.int k') n)))
      | .int _,.flt k'=>some (.val none (.one (.d (.flt k') (floatOfInt k' n))))
      | _,_=>none
    | some si,some di,some (.one (.d (.cpx k) z))=>match si.kind,di.kind with
      | .cpx _,.cpx k'=>some (.val (some ((f2f k z.1 k').isSome=true∧(f2f k z.2 k').isSome=true)) (.one (.d (.cpx k') ((f2f k z.1 k').getD 0,(f2f k z.2 k').getD 0))))
      | _,_=>none
    | some si,some di,some (.one (.d (.flt k) n))=>match si.kind,di.kind with
      | .flt _,.int k'=>some (.val (some ((floatToIntVal k n k').isSome=true)) (.one (.d (.int k') ((floatToIntVal k n k').getD 0))))
      | .flt _,.flt k'=>bif c.nan then some (.nan (some ((k.decode n).isNaN=true∨(f2f k n k').isSome=true)) k' (f2f k n k')) else some (.val (some ((f2f k n k').isSome=true)) (.one (.d (.flt k') ((f2f k n k').getD 0))))
      | _,_=>none
    | some si,some di,some (.one (.d .str s))=>match si.kind,di.kind with
      | .str,.slice el=>match c.tt.get el with
        | some ei=>match ei.kind with
          | .int .u8=>some (.alc (some (s.size≤big)) [{t:=.sl (.int .u8)}] (s.data.toList.map (fun b=>(b.toNat:Int)),()))
          | _=>none
        | none=>none
      | _,_=>none
    | some si,some di,some s=>match si.kind,di.kind with
      | .slice el,.str=>match c.tt.get el with
        | some ei=>match ei.kind with
          | .int .u8=>match ziS st (.int .u8) s with
            | some (ob,ys)=>some (.val (some ob) (.one (.d .str (strOfNums ys))))
            | none=>none
          | _=>none
        | none=>none
      | _,_=>none
    | _,_,_=>none
  | .makeSlice t l m=>match c.tt.get t with
    | some i => match i.kind with
      | .slice el=>match tyOf c.tt 20 el,c.tt.get el,eval st l,eval st m with
        | some e,some ei,some sl,some sm=>match zeV ei.zero,sl.asI,sm.asI with
          | some z,some n,some n'=>match z.den e with
            | some x=>bif Nat.beq e.size ei.size&&Nat.ble ei.bytes 65536&&Nat.ble 1 ei.size then some (.newrow (some (n'=n∧0≤n∧n≤(big:Int))) el e (repl n x)) else none
            | none=>none
          | _,_,_=>none
        | _,_,_,_=>none
      | _=>none
    | none=>none
  | .slice t x lo hi none=>match c.tt.get t,eval st x,zcR st lo,zcR st hi with
    | some i,some s,some l,some h=>zhC c.tt i.kind s l h
    | _,_,_,_=>none
  | .fieldAddr s x f=>match eval st x with
    | some a=>zdt c.tt s a f
    | none=>none
  | .field s x f=>match eval st x with
    | some a=>zhF c.tt s a f
    | none=>none
  | .indexAddr t x i=>match eval st x,eval st i with
    | some a,some j=>zds c.tt t a j
    | _,_=>none
  | .extract x i=>match eval st x with
    | some (.tup ss)=>match nth ss i with
      | some s=>some (.val none (.one s))
      | none=>none
    | _=>none
  | .call {callee:=.builtin .len,args,argTypes}=>match args.toList,argTypes.toList with
    | [x],[t]=>match eval st x with
      | some s=>zl8 c.tt t s
      | none=>none
    | _,_=>none
  | .call {callee:=.builtin .max,args,argTypes:=_}=>match zbp st args.toList with
    | some (s::r)=>match s.asI with
      | some x=>match zgO true x r with
        | some y=>some (.val none (.one (.d (.int .i64) y)))
        | none=>none
      | none=>none
    | _=>none
  | .call {callee:=.builtin .min,args,argTypes:=_}=>match zbp st args.toList with
    | some (s::r)=>match s.asI with
      | some x=>match zgO false x r with
        | some y=>some (.val none (.one (.d (.int .i64) y)))
        | none=>none
      | none=>none
    | _=>none
  | .call {callee:=.builtin .append,args,argTypes}=>match args.toList,argTypes.toList with
    | [s,x],[t,t']=>match eval st s,eval st x with
      | some a,some b=>bif Nat.beq t t' then zga c.tt st t a b else none
      | _,_=>none
    | _,_=>none
  | .call { callee:=.value f,args,argTypes:=_}=>match eval st f with
    | some (.one (.v (.func (.func g) fa ca)))=>bif fa.size == 0&&ca.size == 0 then (match zmZ g c.ios with
      | some isp=>zoq st isp (zbp st args.toList)
      | none=>match zlS c o.dst g with
      | some vsp=>zop st vsp (zbp st args.toList)
      | none=>match zc1 g c.ctr with
      | some sp=>match zbp st args.toList with
        | some l=>match zas st sp.pats l with
          | some (x,oks)=>some (.call (some (sp.pre x)) oks sp.res (sp.f x))
          | none=>none
        | none=>none
      | none => bif memN g c.ext then (match zbp st args.toList with
        | some [.one (.d (.flt .f64) x)]=>some (.val (some ((FloatKind.f64.format.sqrt x).isSome=true)) (.one (.d (.flt .f64) ((FloatKind.f64.format.sqrt x).getD 0))))
        | _ => none) else (match zlT g c.extb with
          | some k=>match zbp st args.toList with
            | some [.one (.d (.flt k') x)]=>if k=k' then some (.val none (.one (.d (.int (bitK k)) (x:Int)))) else none
            | _=>none
          | none=>none)) else none
    | some (.one (.d (.clo g b) y))=>bif zky b then (match zc1 g c.ctr with
      | some sp=>match zbp st args.toList with
        | some l=>match zas st sp.pats (l++zna b y) with
          | some (x,oks)=>some (.call (some (sp.pre x)) oks sp.res (sp.f x))
          | none=>none
        | none=>none
      | none=>none) else none
    | _=>none
  | .makeFunc (.func g) fs cs=>match zlU g c.clos with
    | some _=>bif fs.size == 0 then (match zix st cs.toList with
      | some l=>some (.val none (.one (.d (.clo g l.1) l.2)))
      | none=>none) else none
    | none=>match zgT st fs.toList,zgT st cs.toList with
      | some l,some m=>some (.val none (.one (.fn g l m)))
      | _,_=>none
  | .call {callee:=.builtin .real,args,argTypes:=_}=>match zbp st args.toList with
    | some [.one (.d (.cpx k) z)]=>some (.val none (.one (.d (.flt k) z.1)))
    | _=>none
  | .call {callee:=.builtin .imag,args,argTypes:=_}=>match zbp st args.toList with
    | some [.one (.d (.cpx k) z)]=>some (.val none (.one (.d (.flt k) z.2)))
    | _=>none
  | .call {callee:=.builtin .complex,args,argTypes:=_}=>match zbp st args.toList with
    | some [.one (.d (.flt k) x),.one (.d (.flt k') y)]=>if k=k' then some (.val none (.one (.d (.cpx k) (x,y)))) else none
    | _=>none
  | .index t x i=>match eval st x,eval st i with
    | some a,some j=>zhE c.tt t a j
    | _,_=>none
  | _=>none
theorem zbZ {c:Cfg} {st:St} {o:Oper} {e:Eff} (h:zl7 c st o=some e):∀d,o.op≠.defer d:=by
  intro d hd
  unfold zl7 at h
  rw[hd] at h
  cases h
structure Res where
  ob:OP
  add:St
  kill:Kill
def zbQ (k:Nat):Nat→List S1→St
  | _,[]=>[]
  | off,s::r=>.cell k off s::zbQ k (off+1) r
def zc6 (k:Nat):Nat→List S1→List (Nat×Nat)
  | _,[]=>[]
  | off,_::r=>(k,off)::zc6 k (off+1) r
def zcP (d:Nat):(cs:List RC)→(zac cs).Den→Nat→List S1×(St×List Nat)
  | [],_,_=>([],([],[]))
  | c::r,x,j=>
    let (ss,fs,ks):=zcP d r x.2 (j+1)
    match c with
    | {own:=none,t:=t}=>(.d t x.1::ss,fs,ks)
    | {own:=some el,t:=.sl e}=>(.o (d+100000*j) (List.length (α:=e.Den) x.1)::ss,.row (d+100000*j) el e x.1::fs,(d+100000*j)::ks)
    | {own:=some _,t:=t}=>(.d t x.1::ss,fs,ks)
def zaA (d:Nat):(cs:List IC)→(icTy cs).Den→List Nat→Nat→List S1×(St×List Nat)
  | [],_,_,_=>([],([],[]))
  | .dat t::r,x,os,j=>
    let (ss,fs,ks):=zaA d r x.2 os (j+1)
    (.d t x.1::ss,fs,ks)
  | .ob _::r,x,k::os,j=>
    let (ss,fs,ks):=zaA d r x os (j+1)
    (.p k 0::ss,fs,ks)
  | .ob _::r,x,[],j=>
    let (ss,fs,ks):=zaA d r x [] (j+1)
    (.u::ss,fs,ks)
  | .own el e::r,x,os,j=>
    let (ss,fs,ks):=zaA d r x.2 os (j+1)
    (.o (d+100000*j) (List.length (α:=e.Den) x.1)::ss,.row (d+100000*j) el e x.1::fs,(d+100000*j)::ks)
def zeO (k:Nat):Nat:=k+5000000
def dstL:Option Nat→List Nat
  | none=>[]
  | some d=>[d]
def anyN (ks:List Nat):List Nat→Bool
  | []=>false
  | k::r=>memN k ks || anyN ks r
def zko (dst:Option Nat) (ob:OP) (k:Nat) (oks wks:List Nat) (cs:List IC) (x:(icTy cs).Den):Option Res:=
  bif anyN (k::oks) (zaA (zeO k) cs x oks 0).2.2 then none
  else some {ob:=ob,add:=zbQ k 0 (zaA (zeO k) cs x oks 0).1++(zaA (zeO k) cs x oks 0).2.1,kill:={slots:=dstL dst,keys:=wks++(zaA (zeO k) cs x oks 0).2.2,allof:=[k],cont:=oks}}
def zfm:List S1→SV
  | [s]=>.one s
  | l=>.tup l
def zkK (dst:Option Nat) (e:Eff):Option Res:=
  match dst with
  | none=>match e with
    | .st k off cs=>some {ob:=none,add:=zbQ k off cs,kill:={cells:=zc6 k off cs,rows:=[k]}}
    | .strow ob k el e xs=>some {ob:=ob,add:=[.row k el e xs],kill:={allof:=[k]}}
    | .callio ob k oks wks cs x=>zko none ob k oks wks cs x
    | _=>none
  | some d=>match e with
    | .val ob s=>some {ob:=ob,add:=[.slot d s],kill:={slots:=[d]}}
    | .nan ob k r=>some {ob:=ob,add:=[.slot d (.one (.fo k r))],kill:={slots:=[d]}}
    | .new _ cs=>bif anyS (S1.ment [d]) cs then none else some {ob:=none,add:=.slot d (.one (.p d 0))::zbQ d 0 cs,kill:={slots:=[d],keys:=[d]}}
    | .newob _ i=>some {ob:=none,add:=[.slot d (.one (.p d 0)),.ob d i],kill:={slots:=[d],keys:=[d]}}
    | .newrow ob el e xs=>some {ob:=ob,add:=[.slot d (.one (.o d xs.length)),.row d el e xs],kill:={slots:=[d],keys:=[d]}}
    | .app ob k el e xs=>some {ob:=ob,add:=[.slot d (.one (.o d xs.length)),.row d el e xs],kill:={slots:=[d],keys:=(match k with|some k=>[d,k]|none=>[d])}}
    | .call ob oks cs x=>some {ob:=ob,add:=.slot d (zfm (zcP d cs x 0).1)::(zcP d cs x 0).2.1,kill:={slots:=[d],keys:=(zcP d cs x 0).2.2,cont:=oks}}
    | .callio ob k oks wks cs x=>zko (some d) ob k oks wks cs x
    | .alc ob cs x=>some {ob:=ob,add:=.slot d (zfm (zcP d cs x 0).1)::(zcP d cs x 0).2.1,kill:={slots:=[d],keys:=(zcP d cs x 0).2.2,cont:=[]}}
    | .callva ob wks cs x=>some {ob:=ob,add:=.slot d (.agg (zaA d cs x [] 0).1)::(zaA d cs x [] 0).2.1,kill:={slots:=[d],keys:=wks++(zaA d cs x [] 0).2.2}}
    | _=>none
def zdS (c:Cfg) (st:St) (o:Oper):Option Res:=
  match zl7 c st o with
  | some e=>match o.dst with
    | none=>zkK none e
    | some d=>bif Nat.blt d c.nt then zkK (some d) e else none
  | none=>none
def after (st:St) (r:Res):St:=r.add++filt r.kill.surv st
end Go.Eng
set_option linter.all false
namespace Go.Eng
abbrev View:=Nat→Array Value→Prop
abbrev lget {α:Type} (l:List α) (i:Nat):Option α:=l[i]?
def Rep (V:View):(t:Ty)→t.Den→List Value→Prop
  | .int k,x,l=>l=[.int k x]
  | .bool,x,l=>l=[.bool x]
  | .str,x,l=>l=[.string x]
  | .flt k,x,l=>l=[.float k x]
  | .cpx k,x,l=>l=[.complex k x.1 x.2]
  | .sl e,xs,l=>∃(a:Option Addr) (cap:Nat),l=[.slice a (List.length (α:=e.Den) xs) cap]∧List.length (α:=e.Den) xs≤cap∧cap≤maxLen∧(a=none→xs=[]∧cap=0)∧
      ∀ ad,a=some ad→xs≠[]→ad.spot=none∧∃c,V ad.block c∧ad.off+List.length (α:=e.Den) xs*e.size≤c.size∧
        ∀(i:Nat) (x:e.Den),lget (α:=e.Den) xs i=some x→Rep V e x ((c.toList.drop (ad.off+i*e.size)).take e.size)
  | .nil,_,l=>l=[]
  | .cons a b,x,l=>∃l1 l2,l=l1++l2∧Rep V a x.1 l1∧Rep V b x.2 l2
  | .ptr t,x,l=>∃ad c,l=[.pointer (some ad)]∧ad.spot=none∧V ad.block c∧ad.off+t.size≤c.size∧Rep V t x ((c.toList.drop ad.off).take t.size)
  | .clo g a,x,l=>∃cv:List Value,l=[.func (.func g) #[] cv.toArray]∧Rep V a x cv
  | .fnl f,_,l=>l=[.func (.func f) #[] #[]]
  | .err,(b:Bool),l=>(b=false∧l=[.nilIface])∨(b=true∧∃t v,l=[.iface t v])
  | .osl e,o,l=>(o=none∧l=[.slice none 0 0])∨∃xs:List e.Den,o=some xs∧xs≠[]∧∃(a:Option Addr) (cap:Nat),l=[.slice a (List.length (α:=e.Den) xs) cap]∧List.length (α:=e.Den) xs≤cap∧cap≤maxLen∧(a=none→xs=[]∧cap=0)∧
      ∀ ad,a=some ad→xs≠[]→ad.spot=none∧∃c,V ad.block c∧ad.off+List.length (α:=e.Den) xs*e.size≤c.size∧
        ∀(i:Nat) (x:e.Den),lget (α:=e.Den) xs i=some x→Rep V e x ((c.toList.drop (ad.off+i*e.size)).take e.size)
theorem Rep.osl_sl {V:View} {e:Ty} {o:Option (List e.Den)} {l:List Value} (h:Rep V (.osl e) o l):Rep V (.sl e) (ol o) l:=by
  rcases h with ⟨rfl,rfl⟩|⟨xs,rfl,_,h⟩
  · exact⟨none,0,rfl,Nat.le_refl _,Nat.zero_le _,fun _=>⟨rfl,rfl⟩,fun _ h=>by cases h⟩
  · exact h
theorem Rep.sl_osl {V:View} {e:Ty} {xs:List e.Den} {l:List Value} (hn:xs≠[]) (h:Rep V (.sl e) xs l):Rep V (.osl e) (some xs) l:=.inr ⟨xs,rfl,hn,h⟩
theorem Rep.mono {V V':View} (h:∀b c,V b c→V' b c):∀(t:Ty) (x:t.Den) (l:List Value),Rep V t x l→Rep V' t x l
  | .int _,_,_,H=>H
  | .bool,_,_,H=>H
  | .str,_,_,H=>H
  | .flt _,_,_,H=>H
  | .cpx _,_,_,H=>H
  | .nil,_,_,H=>H
  | .cons a b,x,l,⟨l1,l2,e,h1,h2⟩=>⟨l1,l2,e,Rep.mono h a _ _ h1,Rep.mono h b _ _ h2⟩
  | .sl e,xs,l,⟨a,cap,e1,e2,e3,e4,e5⟩=>⟨a,cap,e1,e2,e3,e4,fun ad ha hne=>by
      obtain⟨hs,c,hV,hsz,hi⟩:=e5 ad ha hne
      exact⟨hs,c,h _ _ hV,hsz,fun i x hx=>Rep.mono h e _ _ (hi i x hx)⟩⟩
  | .ptr t,x,l,⟨ad,c,e1,e2,e3,e4,e5⟩=>⟨ad,c,e1,e2,h _ _ e3,e4,Rep.mono h t _ _ e5⟩
  | .clo g a,x,l,⟨cv,e1,e2⟩=>⟨cv,e1,Rep.mono h a _ _ e2⟩
  | .fnl _,_,_,H=>H
  | .err,_,_,H=>H
  | .osl e,o,l,H=>H.imp id fun⟨xs,e0,e00,a,cap,e1,e2,e3,e4,e5⟩=>⟨xs,e0,e00,a,cap,e1,e2,e3,e4,fun ad ha hne=>by
      obtain⟨hs,c,hV,hsz,hi⟩:=e5 ad ha hne
      exact⟨hs,c,h _ _ hV,hsz,fun i x hx=>Rep.mono h e _ _ (hi i x hx)⟩⟩
theorem Rep.length {V:View}:∀(t:Ty) (x:t.Den) (l:List Value),Rep V t x l→l.length=t.size
  | .int _,_,_,H=>by subst H;rfl
  | .bool,_,_,H=>by subst H;rfl
  | .str,_,_,H=>by subst H;rfl
  | .flt _,_,_,H=>by subst H;rfl
  | .cpx _,_,_,H=>by subst H;rfl
  | .nil,_,_,H=>by subst H;rfl
  | .cons a b,x,l,⟨l1,l2,e,h1,h2⟩=>by subst e;simp[Ty.size,Rep.length a _ _ h1,Rep.length b _ _ h2]
  | .sl e,xs,l,⟨a,cap,e1,_⟩=>by subst e1;rfl
  | .ptr t,x,l,⟨ad,c,e1,_⟩=>by subst e1;rfl
  | .clo g a,x,l,⟨cv,e1,_⟩=>by subst e1;rfl
  | .fnl _,_,_,H=>by subst H;rfl
  | .err,_,_,H=>by rcases H with ⟨_,h⟩|⟨_,_,_,h⟩<;>(subst h;rfl)
  | .osl e,o,l,H=>by
    rcases H with ⟨_,e1⟩|⟨xs,_,_,a,cap,e1,_⟩<;>(subst e1;rfl)
theorem Rep.oneCell {V:View}:∀(t:Ty) (x:t.Den) (l:List Value),Rep V t x l→∀v∈l,v.oneCell'=true
  | .int _,_,_,H=>by subst H;simp[Value.oneCell']
  | .bool,_,_,H=>by subst H;simp[Value.oneCell']
  | .str,_,_,H=>by subst H;simp[Value.oneCell']
  | .flt _,_,_,H=>by subst H;simp[Value.oneCell']
  | .cpx _,_,_,H=>by subst H;simp[Value.oneCell']
  | .nil,_,_,H=>by subst H;simp
  | .cons a b,x,l,⟨l1,l2,e,h1,h2⟩=>by
      subst e
      intro v hv
      rcases List.mem_append.1 hv with h|h
      · exact Rep.oneCell a _ _ h1 v h
      · exact Rep.oneCell b _ _ h2 v h
  | .sl e,xs,l,⟨a,cap,e1,_⟩=>by subst e1;simp[Value.oneCell']
  | .ptr t,x,l,⟨ad,c,e1,_⟩=>by subst e1;simp[Value.oneCell']
  | .clo g a,x,l,⟨cv,e1,_⟩=>by subst e1;simp[Value.oneCell']
  | .fnl _,_,_,H=>by subst H;simp[Value.oneCell']
  | .err,_,_,H=>by rcases H with ⟨_,h⟩|⟨_,_,_,h⟩<;>(subst h;simp[Value.oneCell'])
  | .osl e,o,l,H=>by
    rcases H with ⟨_,e1⟩|⟨xs,_,_,a,cap,e1,_⟩<;>(subst e1;simp[Value.oneCell'])
def RepV (V:View) (t:Ty) (x:t.Den) (v:Value):Prop:=
  ∃l,Rep V t x l∧((t.agg=true∧v=.agg l.toArray)∨(t.agg=false∧l=[v]))
theorem RepV.mono {V V':View} (h:∀b c,V b c→V' b c) {t:Ty} {x:t.Den} {v:Value} (H:RepV V t x v):RepV V' t x v:=
  let ⟨l,h1,h2⟩:=H
  ⟨l,Rep.mono h _ _ _ h1,h2⟩
theorem RepV.cells {V:View} {t:Ty} {x:t.Den} {v:Value} (H:RepV V t x v):Rep V t x v.cells.toList:=by
  obtain⟨l,h1,⟨_,rfl⟩|⟨ha,rfl⟩⟩:=H
  · simpa [Value.cells] using h1
  · have:=Rep.oneCell _ _ _ h1 v (by simp)
    cases v<;>first|(simp[Value.oneCell'] at this;done)|simpa [Value.cells] using h1
abbrev Eta:=Nat→Option (Nat×Nat)
def ptrL (η:Eta):List (Nat×Nat)→List Value→Prop
  | [],[]=>True
  | p::r,v::l=>(∃b c,η p.1=some (b,c)∧v=.pointer (some ⟨b,p.2,none⟩))∧ptrL η r l
  | _,_=>False
def NaNb:FloatKind→Nat→Prop
  | .f32,n=>2139095040<n % 2147483648∧n<4294967296
  | .f64,n=>9218868437227405312<n % 9223372036854775808∧n<18446744073709551616
def fok (k:FloatKind) (r:Option Nat) (n:Nat):Prop:=r=some n∨(r=none∧NaNb k n)
def zaK (V:View) (η:Eta):S1→Value→Prop
  | .d t x,v=>RepV V t x v
  | .pw t x,v=>∃b c,v=.pointer (some ⟨b,0,none⟩)∧V b c∧c.size=t.size∧Rep V t x c.toList
  | .dfl u xs,v=>RepV V (.sl u) xs v∧∃ad,v=.slice ad (List.length (α:=u.Den) xs) (List.length (α:=u.Den) xs)
  | .lb b,v=>v=.bool b
  | .v x,v=>v=x
  | .p k off,v=>∃b c,η k=some (b,c)∧v=.pointer (some ⟨b,off,none⟩)
  | .pd t x,v=>∃ad c,v=.pointer (some ad)∧ad.spot=none∧V ad.block c∧ad.off+t.size≤c.size∧Rep V t x ((c.toList.drop ad.off).take t.size)
  | .po off t x,v=>∃ad c,v=.pointer (some ad)∧ad.spot=none∧V ad.block c∧ad.off+off+t.size≤c.size∧Rep V t x ((c.toList.drop (ad.off+off)).take t.size)
  | .pr k i sz,v=>0≤i∧∃b c,η k=some (b,c)∧v=.pointer (some ⟨b,i.toNat*sz,none⟩)
  | .o k n,v=>(η k=none∧n=0∧v=.slice none 0 0)∨∃b c,η k=some (b,c)∧v=.slice (some ⟨b,0,none⟩) n c∧n≤c
  | .u,_=>True
  | .pq k i sz off,v=>0≤i∧∃b c,η k=some (b,c)∧v=.pointer (some ⟨b,i.toNat*sz+off,none⟩)
  | .fo k r,v=>∃n,v=.float k n∧fok k r n
  | .fn g fs cs,v=>∃fv cv:List Value,v=.func (.func g) fv.toArray cv.toArray∧ptrL η fs fv∧ptrL η cs cv
def zat (V:View) (η:Eta):List S1→List Value→Prop
  | [],[]=>True
  | s::r,v::l=>zaK V η s v∧v.oneCell'=true∧zat V η r l
  | _,_=>False
def zcz (V:View) (η:Eta):List S1→List Value→Prop
  | [],[]=>True
  | s::r,v::l=>zaK V η s v∧zcz V η r l
  | _,_=>False
def zai (V:View) (η:Eta):SV→Value→Prop
  | .one s,v=>zaK V η s v
  | .agg cs,v=>∃vs,v=.agg vs.toArray∧zat V η cs vs
  | .tup ss,v=>∃vs,v=.tuple vs.toArray∧zcz V η ss vs
def zcH (V:View) (e:Ty) (xs:List e.Den) (c:Nat) (cur:Array Value):Prop:=
  cur.size=c*e.size∧xs.length≤c∧c≤maxLen∧∀(i:Nat) (x:e.Den),xs[i]?=some x→Rep V e x ((cur.toList.drop (i*e.size)).take e.size)
structure EnvX where
  mw:Nat→Prop:=fun _=>False
  eta0:Eta:=fun _=>none
  nd : Bool := false      -- no call is put off
structure Env where
  P:Program
  M : Nat → Prop            -- blocks of the callers' own, which may change between calls
  mu : Nat → Prop          -- those of them that this body may write
  w0:World
  OB : Nat → Obj → Prop     -- what is kept of objects that are handed by pointer
  x:EnvX:={}
  pins : List (Nat × Obj) := []   -- blocks that must stay as they are, and are no part of any data
def Env.low (E:Env) (b:Nat):Prop:=E.w0.heap.size≤b∨E.x.mw b
def Env.Mp (E:Env) (b:Nat):Prop:=E.M b∨∃o,(b,o)∈E.pins
def vw (E:Env) (η:Eta) (w:World):View:=fun b c=>¬E.Mp b∧(∀k n,η k≠some (b,n))∧∃el f,w.heap[b]?=some (.cells c el f)
def sval (a:Act) (t:Nat):Value:=bif Nat.blt t 1000000 then a.tmps.getD t undef else .pointer (some ⟨t - 1000000,0,none⟩)
theorem zjl {m n:Nat} (h:m<n):Nat.blt m n=true:=Nat.ble_eq_true_of_le h
theorem zpW {m n:Nat} (h:n≤m):Nat.blt m n=false:=by
  cases hb:Nat.blt m n with
  | false=>rfl
  | true=>exact absurd (Nat.le_of_ble_eq_true hb) (Nat.not_le_of_lt (Nat.lt_succ_of_le h))
theorem zpX {m n:Nat} (h:Nat.blt m n=true):m<n:=Nat.le_of_ble_eq_true h
theorem zbv {a:Act} {t:Nat} (h:t<1000000):sval a t=a.tmps.getD t undef:=by
  unfold sval
  rw[zjl h];rfl
theorem zfy (a:Act) (g:Nat):sval a (1000000+g)=.pointer (some ⟨g,0,none⟩):=by
  unfold sval
  rw[zpW (Nat.le_add_right _ _)]
  show Value.pointer (some ⟨1000000+g - 1000000,0,none⟩)=_
  rw[Nat.add_sub_cancel_left]
theorem zey {a a':Act} {t:Nat} (h:a'.tmps.getD t undef=a.tmps.getD t undef):sval a' t=sval a t:=by
  unfold sval
  rw[h]
def Fact.holds (E:Env) (η:Eta) (a:Act) (w:World):Fact→Prop
  | .slot t s=>zai (vw E η w) η s (sval a t)
  | .cell k off s=>∃b c cur el v,E.low b∧η k=some (b,c)∧w.heap[b]?=some (.cells cur el (0,0))∧cur[off]?=some v∧v.oneCell'=true∧zaK (vw E η w) η s v
  | .row k el e xs=>(η k=none∧xs=[])∨∃b c cur,E.low b∧η k=some (b,c)∧w.heap[b]?=some (.cells cur el (0,0))∧zcH (vw E η w) e xs c cur
  | .ob k i=>∃b c o,η k=some (b,c)∧w.heap[b]?=some o∧E.OB i o
  | .fix k=>η k=E.x.eta0 k
def mkD (D:Nat):Deferred:={target:=.collected D,args:=#[]}
def zgs (E:Env) (η:Eta) (a:Act) (w:World):Prop:=
  (∃ms:List Nat,a.defers=ms.map mkD∧ms.Nodup∧∀D∈ms,E.w0.heap.size≤D∧w.heap[D]?=some (.deferred (some []))∧∀k c,η k≠some (D,c))∧
  ∀p∈E.pins,E.w0.heap.size≤p.1∧w.heap[p.1]?=some p.2∧∀k c,η k≠some (p.1,c)
theorem zgs.mono {E:Env} {η η':Eta} {a a':Act} {w w':World} (h:zgs E η a w) (hd:a'.defers=a.defers)
    (hw:∀D o,w.heap[D]?=some o→(∀k c,η k≠some (D,c))→w'.heap[D]?=some o)
    (hη:∀k b c,η' k=some (b,c)→(∃k' c',η k'=some (b,c'))∨w.heap.size≤b):zgs E η' a' w':=by
  obtain⟨⟨ms,h1,h2,h3⟩,h4⟩:=h
  have free:∀D o,w.heap[D]?=some o→(∀k c,η k≠some (D,c))→∀k c,η' k≠some (D,c):=fun D o q2 q3 k c hk=>by
    rcases hη k D c hk with ⟨k',c',h⟩|h
    · exact q3 k' c' h
    · have:=(Array.getElem?_eq_some_iff.1 q2).1
      omega
  refine⟨⟨ms,hd.trans h1,h2,fun D hD=>?_⟩,fun p hp=>?_⟩
  · obtain⟨q1,q2,q3⟩:=h3 D hD
    exact⟨q1,hw D _ q2 q3,free D _ q2 q3⟩
  · obtain⟨q1,q2,q4⟩:=h4 p hp
    exact⟨q1,hw _ _ q2 q4,free _ _ q2 q4⟩
structure Good (E:Env) (nt:Nat) (η:Eta) (a:Act) (w:World):Prop where
  size:a.tmps.size=nt
  lim:nt≤1000000
  defers:zgs E η a w
  os:w.os=E.w0.os
  tape:w.tape=E.w0.tape
  output:w.output=E.w0.output
  grow:E.w0.heap.size≤w.heap.size
  keep:∀b,b<E.w0.heap.size→¬E.mu b→¬E.x.mw b→w.heap[b]?=E.w0.heap[b]?
  own:∀k b c,η k=some (b,c)→b<w.heap.size∧(E.low b∨E.mu b)
  dis:∀b,E.mu b→¬E.low b
  inj:∀k k' b c c',η k=some (b,c)→η k'=some (b,c')→k=k'
  old:∀b,E.M b→¬E.low b
  obkeep:∀b i o,b<E.w0.heap.size→E.mu b→E.w0.heap[b]?=some o→E.OB i o→∃o',w.heap[b]?=some o'∧E.OB i o'
  nd:E.x.nd=true→a.defers=[]:=by intro h;first|(cases h;done)|(rename Good _ _ _ _ _=>gg;exact gg.nd h)
def Rel (E:Env) (nt:Nat) (F:Fact→Prop) (a:Act) (w:World):Prop:=
  ∃η,Good E nt η a w∧∀f,F f→f.holds E η a w
theorem Rel.weaken {E:Env} {nt:Nat} {F F':Fact→Prop} {a:Act} {w:World} (h:Rel E nt F a w) (hF:∀f,F' f→F f):Rel E nt F' a w:=
  let ⟨η,g,H⟩:=h
  ⟨η,g,fun f hf=>H f (hF f hf)⟩
theorem zan {n:Nat}:∀ {l:List Nat},memN n l=true↔n∈l
  | []=>by simp[memN]
  | m :: r=>by
    simp only[memN]
    cases h:Nat.beq m n with
    | true=>simp[Nat.eq_of_beq_eq_true h]
    | false=>
      have:m≠n:=Nat.ne_of_beq_eq_false h
      simp[zan (l:=r),Ne.symm this]
theorem zeg {k off:Nat}:∀ {l:List (Nat×Nat)},memC k off l=true↔(k,off)∈l
  | []=>by simp[memC]
  | m :: r=>by
    obtain⟨m1,m2⟩:=m
    simp only[memC]
    cases h:(Nat.beq m1 k&&Nat.beq m2 off) with
    | true=>
      rw[Bool.and_eq_true] at h
      simp[Nat.eq_of_beq_eq_true h.1,Nat.eq_of_beq_eq_true h.2]
    | false=>
      have:¬(k=m1∧off=m2):=by
        rintro⟨rfl,rfl⟩
        simp at h
      simp[zeg (l:=r),this]
theorem zfL {η η':Eta} {ks:List Nat} (hη:∀k,k ∉ ks→η' k=η k):∀ {ps:List (Nat×Nat)} {vs:List Value},anyK ks ps=false→ptrL η ps vs→ptrL η' ps vs
  | [],[],_,h=>h
  | [],_::_,_,h=>h.elim
  | _::_,[],_,h=>h.elim
  | p::r,v::l,hm,⟨h1,h2⟩=>by
    simp only[anyK,Bool.or_eq_false_iff] at hm
    have hk:p.1 ∉ ks:=fun hc=>by rw[zan.2 hc] at hm;cases hm.1
    exact⟨by rw[hη p.1 hk];exact h1,zfL hη hm.2 h2⟩
theorem zap {V V':View} {η η':Eta} {ks:List Nat} (hv:∀b c,V b c→V' b c) (hη:∀k,k ∉ ks→η' k=η k) {s:S1} {v:Value}
    (hm:s.ment ks=false) (h:zaK V η s v):zaK V' η' s v:=by
  cases s with
  | d t x=>exact RepV.mono hv h
  | dfl u xs=>exact⟨RepV.mono hv h.1,h.2⟩
  | pw t x=>obtain⟨b,c,h1,h2,h3,h4⟩:=h;exact⟨b,c,h1,hv _ _ h2,h3,Rep.mono hv _ _ _ h4⟩
  | lb b=>exact h
  | v x=>exact h
  | p k off=>
    have hk:k ∉ ks:=fun hc=>by rw[S1.ment,zan.2 hc] at hm;cases hm
    simpa only [zaK,hη k hk] using h
  | pd t x=>
    obtain⟨ad,c,h1,h2,h3,h4,h5⟩:=h
    exact⟨ad,c,h1,h2,hv _ _ h3,h4,Rep.mono hv _ _ _ h5⟩
  | po off t x=>
    obtain⟨ad,c,h1,h2,h3,h4,h5⟩:=h
    exact⟨ad,c,h1,h2,hv _ _ h3,h4,Rep.mono hv _ _ _ h5⟩
  | pr k i sz=>
    have hk:k ∉ ks:=fun hc=>by rw[S1.ment,zan.2 hc] at hm;cases hm
    simpa only [zaK,hη k hk] using h
  | pq k i sz off=>
    have hk:k ∉ ks:=fun hc=>by rw[S1.ment,zan.2 hc] at hm;cases hm
    simpa only [zaK,hη k hk] using h
  | fo k r=>exact h
  | o k n=>
    have hk:k ∉ ks:=fun hc=>by rw[S1.ment,zan.2 hc] at hm;cases hm
    simpa only [zaK,hη k hk] using h
  | u=>trivial
  | fn g fs cs=>
    simp only[S1.ment,Bool.or_eq_false_iff] at hm
    obtain⟨fv,cv,h1,h2,h3⟩:=h
    exact⟨fv,cv,h1,zfL hη hm.1 h2,zfL hη hm.2 h3⟩
theorem zcZ {V V':View} {η η':Eta} {ks:List Nat} (hv:∀b c,V b c→V' b c) (hη:∀k,k ∉ ks→η' k=η k) :
    ∀ {cs:List S1} {vs:List Value},anyS (S1.ment ks) cs=false→zat V η cs vs→zat V' η' cs vs
  | [],[],_,h=>h
  | [],_::_,_,h=>h.elim
  | _::_,[],_,h=>h.elim
  | s::r,v::l,hm,⟨h1,h2,h3⟩=>by
    rw[anyS,Bool.or_eq_false_iff] at hm
    exact⟨zap hv hη hm.1 h1,h2,zcZ hv hη hm.2 h3⟩
theorem zf1 {V V':View} {η η':Eta} {ks:List Nat} (hv:∀b c,V b c→V' b c) (hη:∀k,k ∉ ks→η' k=η k) :
    ∀ {cs:List S1} {vs:List Value},anyS (S1.ment ks) cs=false→zcz V η cs vs→zcz V' η' cs vs
  | [],[],_,h=>h
  | [],_::_,_,h=>h.elim
  | _::_,[],_,h=>h.elim
  | s::r,v::l,hm,⟨h1,h3⟩=>by
    rw[anyS,Bool.or_eq_false_iff] at hm
    exact⟨zap hv hη hm.1 h1,zf1 hv hη hm.2 h3⟩
theorem zcd {V V':View} {η η':Eta} {ks:List Nat} (hv:∀b c,V b c→V' b c) (hη:∀k,k ∉ ks→η' k=η k) {s:SV} {v:Value}
    (hm:s.ment ks=false) (h:zai V η s v):zai V' η' s v:=by
  cases s with
  | one s=>exact zap hv hη hm h
  | agg cs=>obtain⟨vs,rfl,h⟩:=h;exact⟨vs,rfl,zcZ hv hη hm h⟩
  | tup cs=>obtain⟨vs,rfl,h⟩:=h;exact⟨vs,rfl,zf1 hv hη hm h⟩
theorem zcH.mono {V V':View} (hv:∀b c,V b c→V' b c) {e:Ty} {xs:List e.Den} {c:Nat} {cur:Array Value} (h:zcH V e xs c cur):zcH V' e xs c cur:=
  ⟨h.1,h.2.1,h.2.2.1,fun i x hx=>Rep.mono hv _ _ _ (h.2.2.2 i x hx)⟩
structure Keeps (E:Env) (η η':Eta) (a a':Act) (w w':World) (K:Kill):Prop where
  view:∀b c,vw E η w b c→vw E η' w' b c
  eta:∀k,k ∉ K.keys→η' k=η k
  slots:∀t,t ∉ K.slots→a'.tmps.getD t undef=a.tmps.getD t undef
  cells:∀k off b c cur el v,k ∉ K.keys→k ∉ K.allof→k ∉ K.cont→(k,off) ∉ K.cells→η k=some (b,c)→w.heap[b]?=some (.cells cur el (0,0))→cur[off]?=some v→
    ∃cur',w'.heap[b]?=some (.cells cur' el (0,0))∧cur'[off]?=some v
  rows:∀k b c cur el,k ∉ K.keys→k ∉ K.rows→k ∉ K.allof→k ∉ K.cont→η k=some (b,c)→w.heap[b]?=some (.cells cur el (0,0))→w'.heap[b]?=some (.cells cur el (0,0))
  obs:∀k i b c o,k ∉ K.keys→k ∉ K.rows→k ∉ K.allof→η k=some (b,c)→w.heap[b]?=some o→E.OB i o→∃o',w'.heap[b]?=some o'∧E.OB i o'
theorem Keeps.fact {E:Env} {η η':Eta} {a a':Act} {w w':World} {K:Kill} (H:Keeps E η η' a a' w w' K) {f:Fact} (hs:K.surv f=true)
    (h:f.holds E η a w):f.holds E η' a' w':=by
  cases f with
  | slot t s=>
    simp only[Kill.surv,Bool.and_eq_true,Bool.not_eq_true'] at hs
    have ht:t ∉ K.slots:=fun hc=>by rw[zan.2 hc] at hs;cases hs.1
    simp only[Fact.holds,zey (H.slots t ht)]
    exact zcd H.view H.eta hs.2 h
  | cell k off s=>
    simp only[Kill.surv,Bool.and_eq_true,Bool.not_eq_true'] at hs
    obtain⟨⟨⟨⟨h1,h2⟩,h3⟩,h5⟩,h4⟩:=hs
    have hn:k ∉ K.cont:=fun hc=>by rw[zan.2 hc] at h5;cases h5
    have hk:k ∉ K.keys:=fun hc=>by rw[zan.2 hc] at h1;cases h1
    have hc:(k,off) ∉ K.cells:=fun hc=>by rw[zeg.2 hc] at h2;cases h2
    have ha:k ∉ K.allof:=fun hc=>by rw[zan.2 hc] at h3;cases h3
    obtain⟨b,c,cur,el,v,e0,e1,e2,e3,e4,e5⟩:=h
    obtain⟨cur',e6,e7⟩:=H.cells k off b c cur el v hk ha hn hc e1 e2 e3
    exact⟨b,c,cur',el,v,e0,(H.eta k hk).trans e1,e6,e7,e4,zap H.view H.eta h4 e5⟩
  | row k el e xs=>
    simp only[Kill.surv,Bool.and_eq_true,Bool.not_eq_true'] at hs
    obtain⟨⟨⟨h1,h2⟩,h3⟩,h5⟩:=hs
    have hn:k ∉ K.cont:=fun hc=>by rw[zan.2 hc] at h5;cases h5
    have hk:k ∉ K.keys:=fun hc=>by rw[zan.2 hc] at h1;cases h1
    have hc:k ∉ K.rows:=fun hc=>by rw[zan.2 hc] at h2;cases h2
    have ha:k ∉ K.allof:=fun hc=>by rw[zan.2 hc] at h3;cases h3
    rcases h with ⟨e1,e2⟩|⟨b,c,cur,e0,e1,e2,e3⟩
    · exact .inl ⟨(H.eta k hk).trans e1,e2⟩
    · exact .inr ⟨b,c,cur,e0,(H.eta k hk).trans e1,H.rows k b c cur el hk hc ha hn e1 e2,e3.mono H.view⟩
  | ob k i=>
    simp only[Kill.surv,Bool.and_eq_true,Bool.not_eq_true'] at hs
    obtain⟨⟨h1,h2⟩,h3⟩:=hs
    have hk:k ∉ K.keys:=fun hc=>by rw[zan.2 hc] at h1;cases h1
    have hc:k ∉ K.rows:=fun hc=>by rw[zan.2 hc] at h2;cases h2
    have ha:k ∉ K.allof:=fun hc=>by rw[zan.2 hc] at h3;cases h3
    obtain⟨b,c,o,e1,e2,e3⟩:=h
    obtain⟨o',e4,e5⟩:=H.obs k i b c o hk hc ha e1 e2 e3
    exact⟨b,c,o',(H.eta k hk).trans e1,e4,e5⟩
  | fix k=>
    simp only[Kill.surv,Bool.not_eq_true'] at hs
    have hk:k ∉ K.keys:=fun hc=>by rw[zan.2 hc] at hs;cases hs
    exact (H.eta k hk).trans h
end Go.Eng
set_option linter.all false
namespace Go.Eng
def upd (F:Fact→Prop) (add:List Fact) (K:Kill):Fact→Prop:=fun f=>f∈add∨(F f∧K.surv f=true)
theorem zbd {a:Act} {d t:Nat} {v:Value} (h:t≠d):(a.put (some d) v).tmps.getD t undef=a.tmps.getD t undef:=by
  simp only[Act.put,Array.getD_eq_getD_getElem?]
  rw[Array.getElem?_setIfInBounds_ne (Ne.symm h)]
theorem zjd {a:Act} {d:Nat} {v:Value} (h:d<a.tmps.size):(a.put (some d) v).tmps.getD d undef=v:=by
  simp only[Act.put,Array.getD_eq_getD_getElem?]
  rw[Array.getElem?_setIfInBounds_self_of_lt h]
  rfl
theorem zbb {a:Act} {d:Nat} {v:Value} (h:d<a.tmps.size) (hl:d<1000000):sval (a.put (some d) v) d=v:=by
  rw[zbv hl,zjd h]
theorem Good.put {E:Env} {nt:Nat} {η:Eta} {a:Act} {w:World} (g:Good E nt η a w) (d:Option Nat) (v:Value):Good E nt η (a.put d v) w:=by
  cases d with
  | none=>exact g
  | some d=>exact {g with size:=by simp[Act.put,g.size],defers:=g.defers}
theorem Keeps.put {E:Env} {η:Eta} {a:Act} {w:World} (d:Nat) (v:Value):Keeps E η η a (a.put (some d) v) w w {slots:=[d]} where
  view:=fun _ _ h=>h
  eta:=fun _ _=>rfl
  slots:=fun t ht=>zbd (by simpa using ht)
  cells:=fun _ _ _ _ cur _ _ _ _ _ _ _ h2 h3=>⟨cur,h2,h3⟩
  rows:=fun _ _ _ _ _ _ _ _ _ _ h=>h
  obs:=fun _ _ _ _ o _ _ _ _ h2 h3=>⟨o,h2,h3⟩
theorem Keeps.more {E:Env} {η η':Eta} {a a':Act} {w w':World} {K K':Kill} (h:Keeps E η η' a a' w w' K) (h1:∀x∈K.slots,x∈K'.slots) (h2:∀x∈K.keys,x∈K'.keys)
    (h3:∀x∈K.cells,x∈K'.cells) (h4:∀x∈K.rows,x∈K'.rows) (h5:∀x∈K.allof,x∈K'.allof) (h6:∀x∈K.cont,x∈K'.cont):Keeps E η η' a a' w w' K' where
  view:=h.view
  eta:=fun k hk=>h.eta k (fun hc=>hk (h2 k hc))
  slots:=fun t ht=>h.slots t (fun hc=>ht (h1 t hc))
  cells:=fun k off b c cur el v a1 a2 a4 a3=>h.cells k off b c cur el v (fun hc=>a1 (h2 _ hc)) (fun hc=>a2 (h5 _ hc)) (fun hc=>a4 (h6 _ hc)) (fun hc=>a3 (h3 _ hc))
  rows:=fun k b c cur el a1 a2 a3 a4=>h.rows k b c cur el (fun hc=>a1 (h2 _ hc)) (fun hc=>a2 (h4 _ hc)) (fun hc=>a3 (h5 _ hc)) (fun hc=>a4 (h6 _ hc))
  obs:=fun k i b c o a1 a2 a3=>h.obs k i b c o (fun hc=>a1 (h2 _ hc)) (fun hc=>a2 (h4 _ hc)) (fun hc=>a3 (h5 _ hc))
section
variable {E:Env} {nt:Nat} {η:Eta} {F:Fact→Prop} {a:Act} {w:World}
theorem zeE (g:Good E nt η a w) (H:∀f,F f→f.holds E η a w) {d:Nat} (hd:d<nt) {s:SV} {v:Value} (hv:zai (vw E η w) η s v) :
    Rel E nt (upd F [.slot d s] {slots:=[d]}) (a.put (some d) v) w:=by
  refine⟨η,g.put _ _,fun f hf=>?_⟩
  rcases hf with hf|⟨hf,hs⟩
  · simp only[List.mem_singleton] at hf
    subst hf
    simp only[Fact.holds]
    rw[zbb (by rw[g.size];exact hd) (Nat.lt_of_lt_of_le hd g.lim)]
    exact hv
  · exact (Keeps.put d v).fact hs (H f hf)
theorem zaf {w:World} {b:Nat} {o:Obj} (h:w.heap[b]?=some o):b<w.heap.size:=(Array.getElem?_eq_some_iff.1 h).1
theorem zfV (g:Good E nt η a w) (d:Nat) (v:Value) (o:Obj) (c:Nat) (wd:World) (hwd:wd.heap=w.heap) :
    Keeps E η (fun k=>if k=d then some (w.heap.size,c) else η k) a (a.put (some d) v) w (wd.alloc o) {slots:=[d],keys:=[d]}:=by
  have hold:∀b o',w.heap[b]?=some o'→(wd.alloc o).heap[b]?=some o':=fun b o' h=>by
    have:=zaf h
    rw[heap_alloc_old wd o (r:=b) (by rw[hwd];exact this),hwd];exact h
  refine⟨?_,?_,?_,?_,?_,?_⟩
  · rintro b c' ⟨h1,h2,el,f,h3⟩
    refine⟨h1,fun k n hk=>?_,el,f,hold _ _ h3⟩
    dsimp only at hk
    split at hk
    · have:=zaf h3
      simp at hk;omega
    · exact h2 k n hk
  · intro k hk
    simp at hk
    simp[hk]
  · intro t ht;exact zbd (by simpa using ht)
  · intro k off b c' cur el v' _ _ _ _ _ h2 h3;exact⟨cur,hold _ _ h2,h3⟩
  · intro k b c' cur el _ _ _ _ _ h;exact hold _ _ h
  · intro k i b c' o' _ _ _ _ h2 h3;exact⟨o',hold _ _ h2,h3⟩
theorem zhk (g:Good E nt η a w) (d:Nat) (v:Value) (o:Obj) (c:Nat) (wd:World) (hwd:wd.heap=w.heap) (hos:wd.os=w.os) (ht:wd.tape=w.tape) (ho:wd.output=w.output) :
    Good E nt (fun k=>if k=d then some (w.heap.size,c) else η k) (a.put (some d) v) (wd.alloc o) where
  size:=(g.put _ _).size
  lim:=g.lim
  defers:=g.defers.mono rfl (fun D o' h _=>by
    rw[heap_alloc_old wd o (r:=D) (by rw[hwd];exact zaf h),hwd];exact h) (fun k b c' h=>by
    split at h
    · simp only[Option.some.injEq,Prod.mk.injEq] at h;exact .inr (by omega)
    · exact .inl ⟨k,c',h⟩)
  os:=hos.trans g.os
  tape:=ht.trans g.tape
  output:=ho.trans g.output
  grow:=by have:=g.grow;simp[hwd];omega
  dis:=g.dis
  keep:=fun b hb hm hw=>by
    have:=g.grow
    rw[←g.keep b hb hm hw]
    rw[heap_alloc_old wd o (r:=b) (by rw[hwd];omega),hwd]
  own := fun k b c' h=>by
    have:=g.grow
    simp only[World.size_alloc,hwd]
    split at h
    · simp only[Option.some.injEq,Prod.mk.injEq] at h
      obtain⟨rfl,_⟩:=h
      exact⟨by omega,.inl (.inl this)⟩
    · have:=g.own k b c' h
      exact⟨by omega,this.2⟩
  inj := fun k k' b c1 c2 h1 h2=>by
    split at h1<;>split at h2
    · omega
    · have:=(g.own k' b c2 h2).1
      simp at h1;omega
    · have:=(g.own k b c1 h1).1
      simp at h2;omega
    · exact g.inj k k' b c1 c2 h1 h2
  old:=g.old
  obkeep:=fun b i o1 hb hm h1 h2=>by
    obtain⟨o',h3,h4⟩:=g.obkeep b i o1 hb hm h1 h2
    refine⟨o',?_,h4⟩
    have:=g.grow
    rw[heap_alloc_old wd o (r:=b) (by rw[hwd];omega),hwd];exact h3
theorem zbX {k:Nat} {f:Fact}:∀ {cs:List S1} {off:Nat},f∈zbQ k off cs→∃i s,cs[i]?=some s∧f=.cell k (off+i) s
  | [],_,h=>by cases h
  | s :: r,off,h=>by
    simp only[zbQ,List.mem_cons] at h
    rcases h with rfl|h
    · exact⟨0,s,by simp,by simp⟩
    · obtain⟨i,s',h1,h2⟩:=zbX h
      exact⟨i+1,s',by simpa using h1,by rw[h2];congr 1;omega⟩
theorem zcA {V:View} {η:Eta}:∀ {cs:List S1} {vs:List Value},zat V η cs vs→∀(i:Nat) (s:S1),cs[i]?=some s→
    ∃v,vs[i]?=some v∧v.oneCell'=true∧zaK V η s v
  | [],[],_,i,s,h=>by simp at h
  | [],_::_,h,_,_,_=>h.elim
  | _::_,[],h,_,_,_=>h.elim
  | s::r,v::l,⟨h1,h2,h3⟩,i,s',h=>by
    cases i with
    | zero=>simp at h;subst h;exact⟨v,by simp,h2,h1⟩
    | succ i=>simpa using zcA h3 i s' (by simpa using h)
theorem zbg {V:View} {η:Eta}:∀ {cs:List S1} {vs:List Value},zat V η cs vs→cs.length=vs.length
  | [],[],_=>rfl
  | [],_::_,h=>h.elim
  | _::_,[],h=>h.elim
  | _::r,_::l,⟨_,_,h⟩=>by simp[zbg h]
theorem zob (g:Good E nt η a w) (H:∀f,F f→f.holds E η a w) {d:Nat} (hd:d<nt) {cs:List S1} {vs:List Value} (el:Nat)
    (hm:anyS (S1.ment [d]) cs=false) (hc:zat (vw E η w) η cs vs) :
    Rel E nt (upd F (.slot d (.one (.p d 0))::zbQ d 0 cs) {slots:=[d],keys:=[d]}) (a.put (some d) (.pointer (some ⟨w.heap.size,0,none⟩))) (w.alloc (.cells vs.toArray el)):=by
  have hK:=zfV g d (.pointer (some ⟨w.heap.size,0,none⟩)) (.cells vs.toArray el) 0 w rfl
  refine⟨_,zhk g d _ _ 0 w rfl rfl rfl rfl,fun f hf=>?_⟩
  rcases hf with hf|⟨hf,hs⟩
  · rcases List.mem_cons.1 hf with rfl|hf
    · simp only[Fact.holds]
      rw[zbb (by rw[g.size];exact hd) (Nat.lt_of_lt_of_le hd g.lim)]
      exact⟨w.heap.size,0,by simp,rfl⟩
    · obtain⟨i,s,h1,rfl⟩:=zbX hf
      have hc':=zcZ hK.view hK.eta hm hc
      obtain⟨v,h2,h3,h4⟩:=zcA hc' i s h1
      exact⟨w.heap.size,0,vs.toArray,el,v,.inl g.grow,by simp,heap_alloc_new w _,by simpa using h2,h3,h4⟩
  · exact hK.fact hs (H f hf)
theorem zlD (g:Good E nt η a w) (H:∀f,F f→f.holds E η a w) {d:Nat} (hd:d<nt) (el i:Nat) {cur:Array Value} (ho:E.OB i (.cells cur el)) :
    Rel E nt (upd F [.slot d (.one (.p d 0)),.ob d i] {slots:=[d],keys:=[d]}) (a.put (some d) (.pointer (some ⟨w.heap.size,0,none⟩))) (w.alloc (.cells cur el)):=by
  have hK:=zfV g d (.pointer (some ⟨w.heap.size,0,none⟩)) (.cells cur el) 0 w rfl
  refine⟨_,zhk g d _ _ 0 w rfl rfl rfl rfl,fun f hf=>?_⟩
  rcases hf with hf|⟨hf,hs⟩
  · simp only [List.mem_cons,List.not_mem_nil,or_false] at hf
    rcases hf with rfl|rfl
    · simp only[Fact.holds]
      rw[zbb (by rw[g.size];exact hd) (Nat.lt_of_lt_of_le hd g.lim)]
      exact⟨w.heap.size,0,by simp,rfl⟩
    · exact⟨w.heap.size,0,_,by simp,heap_alloc_new w _,ho⟩
  · exact hK.fact hs (H f hf)
theorem zgz (g:Good E nt η a w) (H:∀f,F f→f.holds E η a w) {d:Nat} (hd:d<nt) {e:Ty} {xs:List e.Den} (el c:Nat) (cur:Array Value)
    (hr:zcH (vw E η w) e xs c cur) (wd:World) (hwd:wd.heap=w.heap) (hos:wd.os=w.os) (ht:wd.tape=w.tape) (ho:wd.output=w.output) (K:Kill) (hKs:d∈K.slots) (hKk:d∈K.keys) :
    Rel E nt (upd F [.slot d (.one (.o d xs.length)),.row d el e xs] K) (a.put (some d) (.slice (some ⟨w.heap.size,0,none⟩) xs.length c)) (wd.alloc (.cells cur el)):=by
  have hK:=(zfV g d (.slice (some ⟨w.heap.size,0,none⟩) xs.length c) (.cells cur el) c wd hwd).more (K':=K) (by simpa using hKs) (by simpa using hKk) (by simp) (by simp) (by simp) (by simp)
  refine⟨_,zhk g d _ _ c wd hwd hos ht ho,fun f hf=>?_⟩
  rcases hf with hf|⟨hf,hs⟩
  · simp only [List.mem_cons,List.not_mem_nil,or_false] at hf
    rcases hf with rfl|rfl
    · simp only[Fact.holds]
      rw[zbb (by rw[g.size];exact hd) (Nat.lt_of_lt_of_le hd g.lim)]
      exact .inr ⟨w.heap.size,c,by simp,rfl,hr.2.1⟩
    · exact .inr ⟨w.heap.size,c,cur,.inl g.grow,by simp,by have:=heap_alloc_new wd (.cells cur el);rw[hwd] at this;exact this,hr.mono hK.view⟩
  · exact hK.fact hs (H f hf)
theorem zh1 (g:Good E nt η a w) {k b c:Nat} (hk:η k=some (b,c)) {cur cur':Array Value} {el:Nat} (hb:w.heap[b]?=some (.cells cur el (0,0))) (K:Kill)
    (hc:∀off v,k ∉ K.keys→k ∉ K.allof→(k,off) ∉ K.cells→cur[off]?=some v→cur'[off]?=some v) (hr:k∈K.rows∨k∈K.allof∨k∈K.keys) :
    Keeps E η η a a w (w.setRow b cur') K:=by
  have hother:∀b',b'≠b→(w.setRow b cur').heap[b']?=w.heap[b']?:=fun b' h=>setRow_other w b b' cur' h
  have hsame:=setRow_heap w b cur cur' el (0,0) hb
  refine⟨?_,fun _ _=>rfl,fun _ _=>rfl,?_,?_,?_⟩
  · rintro b' c' ⟨h1,h2,el',f',h3⟩
    refine⟨h1,h2,el',f',?_⟩
    rw[hother b' (fun e=>h2 k c (e▸hk))]
    exact h3
  · intro k' off b' c' cur1 el' v h1 h2 _ h3 h4 h5 h6
    by_cases hkk:k'=k
    · subst hkk
      have he:b'=b:=by rw[hk] at h4;simp at h4;exact h4.1.symm
      subst he
      rw[hb] at h5
      simp only[Option.some.injEq,Obj.cells.injEq] at h5
      obtain⟨rfl,rfl,_⟩:=h5
      exact⟨cur',hsame,hc off v h1 h2 h3 h6⟩
    · have hbb:b'≠b:=fun e=>hkk (g.inj k' k b c' c (e▸h4) hk)
      exact⟨cur1,(hother b' hbb).trans h5,h6⟩
  · intro k' b' c' cur1 el' h1 h2 h3 _ h4 h5
    by_cases hkk:k'=k
    · subst hkk;rcases hr with h|h|h
      · exact absurd h h2
      · exact absurd h h3
      · exact absurd h h1
    · have hbb:b'≠b:=fun e=>hkk (g.inj k' k b c' c (e▸h4) hk)
      exact (hother b' hbb).trans h5
  · intro k' i b' c' o h1 h2 h3 h4 h5 h6
    by_cases hkk:k'=k
    · subst hkk;rcases hr with h|h|h
      · exact absurd h h2
      · exact absurd h h3
      · exact absurd h h1
    · have hbb:b'≠b:=fun e=>hkk (g.inj k' k b c' c (e▸h4) hk)
      exact⟨o,(hother b' hbb).trans h5,h6⟩
theorem zg9 (g:Good E nt η a w) {b:Nat} (cur':Array Value) (hlow:E.low b) (hk:∃k c,η k=some (b,c)):Good E nt η a (w.setRow b cur') where
  size:=g.size
  lim:=g.lim
  defers:=g.defers.mono rfl (fun D o h hn=>by
    obtain⟨k,c,hk⟩:=hk
    rw[setRow_other w b D cur' (fun e=>hn k c (e▸hk))];exact h) (fun k b c h=>.inl ⟨k,c,h⟩)
  os:=g.os
  tape:=g.tape
  output:=g.output
  grow:=by have:=g.grow;simpa using this
  dis:=g.dis
  keep := fun b' hb hm hw=>by
    have hne:b'≠b:=fun e=>by
      rcases hlow with h|h
      · omega
      · exact hw (e▸h)
    rw[setRow_other w b b' cur' hne];exact g.keep b' hb hm hw
  own:=fun k' b' c' h=>by have:=g.own k' b' c' h;simpa using this
  inj:=g.inj
  old:=g.old
  obkeep:=fun b' i o hb hm h1 h2=>by
    have hne:b'≠b:=fun e=>g.dis b' hm (e▸hlow)
    rw[setRow_other w b b' cur' hne];exact g.obkeep b' i o hb hm h1 h2
end
end Go.Eng
set_option linter.all false
namespace Go.Eng
/-! ### Contracts -/
def zcw:List Value→Value
  | [v]=>v
  | l=>.tuple l.toArray
structure CPost (OB:Nat→Obj→Prop) (w w':World) (bs:List Nat):Prop where
  os:w'.os=w.os
  tape:w'.tape=w.tape
  output:w'.output=w.output
  size:w.heap.size≤w'.heap.size
  keep:∀b,b<w.heap.size→b ∉ bs→w'.heap[b]?=w.heap[b]?
  obk:∀b∈bs,∀i o,w.heap[b]?=some o→OB i o→∃o',w'.heap[b]?=some o'∧OB i o'
def zfg (w':World) (V:View) (B:Nat):(cs:List RC)→(zac cs).Den→List Value→Option Nat→Prop
  | [],_,vs,g=>vs=[]∧g=none
  | {own:=none,t:=t} :: r,x,vs,g=>∃v vs',vs=v::vs'∧RepV V t x.1 v∧zfg w' V B r x.2 vs' g
  | { own:=some el,t:=.sl e} :: r,x,vs,g=>∃v vs',vs=v::vs'∧zfg w' V B r x.2 vs' none∧
      ((x.1=[]∧v=.slice none 0 0∧g=none)∨∃b c cur,g=some b∧v=.slice (some ⟨b,0,none⟩) (List.length (α:=e.Den) x.1) c∧B≤b∧
        w'.heap[b]?=some (.cells cur el (0,0))∧zcH V e x.1 c cur)
  | {own:=some _,t:=t} :: r,x,vs,g=>∃v vs',vs=v::vs'∧RepV V t x.1 v∧zfg w' V B r x.2 vs' g
def zcI (OB:Nat→Obj→Prop) (w:World) (M:Nat→Prop):(ps:List Pat)→(zab ps).Den→List Value→List Nat→Prop
  | [],_,vs,bs=>vs=[]∧bs=[]
  | .dat t::r,x,vs,bs=>∃v vs',vs=v::vs'∧RepV (fun b c=>¬M b∧∃el f,w.heap[b]?=some (.cells c el f)) t x.1 v∧zcI OB w M r x.2 vs' bs
  | .gl g t::r,x,vs,bs=>RepV (fun b c=>¬M b∧∃el f,w.heap[b]?=some (.cells c el f)) (.ptr t) x.1 (.pointer (some ⟨g,0,none⟩))∧zcI OB w M r x.2 vs bs
  | .gw g t::r,x,vs,bs=>(∃c el f,w.heap[g]?=some (.cells c el f)∧¬M g∧c.size=t.size∧Rep (fun b c=>¬M b∧∃el f,w.heap[b]?=some (.cells c el f)) t x.1 c.toList)∧zcI OB w M r x.2 vs bs
  | .lit y::r,x,vs,bs=>∃vs',vs=y::vs'∧zcI OB w M r x vs' bs
  | .ob i::r,x,vs,bs=>∃b o vs' bs',vs=.pointer (some ⟨b,0,none⟩)::vs'∧bs=b::bs'∧M b∧w.heap[b]?=some o∧OB i o∧zcI OB w M r x vs' bs'
def zoJ (P:Program) (OB:Nat→Obj→Prop) (f:Nat) (sp:Spec):Prop:=
  ∀ (w : World) (M:Nat→Prop) (x:(zab sp.pats).Den) (vs:List Value) (bs:List Nat),
    (∀b,M b→b<w.heap.size)→zcI OB w M sp.pats x vs bs→sp.pre x→
    Calls P f vs.toArray w fun e w'=>∃rs g,e=.returned (zcw rs)∧CPost OB w w' bs∧
      zfg w' (fun b c=>¬M b∧g≠some b∧∃el f,w'.heap[b]?=some (.cells c el f)) w.heap.size sp.res (sp.f x) rs g
def zda:Value→Option (Nat×Nat)
  | .slice (some ad) _ c=>some (ad.block,c)
  | _=>none
def zaB (d:Nat):List RC→List Value→Nat→Nat→Option (Option (Nat×Nat))
  | {own:=some _,t:=.sl _} :: r,v::vs,j,k=>if k=d+100000*j then some (zda v) else zaB d r vs (j+1) k
  | _::r,_::vs,j,k=>zaB d r vs (j+1) k
  | _,_,_,_=>none
theorem zej {d:Nat}:∀(cs:List RC) (x:(zac cs).Den) (vs:List Value) (j k:Nat),k ∉ (zcP d cs x j).2.2→zaB d cs vs j k=none
  | [],_,vs,j,k,_=>by simp[zaB]
  | c::r,x,[],j,k,_=>by cases c with|mk o t=>cases o<;>cases t<;>simp[zaB]
  | c :: r, x,v::vs,j,k,h=>by
    have ih:=zej (d:=d) r x.2 vs (j+1) k
    cases c with
    | mk o t=>
      cases o with
      | none=>simp only[zcP] at h;simp only[zaB];exact ih h
      | some el=>
        cases t<;>simp only[zcP] at h<;>simp only[zaB]
        case sl e=>
          simp only[List.mem_cons,not_or] at h
          rw[if_neg h.1];exact ih h.2
        all_goals exact ih h
theorem zgQ {d:Nat}:∀(cs:List RC) (vs:List Value) (j k:Nat) (r:Option (Nat×Nat)),zaB d cs vs j k=some r→d+100000*j≤k
  | [],vs,j,k,r,h=>by simp[zaB] at h
  | c::cs,[],j,k,r,h=>by cases c with|mk o t=>cases o<;>cases t<;>simp[zaB] at h
  | c :: cs,v::vs,j,k,r,h=>by
    have ih:=zgQ (d:=d) cs vs (j+1) k r
    cases c with
    | mk o t=>
      cases o with
      | none=>simp only[zaB] at h;have:=ih h;omega
      | some el=>
        cases t<;>simp only[zaB] at h
        case sl e=>
          split at h
          · omega
          · have:=ih h;omega
        all_goals (have:=ih h;omega)
theorem zaL {d : Nat} {w':World} {V:View} {B:Nat}:∀(cs:List RC) (x:(zac cs).Den) (vs:List Value) (j k:Nat) (g:Option Nat) (b c:Nat),
    zfg w' V B cs x vs g→zaB d cs vs j k=some (some (b,c))→g=some b∧B≤b∧b<w'.heap.size
  | [],_,vs,j,k,g,b,c,_,h=>by simp[zaB] at h
  | rc :: cs, x,vs,j,k,g,b,c,H,h=>by
    have ih:=fun vs g=>zaL (d:=d) (w':=w') (V:=V) (B:=B) cs x.2 vs (j+1) k g b c
    cases rc with
    | mk o t =>
      cases o with
      | none=>
        obtain⟨v,vs',rfl,_,H⟩:=H
        simp only[zaB] at h
        exact ih _ _ H h
      | some el=>
        cases t
        case sl e=>
          obtain⟨v,vs',rfl,H,hv⟩:=H
          simp only[zaB] at h
          split at h
          · rcases hv with ⟨_,rfl,rfl⟩|⟨b',c',cur,rfl,rfl,h1,h2,h3⟩
            · simp[zda] at h
            · simp only[zda,Option.some.injEq,Prod.mk.injEq] at h
              obtain⟨rfl,rfl⟩:=h
              exact⟨rfl,h1,zaf h2⟩
          · have:=ih _ _ H h
            simp at this
        all_goals
          obtain⟨v,vs',rfl,_,H⟩:=H
          simp only[zaB] at h
          exact ih _ _ H h
theorem zf4 {d:Nat} {w':World} {V:View} {B:Nat}:∀(cs:List RC) (x:(zac cs).Den) (vs:List Value) (j k k':Nat) (g:Option Nat) (b c b' c':Nat),
    zfg w' V B cs x vs g→zaB d cs vs j k=some (some (b,c))→zaB d cs vs j k'=some (some (b',c'))→k=k'
  | [],_,vs,j,k,k',g,b,c,b',c',_,h,_=>by simp[zaB] at h
  | rc :: cs, x,vs,j,k,k',g,b,c,b',c',H,h,h'=>by
    have ih:=fun vs g=>zf4 (d:=d) (w':=w') (V:=V) (B:=B) cs x.2 vs (j+1) k k' g b c b' c'
    cases rc with
    | mk o t =>
      cases o with
      | none=>
        obtain⟨v,vs',rfl,_,H⟩:=H
        simp only[zaB] at h h'
        exact ih _ _ H h h'
      | some el=>
        cases t
        case sl e=>
          obtain⟨v,vs',rfl,H,hv⟩:=H
          simp only[zaB] at h h'
          split at h<;>split at h'
          · omega
          · have:=zaL cs x.2 vs' (j+1) k' none b' c' H h'
            simp at this
          · have:=zaL cs x.2 vs' (j+1) k none b c H h
            simp at this
          · exact ih _ _ H h h'
        all_goals
          obtain⟨v,vs',rfl,_,H⟩:=H
          simp only[zaB] at h h'
          exact ih _ _ H h h'
theorem res_holds {E:Env} {d:Nat} {w':World} {V:View} {B:Nat} {η':Eta} {a':Act} (hlow:E.w0.heap.size≤B) (hV:∀b c,V b c→vw E η' w' b c) :
    ∀ (cs:List RC) (x:(zac cs).Den) (vs:List Value) (j:Nat) (g:Option Nat),zfg w' V B cs x vs g→
      (∀k r,zaB d cs vs j k=some r→η' k=r)→
      zcz (vw E η' w') η' (zcP d cs x j).1 vs∧∀f∈(zcP d cs x j).2.1,f.holds E η' a' w'
  | [],_,vs,j,g,H,_=>by
    obtain⟨rfl,rfl⟩:=H
    exact⟨trivial,fun f hf=>by simp[zcP] at hf⟩
  | rc :: cs, x,vs,j,g,H,hk=>by
    cases rc with
    | mk o t =>
      cases o with
      | none=>
        obtain⟨v,vs',rfl,h1,H⟩:=H
        have ih:=res_holds (d:=d) (a':=a') hlow hV cs x.2 vs' (j+1) _ H (fun k r h=>hk k r (by simpa only [zaB] using h))
        exact⟨⟨RepV.mono hV h1,ih.1⟩,ih.2⟩
      | some el=>
        cases t
        case sl e=>
          obtain⟨v,vs',rfl,H,hv⟩:=H
          have ih:=res_holds (d:=d) (a':=a') hlow hV cs x.2 vs' (j+1) _ H (fun k r h=>hk k r (by
            have hge:=zgQ _ _ _ _ _ h
            simp only[zaB]
            have hne:¬k=d+100000*j:=by omega
            rw[if_neg hne];exact h))
          have hkey:η' (d+100000*j)=zda v:=hk _ _ (by simp[zaB])
          rcases hv with ⟨e1,rfl,rfl⟩|⟨b,c,cur,rfl,rfl,h1,h2,h3⟩
          · refine⟨⟨.inl ⟨hkey,by rw[e1];rfl,rfl⟩,ih.1⟩,fun f hf=>?_⟩
            simp only[zcP,List.mem_cons] at hf
            rcases hf with rfl|hf
            · exact .inl ⟨hkey,e1⟩
            · exact ih.2 f hf
          · refine⟨⟨.inr ⟨b,c,hkey,rfl,h3.2.1⟩,ih.1⟩,fun f hf=>?_⟩
            simp only[zcP,List.mem_cons] at hf
            rcases hf with rfl|hf
            · exact .inr ⟨b,c,cur,.inl (by omega),hkey,h2,h3.mono hV⟩
            · exact ih.2 f hf
        all_goals
          obtain⟨v,vs',rfl,h1,H⟩:=H
          have ih:=res_holds (d:=d) (a':=a') hlow hV cs x.2 vs' (j+1) _ H (fun k r h=>hk k r (by simpa only [zaB] using h))
          exact⟨⟨RepV.mono hV h1,ih.1⟩,ih.2⟩
theorem zgn {V:View} {η:Eta} {ss:List S1} {vs:List Value} (h:zcz V η ss vs):zai V η (zfm ss) (zcw vs):=by
  match ss,vs,h with
  | [],[],_=>exact⟨[],rfl,trivial⟩
  | [s],[v],h=>exact h.1
  | s::s'::r,v::v'::l,h=>exact⟨_,rfl,h⟩
  | [],_::_,h=>exact h.elim
  | [_],[],h=>exact h.elim
  | _::_::_,[],h=>exact h.elim
  | [_],_::_::_,h=>exact h.2.elim
  | _::_::_,[_],h=>exact h.2.elim
/-! ### Methods that write their receiver -/
def zbe (OB:Nat→Obj→Prop) (V:View) (w:World):(cs:List IC)→(icTy cs).Den→List Value→List Nat→List Nat→Prop
  | [],_,vs,os,ws=>vs=[]∧os=[]∧ws=[]
  | .dat t::r,x,vs,os,ws=>∃v vs',vs=v::vs'∧v.oneCell'=true∧RepV V t x.1 v∧zbe OB V w r x.2 vs' os ws
  | .ob i::r,x,vs,os,ws=>∃b o vs' os',vs=.pointer (some ⟨b,0,none⟩)::vs'∧os=b::os'∧w.heap[b]?=some o∧OB i o∧zbe OB V w r x vs' os' ws
  | .own el e::r,x,vs,os,ws=>∃v vs',vs=v::vs'∧
      ((x.1=[]∧v=.slice none 0 0∧zbe OB V w r x.2 vs' os ws)∨
        ∃b c cur ws',v=.slice (some ⟨b,0,none⟩) (List.length (α:=e.Den) x.1) c∧w.heap[b]?=some (.cells cur el (0,0))∧zcH V e x.1 c cur∧ws=b::ws'∧zbe OB V w r x.2 vs' os ws')
structure IoPost (OB:Nat→Obj→Prop) (w w':World) (b:Nat) (obs ws:List Nat):Prop where
  os:w'.os=w.os
  tape:w'.tape=w.tape
  output:w'.output=w.output
  size:w.heap.size≤w'.heap.size
  keep:∀c,c<w.heap.size→c≠b→c ∉ obs→c ∉ ws→w'.heap[c]?=w.heap[c]?
  obk:∀c∈obs,∀i o,w.heap[c]?=some o→OB i o→∃o',w'.heap[c]?=some o'∧OB i o'
def zoH (OB:Nat→Obj→Prop) (M:Nat→Prop) (w w':World) (b:Nat) (os ws:List Nat) (cs:List IC) (y:(icTy cs).Den):Prop:=
  ∃ (cur:Array Value) (el:Nat) (us:List Value) (ws':List Nat),w'.heap[b]?=some (.cells cur el (0,0))∧(∀(j:Nat) (v:Value),us[j]?=some v→cur[j]?=some v)∧ws'.Nodup∧(∀c∈ws',c≠b∧(c∈ws∨w.heap.size≤c))∧
    zbe OB (fun c r=>(¬M c∨c∈ws)∧c≠b∧c ∉ ws'∧∃el f,w'.heap[c]?=some (.cells r el f)) w' cs y us os ws'
def zoI (P:Program) (OB:Nat→Obj→Prop) (f:Nat) (sp:IoSpec):Prop:=
  ∀ (w:World) (M:Nat→Prop) (x:(icTy sp.cs).Den) (y:(zab sp.pats).Den) (vs:List Value) (b:Nat) (cur:Array Value) (el:Nat) (us:List Value) (os ws:List Nat),
    (∀c,M c→c<w.heap.size)→zcI OB w M sp.pats y vs []→w.heap[b]?=some (.cells cur el (0,0))→(∀(j:Nat) (v:Value),us[j]?=some v→cur[j]?=some v)→
    zbe OB (fun c r=>¬M c∧∃el f,w.heap[c]?=some (.cells r el f)) w sp.cs x us os ws→(b::(os++ws)).Nodup→(∀c∈b::(os++ws),M c)→sp.pre x y→
    Calls P f (.pointer (some ⟨b,0,none⟩)::vs).toArray w fun e w'=>e=.returned (zcw [])∧IoPost OB w w' b os ws∧zoH OB M w w' b os ws sp.cs (sp.out x y)
structure VaPost (w w':World) (ws:List Nat):Prop where
  os:w'.os=w.os
  tape:w'.tape=w.tape
  output:w'.output=w.output
  size:w.heap.size≤w'.heap.size
  keep:∀c,c<w.heap.size→c ∉ ws→w'.heap[c]?=w.heap[c]?
def zoE (OB:Nat→Obj→Prop) (M:Nat→Prop) (w w':World) (ws:List Nat) (cs:List IC) (y:(icTy cs).Den) (us:List Value):Prop:=
  ∃ ws':List Nat,ws'.Nodup∧(∀c∈ws',c∈ws∨w.heap.size≤c)∧
    zbe OB (fun c r=>(¬M c∨c∈ws)∧c ∉ ws'∧∃el f,w'.heap[c]?=some (.cells r el f)) w' cs y us [] ws'
def zoF (P:Program) (OB:Nat→Obj→Prop) (f:Nat) (sp:VaSpec):Prop:=
  ∀ (w:World) (M:Nat→Prop) (x:(icTy sp.cs).Den) (y:(zab sp.pats).Den) (vs us:List Value) (ws:List Nat),
    (∀c,M c→c<w.heap.size)→zcI OB w M sp.pats y vs []→zbe OB (fun c r=>¬M c∧∃el f,w.heap[c]?=some (.cells r el f)) w sp.cs x us [] ws→ws.Nodup→(∀c∈ws,M c)→sp.pre x y→
    Calls P f (vs++[Value.agg us.toArray]).toArray w fun e w'=>∃us',e=.returned (.agg us'.toArray)∧VaPost w w' ws∧zoE OB M w w' ws sp.outs (sp.out x y) us'
theorem zbe.mono {OB:Nat→Obj→Prop} {V V':View} {w:World} (h:∀b c,V b c→V' b c):∀ {cs:List IC} {x:(icTy cs).Den} {vs:List Value} {os ws:List Nat},zbe OB V w cs x vs os ws→zbe OB V' w cs x vs os ws
  | [],_,_,_,_,H=>H
  | .dat t::r,x,vs,os,ws,⟨v,vs',e,h1,h2,h3⟩=>⟨v,vs',e,h1,h2.mono h,h3.mono h⟩
  | .ob i::r,x,vs,os,ws,⟨b,o,vs',os',e1,e2,h1,h2,h3⟩=>⟨b,o,vs',os',e1,e2,h1,h2,h3.mono h⟩
  | .own el e::r,x,vs,os,ws,⟨v,vs',e1,H⟩=>⟨v,vs',e1,H.imp (fun⟨h1,h2,h3⟩=>⟨h1,h2,h3.mono h⟩) fun⟨b,c,cur,ws',h1,h2,h3,h4,h5⟩=>⟨b,c,cur,ws',h1,h2,h3.mono h,h4,h5.mono h⟩⟩
def zdN (η:Eta):List Nat→List Nat→Prop
  | [],[]=>True
  | k::r,b::l=>(∃c,η k=some (b,c))∧zdN η r l
  | _,_=>False
theorem zii {η η':Eta}:∀ {ks bs:List Nat},(∀k∈ks,η' k=η k)→zdN η ks bs→zdN η' ks bs
  | [],[],_,_=>trivial
  | [],_::_,_,h=>h.elim
  | _::_,[],_,h=>h.elim
  | k::r,b::l,hk,⟨⟨c,h1⟩,h2⟩=>⟨⟨c,(hk k List.mem_cons_self).trans h1⟩,zii (fun j hj=>hk j (List.mem_cons_of_mem _ hj)) h2⟩
theorem zdE {η:Eta}:∀ {ks bs:List Nat},zdN η ks bs→∀b∈bs,∃k c,k∈ks∧η k=some (b,c)
  | [],[],_,b,hb=>by cases hb
  | [],_::_,h,_,_=>h.elim
  | _::_,[],h,_,_=>h.elim
  | k :: r,b::l,⟨⟨c,h1⟩,h2⟩,b',hb=>by
    rcases List.mem_cons.1 hb with rfl|hb
    · exact⟨k,c,List.mem_cons_self,h1⟩
    · obtain⟨k',c',h3,h4⟩:=zdE h2 b' hb
      exact⟨k',c',List.mem_cons_of_mem _ h3,h4⟩
def zaz (d:Nat):List IC→List Value→Nat→Nat→Option (Option (Nat×Nat))
  | .own _ _::r,v::vs,j,k=>if k=d+100000*j then some (zda v) else zaz d r vs (j+1) k
  | .dat _::r,_::vs,j,k=>zaz d r vs (j+1) k
  | .ob _::r,_::vs,j,k=>zaz d r vs (j+1) k
  | _,_,_,_=>none
theorem zil {d:Nat}:∀(cs:List IC) (vs:List Value) (j k:Nat) (r:Option (Nat×Nat)),zaz d cs vs j k=some r→d+100000*j≤k
  | [],vs,j,k,r,h=>by simp[zaz] at h
  | c::cs,[],j,k,r,h=>by cases c<;>simp[zaz] at h
  | c :: cs,v::vs,j,k,r,h=>by
    have ih:=zil (d:=d) cs vs (j+1) k r
    cases c with
    | dat t=>simp only[zaz] at h;have:=ih h;omega
    | ob i=>simp only[zaz] at h;have:=ih h;omega
    | own el e=>
      simp only[zaz] at h
      split at h
      · omega
      · have:=ih h;omega
theorem zbs {d:Nat}:∀(cs:List IC) (x:(icTy cs).Den) (oks:List Nat) (vs:List Value) (j k:Nat),k ∉ (zaA d cs x oks j).2.2→zaz d cs vs j k=none
  | [],_,oks,vs,j,k,_=>by simp[zaz]
  | c::cs,_,oks,[],j,k,_=>by cases c<;>simp[zaz]
  | .dat t::cs,x,oks,v::vs,j,k,h=>by
    simp only[zaA] at h
    simp only[zaz]
    exact zbs cs x.2 oks vs (j+1) k h
  | .ob i::cs,x,[],v::vs,j,k,h=>by
    simp only[zaA] at h
    simp only[zaz]
    exact zbs cs x [] vs (j+1) k h
  | .ob i::cs,x,o::oks,v::vs,j,k,h=>by
    simp only[zaA] at h
    simp only[zaz]
    exact zbs cs x oks vs (j+1) k h
  | .own el e::cs,x,oks,v::vs,j,k,h=>by
    simp only[zaA,List.mem_cons,not_or] at h
    simp only[zaz]
    rw[if_neg h.1]
    exact zbs cs x.2 oks vs (j+1) k h.2
theorem zbt {OB:Nat→Obj→Prop} {V:View} {w:World} {d:Nat}:∀(cs:List IC) (x:(icTy cs).Den) (vs:List Value) (os ws:List Nat) (j k b c:Nat),zbe OB V w cs x vs os ws→zaz d cs vs j k=some (some (b,c))→
    b∈ws
  | [],_,vs,os,ws,j,k,b,c,_,h=>by simp[zaz] at h
  | .dat t::cs,x,vs,os,ws,j,k,b,c,H,h=>by
    obtain⟨v,vs',rfl,_,_,H⟩:=H
    simp only[zaz] at h
    exact zbt cs x.2 vs' os ws (j+1) k b c H h
  | .ob i::cs,x,vs,os,ws,j,k,b,c,H,h=>by
    obtain⟨b',o,vs',os',rfl,rfl,_,_,H⟩:=H
    simp only[zaz] at h
    exact zbt cs x vs' os' ws (j+1) k b c H h
  | .own el e::cs,x,vs,os,ws,j,k,b,c,H,h=>by
    obtain⟨v,vs',rfl,H⟩:=H
    simp only[zaz] at h
    rcases H with ⟨_,rfl,H⟩|⟨b',c',cur,ws',rfl,h1,h2,rfl,H⟩
    · split at h
      · simp[zda] at h
      · exact zbt cs x.2 vs' os ws (j+1) k b c H h
    · split at h
      · simp only[zda,Option.some.injEq,Prod.mk.injEq] at h
        obtain⟨rfl,rfl⟩:=h
        exact List.mem_cons_self
      · exact List.mem_cons_of_mem _ (zbt cs x.2 vs' os ws' (j+1) k b c H h)
theorem zb4 {OB:Nat→Obj→Prop} {V:View} {w:World} {d:Nat}:∀(cs:List IC) (x:(icTy cs).Den) (vs:List Value) (os ws:List Nat) (j k k' b c c':Nat),zbe OB V w cs x vs os ws→ws.Nodup→
    zaz d cs vs j k=some (some (b,c))→zaz d cs vs j k'=some (some (b,c'))→k=k'
  | [],_,vs,os,ws,j,k,k',b,c,c',_,_,h,_=>by simp[zaz] at h
  | .dat t::cs,x,vs,os,ws,j,k,k',b,c,c',H,hn,h,h'=>by
    obtain⟨v,vs',rfl,_,_,H⟩:=H
    simp only[zaz] at h h'
    exact zb4 cs x.2 vs' os ws (j+1) k k' b c c' H hn h h'
  | .ob i::cs,x,vs,os,ws,j,k,k',b,c,c',H,hn,h,h'=>by
    obtain⟨b',o,vs',os',rfl,rfl,_,_,H⟩:=H
    simp only[zaz] at h h'
    exact zb4 cs x vs' os' ws (j+1) k k' b c c' H hn h h'
  | .own el e::cs,x,vs,os,ws,j,k,k',b,c,c',H,hn,h,h'=>by
    obtain⟨v,vs',rfl,H⟩:=H
    simp only[zaz] at h h'
    rcases H with ⟨_,rfl,H⟩|⟨b',c1,cur,ws',rfl,h1,h2,rfl,H⟩
    · split at h
      · simp[zda] at h
      · split at h'
        · simp[zda] at h'
        · exact zb4 cs x.2 vs' os ws (j+1) k k' b c c' H hn h h'
    · have hn':=List.nodup_cons.1 hn
      split at h<;>split at h'
      · omega
      · simp only[zda,Option.some.injEq,Prod.mk.injEq] at h
        have:=zbt cs x.2 vs' os ws' (j+1) k' b c' H h'
        rw[←h.1] at this
        exact absurd this hn'.1
      · simp only[zda,Option.some.injEq,Prod.mk.injEq] at h'
        have:=zbt cs x.2 vs' os ws' (j+1) k b c H h
        rw[←h'.1] at this
        exact absurd this hn'.1
      · exact zb4 cs x.2 vs' os ws' (j+1) k k' b c c' H hn'.2 h h'
theorem zbe.low {OB:Nat→Obj→Prop} {V:View} {w:World}:∀ {cs:List IC} {x:(icTy cs).Den} {vs:List Value} {os ws:List Nat},zbe OB V w cs x vs os ws→(∀b∈ws,b<w.heap.size)∧(∀b∈os,b<w.heap.size)
  | [],_,_,_,_,⟨_,h1,h2⟩=>by subst h1 h2;simp
  | .dat t::r,x,vs,os,ws,⟨v,vs',e,h1,h2,h3⟩=>h3.low
  | .ob i::r,x,vs,os,ws,⟨b,o,vs',os',e1,e2,h1,h2,h3⟩=>by
    subst e2
    refine⟨h3.low.1,fun b' hb=>?_⟩
    rcases List.mem_cons.1 hb with rfl|hb
    · exact zaf h1
    · exact h3.low.2 b' hb
  | .own el e::r,x,vs,os,ws,⟨v,vs',e1,H⟩=>by
    rcases H with ⟨_,_,h3⟩|⟨b,c,cur,ws',_,h2,_,rfl,h5⟩
    · exact h3.low
    · refine⟨fun b' hb=>?_,h5.low.2⟩
      rcases List.mem_cons.1 hb with rfl|hb
      · exact zaf h2
      · exact h5.low.1 b' hb
theorem io_holds {E:Env} {d:Nat} {w':World} {V:View} {η':Eta} {a':Act} (hV:∀b c,V b c→vw E η' w' b c) :
    ∀ (cs:List IC) (x:(icTy cs).Den) (us:List Value) (oks os ws:List Nat) (j:Nat),zbe E.OB V w' cs x us os ws→zdN η' oks os→(∀b∈ws,E.low b)→
      (∀k r,zaz d cs us j k=some r→η' k=r)→
      zat (vw E η' w') η' (zaA d cs x oks j).1 us∧∀f∈(zaA d cs x oks j).2.1,f.holds E η' a' w'
  | [],x,us,oks,os,ws,j,H,_,_,_=>by
    obtain⟨rfl,rfl,rfl⟩:=H
    exact⟨trivial,fun f hf=>by simp[zaA] at hf⟩
  | .dat t::cs,x,us,oks,os,ws,j,H,hk,hl,hf=>by
    obtain⟨v,vs',rfl,h1,h2,H⟩:=H
    have ih:=io_holds (d:=d) (a':=a') hV cs x.2 vs' oks os ws (j+1) H hk hl (fun k r h=>hf k r (by simpa only [zaz] using h))
    exact⟨⟨RepV.mono hV h2,h1,ih.1⟩,ih.2⟩
  | .ob i::cs,x,us,oks,os,ws,j,H,hk,hl,hf=>by
    obtain⟨b,o,vs',os',rfl,rfl,h1,h2,H⟩:=H
    match oks,hk with
    | k::oks,⟨⟨c,hk1⟩,hk2⟩=>
      have ih:=io_holds (d:=d) (a':=a') hV cs x vs' oks os' ws (j+1) H hk2 hl (fun k r h=>hf k r (by simpa only [zaz] using h))
      exact⟨⟨⟨b,c,hk1,rfl⟩,rfl,ih.1⟩,ih.2⟩
  | .own el e::cs,x,us,oks,os,ws,j,H,hk,hl,hf=>by
    obtain⟨v,vs',rfl,H⟩:=H
    have hkey:η' (d+100000*j)=zda v:=hf _ _ (by simp[zaz])
    have hrest:∀k r,zaz d cs vs' (j+1) k=some r→η' k=r:=fun k r h=>hf k r (by
      have hge:=zil _ _ _ _ _ h
      simp only[zaz]
      have hne:¬k=d+100000*j:=by omega
      rw[if_neg hne];exact h)
    rcases H with ⟨h1,rfl,H⟩|⟨b,c,cur,ws',rfl,h1,h2,rfl,H⟩
    · have ih:=io_holds (d:=d) (a':=a') hV cs x.2 vs' oks os ws (j+1) H hk hl hrest
      refine⟨⟨.inl ⟨hkey,by rw[h1];rfl,rfl⟩,rfl,ih.1⟩,fun f hf'=>?_⟩
      simp only[zaA,List.mem_cons] at hf'
      rcases hf' with rfl|hf'
      · exact .inl ⟨hkey,h1⟩
      · exact ih.2 f hf'
    · have ih:=io_holds (d:=d) (a':=a') hV cs x.2 vs' oks os ws' (j+1) H hk (fun b hb=>hl b (List.mem_cons_of_mem _ hb)) hrest
      refine⟨⟨.inr ⟨b,c,hkey,rfl,h2.2.1⟩,rfl,ih.1⟩,fun f hf'=>?_⟩
      simp only[zaA,List.mem_cons] at hf'
      rcases hf' with rfl|hf'
      · exact .inr ⟨b,c,cur,hl b List.mem_cons_self,hkey,h1,h2.mono hV⟩
      · exact ih.2 f hf'
/-! ### What an effect says of the model's run -/
def znh (E:Env) (η:Eta) (w:World) (k:Option Nat) (el:Nat) (e:Ty) (xs:List e.Den) (v:Value) (w':World):Prop:=
  (xs=[]∧v=.slice none 0 0∧w'=w)∨
  (∃ (c:Nat) (cur:Array Value) (wd:World),v=.slice (some ⟨w.heap.size,0,none⟩) xs.length c∧w'=wd.alloc (.cells cur el)∧wd.heap=w.heap∧wd.os=w.os∧wd.tape=w.tape∧wd.output=w.output∧
    zcH (vw E η w) e xs c cur)∨
  (∃ kk b c cur cur',k=some kk∧η kk=some (b,c)∧E.low b∧w.heap[b]?=some (.cells cur el (0,0))∧v=.slice (some ⟨b,0,none⟩) xs.length c∧
    w'=w.setRow b cur'∧zcH (vw E η w) e xs c cur')
def za6 (E:Env) (η:Eta) (a:Act) (w:World) (o:Oper):Eff→Prop
  | .val ob s=>ob.hold→∃v,(execOp a.eval o).run E.P w=.ok (.value v) w∧zai (vw E η w) η s v
  | .nan ob k r=>ob.hold→∃n w',(execOp a.eval o).run E.P w=.ok (.value (.float k n)) w'∧(w'=w∨w'=w.drew)∧fok k r n
  | .new el cs=>∃vs:List Value,(execOp a.eval o).run E.P w=.ok (.value (.pointer (some ⟨w.heap.size,0,none⟩))) (w.alloc (.cells vs.toArray el))∧zat (vw E η w) η cs vs
  | .newob el i=>∃cur,(execOp a.eval o).run E.P w=.ok (.value (.pointer (some ⟨w.heap.size,0,none⟩))) (w.alloc (.cells cur el))∧E.OB i (.cells cur el)
  | .newrow ob el e xs=>ob.hold→∃c cur,(execOp a.eval o).run E.P w=.ok (.value (.slice (some ⟨w.heap.size,0,none⟩) xs.length c)) (w.alloc (.cells cur el))∧zcH (vw E η w) e xs c cur
  | .st k off cs=>∃vs b c cur el,η k=some (b,c)∧E.low b∧w.heap[b]?=some (.cells cur el (0,0))∧off+vs.length≤cur.size∧zat (vw E η w) η cs vs∧
      (execOp a.eval o).run E.P w=.ok .skip (w.setRow b (cur.toList.take off++vs++cur.toList.drop (off+vs.length)).toArray)
  | .strow ob k el e xs=>ob.hold→∃b c cur cur',η k=some (b,c)∧E.low b∧w.heap[b]?=some (.cells cur el (0,0))∧zcH (vw E η w) e xs c cur'∧
      (execOp a.eval o).run E.P w=.ok .skip (w.setRow b cur')
  | .app ob k el e xs=>ob.hold→∃v w',(execOp a.eval o).run E.P w=.ok (.value v) w'∧znh E η w k el e xs v w'
  | .call ob oks cs x=>ob.hold→∃f args bs,(execOp a.eval o).run E.P w=.ok (.enter f args) w∧(∀b∈bs,∃k c,k∈oks∧η k=some (b,c))∧
      Calls E.P f args w fun e w'=>∃rs g,e=.returned (zcw rs)∧CPost E.OB w w' bs∧
        zfg w' (fun b c=>¬(E.Mp b∨∃k n,η k=some (b,n))∧g≠some b∧∃el f,w'.heap[b]?=some (.cells c el f)) w.heap.size cs x rs g
  | .callio ob k oks wks cs x=>ob.hold→∃f args b c0 os ws,(execOp a.eval o).run E.P w=.ok (.enter f args) w∧η k=some (b,c0)∧E.low b∧zdN η oks os∧(∀c∈ws,E.low c∧∃j n,j∈wks∧η j=some (c,n))∧
      zed (k::(oks++wks))=true∧Calls E.P f args w fun e w'=>e=.returned (zcw [])∧IoPost E.OB w w' b os ws∧zoH E.OB (fun b=>E.Mp b∨∃k n,η k=some (b,n)) w w' b os ws cs x
  | .callva ob wks cs x=>ob.hold→∃f args ws,(execOp a.eval o).run E.P w=.ok (.enter f args) w∧(∀c∈ws,E.low c∧∃j n,j∈wks∧η j=some (c,n))∧
      Calls E.P f args w fun e w'=>∃us,e=.returned (.agg us.toArray)∧VaPost w w' ws∧zoE E.OB (fun b=>E.Mp b∨∃k n,η k=some (b,n)) w w' ws cs x us
  | .alc ob cs x=>ob.hold→∃rs gb w',(execOp a.eval o).run E.P w=.ok (.value (zcw rs)) w'∧CPost E.OB w w' []∧
        zfg w' (fun b c=>¬(E.Mp b∨∃k n,η k=some (b,n))∧gb≠some b∧∃el f,w'.heap[b]?=some (.cells c el f)) w.heap.size cs x rs gb
section
variable {E:Env} {nt:Nat} {η:Eta} {F:Fact→Prop} {a:Act} {w:World}
theorem zhL:∀(ps:List (Nat×Nat)),anyK [] ps=false
  | []=>rfl
  | p::r=>by rw[anyK,zhL r];rfl
theorem zbG (s:S1):s.ment []=false:=by
  cases s
  case fn g fs cs=>rw[S1.ment,zhL,zhL];rfl
  all_goals rfl
theorem zc7:∀(cs:List S1),anyS (S1.ment []) cs=false
  | []=>rfl
  | s::r=>by rw[anyS,Bool.or_eq_false_iff];exact⟨zbG s,zc7 r⟩
theorem ze7 {k off:Nat}:∀ {cs:List S1} {o:Nat},(k,off)∈zc6 k o cs↔o≤off∧off<o+cs.length
  | [],o=>by (simp[zc6])<;>omega
  | s::r,o=>by
    simp only[zc6,List.mem_cons,Prod.mk.injEq,true_and,ze7 (cs:=r),List.length_cons]
    omega
theorem zoO (g:Good E nt η a w) (H:∀f,F f→f.holds E η a w) {k b c off:Nat} {cs:List S1} {vs:List Value} {cur:Array Value} {el:Nat}
    (hk:η k=some (b,c)) (hlow:E.low b) (hb:w.heap[b]?=some (.cells cur el (0,0))) (hsz:off+vs.length≤cur.size) (hc:zat (vw E η w) η cs vs) :
    Rel E nt (upd F (zbQ k off cs) {cells:=zc6 k off cs,rows:=[k]}) a (w.setRow b (cur.toList.take off++vs++cur.toList.drop (off+vs.length)).toArray):=by
  have hlen:=zbg hc
  have hget:∀j,(cur.toList.take off++vs++cur.toList.drop (off+vs.length)).toArray[j]?=if j<off then cur[j]? else if j<off+vs.length then vs[j - off]? else cur[j]?:=by
    intro j
    have hl1:(cur.toList.take off).length=off:=by simp;omega
    simp only[List.getElem?_toArray]
    by_cases h1:j<off
    · rw[if_pos h1,List.append_assoc,List.getElem?_append_left (by omega),List.getElem?_take]
      simp[h1]
    · rw [if_neg h1]
      by_cases h2:j<off+vs.length
      · rw[if_pos h2,List.getElem?_append_left (by simp;omega),List.getElem?_append_right (by omega),hl1]
      · rw[if_neg h2,List.getElem?_append_right (by simp;omega)]
        simp only[List.length_append,hl1,List.getElem?_drop,Array.getElem?_toList]
        congr 1;omega
  have hK:=zh1 g hk hb (cur':=(cur.toList.take off++vs++cur.toList.drop (off+vs.length)).toArray) {cells:=zc6 k off cs,rows:=[k]}
    (fun j v _ _ h3 h4=>by
      rw[hget]
      rw[ze7] at h3
      by_cases h1:j<off
      · rw[if_pos h1];exact h4
      · rw[if_neg h1,if_neg (by omega)];exact h4) (.inl (by simp))
  refine⟨η,zg9 g _ hlow ⟨_,_,hk⟩,fun f hf=>?_⟩
  rcases hf with hf|⟨hf,hs⟩
  · obtain⟨i,s,h1,rfl⟩:=zbX hf
    have hc':zat (vw E η (w.setRow b _)) η cs vs:=zcZ (ks:=[]) hK.view (fun _ _=>rfl) (zc7 cs) hc
    obtain⟨v,h2,h3,h4⟩:=zcA hc' i s h1
    have hi:i<vs.length:=(List.getElem?_eq_some_iff.1 h2).1
    refine⟨b,c,_,el,v,hlow,hk,setRow_heap w b cur _ el (0,0) hb,?_,h3,h4⟩
    rw[hget,if_neg (by omega),if_pos (by omega)]
    simpa using h2
  · exact hK.fact hs (H f hf)
theorem zkV (g:Good E nt η a w) (H:∀f,F f→f.holds E η a w) {k b c:Nat} {e:Ty} {xs:List e.Den} {cur cur':Array Value} {el:Nat}
    (hk:η k=some (b,c)) (hlow:E.low b) (hb:w.heap[b]?=some (.cells cur el (0,0))) (hr:zcH (vw E η w) e xs c cur') :
    Rel E nt (upd F [.row k el e xs] {allof:=[k]}) a (w.setRow b cur'):=by
  have hK:=zh1 g hk hb (cur':=cur') {allof:=[k]} (fun j v _ h2 _ _=>absurd (by simp) h2) (.inr (.inl (by simp)))
  refine⟨η,zg9 g _ hlow ⟨_,_,hk⟩,fun f hf=>?_⟩
  rcases hf with hf|⟨hf,hs⟩
  · simp only[List.mem_singleton] at hf
    subst hf
    exact .inr ⟨b,c,cur',hlow,hk,setRow_heap w b cur _ el (0,0) hb,hr.mono hK.view⟩
  · exact hK.fact hs (H f hf)
end
end Go.Eng
set_option linter.all false
namespace Go.Eng
section
variable {E:Env} {nt:Nat} {η:Eta} {F:Fact→Prop} {a:Act} {w:World}
theorem zoC (g : Good E nt η a w) (H:∀f,F f→f.holds E η a w) {d:Nat} (hd:d<nt) {k:Option Nat} {el:Nat} {e:Ty} {xs:List e.Den} {v:Value} {w':World}
    (h:znh E η w k el e xs v w') (K:Kill) (hKs:d∈K.slots) (hKk:d∈K.keys) (hKo:∀kk,k=some kk→kk∈K.keys) :
    Rel E nt (upd F [.slot d (.one (.o d xs.length)),.row d el e xs] K) (a.put (some d) v) w':=by
  rcases h with ⟨rfl,rfl,hw⟩|⟨c,cur,wd,rfl,rfl,h1,h2,h3,h4,hr⟩|⟨kk,b,c,cur,cur',rfl,hk,hlow,hb,rfl,rfl,hr⟩
  · rw [hw]
    have hK:Keeps E η (fun j=>if j=d then none else η j) a (a.put (some d) (.slice none 0 0)) w w K:=by
      refine⟨?_,?_,?_,fun _ _ _ _ cur _ _ _ _ _ _ _ h2 h3=>⟨cur,h2,h3⟩,fun _ _ _ _ _ _ _ _ _ _ h=>h,fun _ _ _ _ o _ _ _ _ h2 h3=>⟨o,h2,h3⟩⟩
      · rintro b c ⟨h1,h2,h3⟩
        refine⟨h1,fun k n hk=>?_,h3⟩
        dsimp only at hk
        split at hk
        · cases hk
        · exact h2 k n hk
      · intro j hj
        have:j≠d:=fun e=>hj (e▸hKk)
        simp[this]
      · intro t ht;exact zbd (fun e=>ht (e▸hKs))
    refine⟨fun j=>if j=d then none else η j,?_,fun f hf=>?_⟩
    · refine {g.put _ _ with defers:=g.defers.mono rfl (fun D o h _=>h) (fun j b c hj=>by
        split at hj
        · cases hj
        · exact .inl ⟨j,c,hj⟩),own:=?_,inj:=?_}
      · intro j b c hj
        split at hj
        · cases hj
        · exact g.own j b c hj
      · intro j j' b c c' hj hj'
        split at hj
        · cases hj
        · split at hj'
          · cases hj'
          · exact g.inj j j' b c c' hj hj'
    · rcases hf with hf|⟨hf,hs⟩
      · simp only [List.mem_cons,List.not_mem_nil,or_false] at hf
        rcases hf with rfl|rfl
        · simp only[Fact.holds]
          rw[zbb (by rw[g.size];exact hd) (Nat.lt_of_lt_of_le hd g.lim)]
          exact .inl ⟨by simp,rfl,rfl⟩
        · exact .inl ⟨by simp,rfl⟩
      · exact hK.fact hs (H f hf)
  · exact zgz g H hd el c cur hr wd h1 h2 h3 h4 K hKs hKk
  · have hkk := hKo kk rfl
    have hother:∀b',b'≠b→(w.setRow b cur').heap[b']?=w.heap[b']?:=fun b' h=>setRow_other w b b' cur' h
    have hne:∀k' b' c',k' ∉ K.keys→η k'=some (b',c')→b'≠b:=fun k' b' c' h1 h2 e=>h1 ((g.inj k' kk b c' c (e▸h2) hk)▸hkk)
    have hK:Keeps E η (fun j=>if j=d then some (b,c) else if j=kk then none else η j) a (a.put (some d) (.slice (some ⟨b,0,none⟩) xs.length c)) w (w.setRow b cur') K:=by
      refine⟨?_,?_,?_,?_,?_,?_⟩
      · rintro b1 c1 ⟨h1,h2,el1,f1,h3⟩
        have hb1:b1≠b:=fun e=>h2 kk c (e▸hk)
        refine⟨h1,fun j n hj=>?_,el1,f1,(hother b1 hb1).trans h3⟩
        dsimp only at hj
        split at hj
        · simp at hj;omega
        · split at hj
          · cases hj
          · exact h2 j n hj
      · intro j hj
        have h1:j≠d:=fun e=>hj (e▸hKk)
        have h2:j≠kk:=fun e=>hj (e▸hkk)
        simp[h1,h2]
      · intro t ht;exact zbd (fun e=>ht (e▸hKs))
      · intro k' off b' c' cur1 el1 v1 h1 _ _ _ h4 h5 h6
        exact⟨cur1,(hother b' (hne k' b' c' h1 h4)).trans h5,h6⟩
      · intro k' b' c' cur1 el1 h1 _ _ _ h4 h5
        exact (hother b' (hne k' b' c' h1 h4)).trans h5
      · intro k' i b' c' o h1 _ _ h4 h5 h6
        exact⟨o,(hother b' (hne k' b' c' h1 h4)).trans h5,h6⟩
    have gs:=zg9 g cur' hlow ⟨kk,c,hk⟩
    refine⟨fun j=>if j=d then some (b,c) else if j=kk then none else η j,?_,fun f hf=>?_⟩
    · refine { gs.put _ _ with defers:=gs.defers.mono rfl (fun D o h _=>h) (fun j b1 c1 hj=>by
        split at hj
        · simp only[Option.some.injEq,Prod.mk.injEq] at hj
          obtain⟨rfl,rfl⟩:=hj
          exact .inl ⟨kk,_,hk⟩
        · split at hj
          · cases hj
          · exact .inl ⟨j,c1,hj⟩),own:=?_,inj:=?_}
      · intro j b1 c1 hj
        split at hj
        · simp only[Option.some.injEq,Prod.mk.injEq] at hj
          obtain⟨rfl,rfl⟩:=hj
          exact gs.own kk _ _ hk
        · split at hj
          · cases hj
          · exact gs.own j b1 c1 hj
      · intro j j' b1 c1 c2 hj hj'
        by_cases e1:j=d
        · by_cases e2:j'=d
          · omega
          · simp only [e1,if_true,Option.some.injEq,Prod.mk.injEq] at hj
            simp only[e2,if_false] at hj'
            split at hj'
            · cases hj'
            · rename_i e3
              exact absurd (g.inj j' kk b1 c2 c hj' (by rw[←hj.1];exact hk)) e3
        · simp only [e1,if_false] at hj
          split at hj
          · cases hj
          · rename_i e3
            by_cases e2:j'=d
            · simp only[e2,if_true,Option.some.injEq,Prod.mk.injEq] at hj'
              exact absurd (g.inj j kk b1 c1 c hj (by rw[←hj'.1];exact hk)) e3
            · simp only[e2,if_false] at hj'
              split at hj'
              · cases hj'
              · exact g.inj j j' b1 c1 c2 hj hj'
    · rcases hf with hf|⟨hf,hs⟩
      · simp only [List.mem_cons,List.not_mem_nil,or_false] at hf
        rcases hf with rfl|rfl
        · simp only[Fact.holds]
          rw[zbb (by rw[g.size];exact hd) (Nat.lt_of_lt_of_le hd g.lim)]
          exact .inr ⟨b,c,by simp,rfl,hr.2.1⟩
        · exact .inr ⟨b,c,cur',hlow,by simp,setRow_heap w b cur _ el (0,0) hb,hr.mono hK.view⟩
      · exact hK.fact hs (H f hf)
theorem zj9 (g:Good E nt η a w) (H:∀f,F f→f.holds E η a w) {d:Nat} (hd:d<nt) {cs:List RC} {x:(zac cs).Den} {w':World} {bs oks:List Nat} {rs:List Value} {gb:Option Nat}
    (hbs:∀b∈bs,∃k c,k∈oks∧η k=some (b,c)) (hp:CPost E.OB w w' bs)
    (hr:zfg w' (fun b c=>¬(E.Mp b∨∃k n,η k=some (b,n))∧gb≠some b∧∃el f,w'.heap[b]?=some (.cells c el f)) w.heap.size cs x rs gb) :
    Rel E nt (upd F (.slot d (zfm (zcP d cs x 0).1)::(zcP d cs x 0).2.1) {slots:=[d],keys:=(zcP d cs x 0).2.2,cont:=oks}) (a.put (some d) (zcw rs)) w':=by
  let η':Eta:=fun k=>match zaB d cs rs 0 k with|some r=>r|none=>η k
  have hη:∀k,η' k=match zaB d cs rs 0 k with|some r=>r|none=>η k:=fun _=>rfl
  have hnb:∀k b c,k ∉ oks→η k=some (b,c)→b ∉ bs:=fun k b c h1 h2 h3=>by
    obtain⟨k',c',h4,h5⟩:=hbs b h3
    exact h1 ((g.inj k k' b c c' h2 h5)▸h4)
  have hK:Keeps E η η' a (a.put (some d) (zcw rs)) w w' {slots:=[d],keys:=(zcP d cs x 0).2.2,cont:=oks}:=by
    refine⟨?_,?_,?_,?_,?_,?_⟩
    · rintro b c ⟨h1,h2,el,f,h3⟩
      have hlt:=zaf h3
      have hb:b ∉ bs:=fun hb=>by obtain⟨k,c',_,h5⟩:=hbs b hb;exact h2 k c' h5
      refine⟨h1,fun k n hk=>?_,el,f,(hp.keep b hlt hb).trans h3⟩
      rw[hη] at hk
      split at hk
      · rename_i r hf
        subst hk
        have:=zaL cs x rs 0 k gb b n hr hf
        omega
      · exact h2 k n hk
    · intro k hk
      rw[hη,zej cs x rs 0 k hk]
    · intro t ht;exact zbd (by simpa using ht)
    · intro k off b c cur el v h1 h2 h3 h4 h5 h6 h7
      exact⟨cur,(hp.keep b (zaf h6) (hnb k b c h3 h5)).trans h6,h7⟩
    · intro k b c cur el h1 h2 h3 h4 h5 h6
      exact (hp.keep b (zaf h6) (hnb k b c h4 h5)).trans h6
    · intro k i b c o h1 h2 h3 h4 h5 h6
      by_cases hb:b∈bs
      · exact hp.obk b hb i o h5 h6
      · exact⟨o,(hp.keep b (zaf h5) hb).trans h5,h6⟩
  have hsz:=hp.size
  have hgr:=g.grow
  refine⟨η',?_,fun f hf=>?_⟩
  · refine {size:=(g.put _ _).size,lim:=g.lim,defers:=g.defers.mono rfl (fun D o h hn=>(hp.keep D (zaf h) (fun hb=>by
        obtain⟨k,c,_,h5⟩:=hbs D hb
        exact hn k c h5)).trans h) (fun k b c hk=>by
        rw[hη] at hk
        split at hk
        · rename_i r hf
          subst hk
          have:=zaL cs x rs 0 k gb b c hr hf
          exact .inr (by omega)
        · exact .inl ⟨k,c,hk⟩),os:=hp.os.trans g.os,tape:=hp.tape.trans g.tape,output:=hp.output.trans g.output,grow:=by omega,keep:=?_,own:=?_,dis:=g.dis,inj:=?_,old:=g.old,obkeep:=?_}
    · intro b hb hm hw
      have hnb':b ∉ bs:=fun h=>by
        obtain⟨k,c,_,h5⟩:=hbs b h
        rcases (g.own k b c h5).2 with (h6|h6)|h6
        · omega
        · exact hw h6
        · exact hm h6
      exact (hp.keep b (by omega) hnb').trans (g.keep b hb hm hw)
    · intro k b c hk
      rw[hη] at hk
      split at hk
      · rename_i r hf
        subst hk
        have:=zaL cs x rs 0 k gb b c hr hf
        exact⟨this.2.2,.inl (.inl (by omega))⟩
      · have:=g.own k b c hk
        exact⟨by omega,this.2⟩
    · intro k k' b c c' hk hk'
      rw[hη] at hk hk'
      split at hk<;>split at hk'
      · rename_i r hf _ r' hf'
        subst hk;subst hk'
        exact zf4 cs x rs 0 k k' gb _ _ _ _ hr hf hf'
      · rename_i r hf _ hf'
        subst hk
        have h1:=zaL cs x rs 0 k gb b c hr hf
        have h2:=(g.own k' b c' hk').1
        omega
      · rename_i hf _ r hf'
        subst hk'
        have h1:=zaL cs x rs 0 k' gb b c' hr hf'
        have h2:=(g.own k b c hk).1
        omega
      · exact g.inj k k' b c c' hk hk'
    · intro b i o hb hm h1 h2
      obtain⟨o1,h3,h4⟩:=g.obkeep b i o hb hm h1 h2
      by_cases hb':b∈bs
      · exact hp.obk b hb' i o1 h3 h4
      · exact⟨o1,(hp.keep b (zaf h3) hb').trans h3,h4⟩
  · rcases hf with hf|⟨hf,hs⟩
    · have hres:=res_holds (E:=E) (d:=d) (η':=η') (a':=a.put (some d) (zcw rs)) g.grow (fun b c ⟨h1,h2,h3⟩=>⟨fun h=>h1 (.inl h),fun k n hk=>by
          rw[hη] at hk
          split at hk
          · rename_i r hf
            subst hk
            exact h2 (zaL cs x rs 0 k gb b n hr hf).1
          · exact h1 (.inr ⟨k,n,hk⟩),h3⟩) cs x rs 0 gb hr (fun k r h=>by rw[hη,h])
      rcases List.mem_cons.1 hf with rfl|hf
      · simp only[Fact.holds]
        rw[zbb (by rw[g.size];exact hd) (Nat.lt_of_lt_of_le hd g.lim)]
        exact zgn hres.1
      · exact hres.2 f hf
    · exact hK.fact hs (H f hf)
theorem zgD {η:Eta} (hi:∀k k' b c c',η k=some (b,c)→η k'=some (b,c')→k=k'):∀ {ks bs:List Nat},zdN η ks bs→∀ {k b c:Nat},k∈ks→η k=some (b,c)→b∈bs
  | [],[],_,k,b,c,hk,_=>by cases hk
  | [],_::_,h,_,_,_,_,_=>h.elim
  | _::_,[],h,_,_,_,_,_=>h.elim
  | k :: r,b::l,⟨⟨c,h1⟩,h2⟩,k',b',c',hk,h=>by
    rcases List.mem_cons.1 hk with rfl|hk
    · rw[h1] at h
      simp only[Option.some.injEq,Prod.mk.injEq] at h
      rw[h.1];exact List.mem_cons_self
    · exact List.mem_cons_of_mem _ (zgD hi h2 hk h)
theorem zcS:∀ {l:List Nat},zed l=true→l.Nodup
  | [],_=>List.nodup_nil
  | k::r,h=>by
    simp only[zed,Bool.and_eq_true,Bool.not_eq_true'] at h
    exact List.nodup_cons.2 ⟨fun hk=>(by rw[zan.2 hk] at h;cases h.1),zcS h.2⟩
theorem ziL {ks:List Nat}:∀ {l:List Nat},anyN ks l=false→∀k∈ks,k ∉ l
  | [],_,k,_,hk=>by cases hk
  | j::r,h,k,hk,hc=>by
    simp only[anyN,Bool.or_eq_false_iff] at h
    rcases List.mem_cons.1 hc with rfl|hc
    · rw[zan.2 hk] at h;cases h.1
    · exact ziL h.2 k hk hc
theorem zjU {dst:Option Nat} {ob:OP} {k:Nat} {oks wks:List Nat} {cs:List IC} {x:(icTy cs).Den} {r:Res} (h:zko dst ob k oks wks cs x=some r):r.ob=ob:=by
  unfold zko at h
  cases hany:anyN (k::oks) (zaA (zeO k) cs x oks 0).2.2 with
  | true=>rw[hany] at h;simp at h
  | false=>
    rw[hany] at h
    simp only[cond_false,Option.some.injEq] at h
    subst h;rfl
theorem zgY (g : Good E nt η a w) (H:∀f,F f→f.holds E η a w) {dst:Option Nat} (hd:∀d,dst=some d→d<nt) {v:Value} {cs:List IC} {x:(icTy cs).Den} {w':World} {ob:OP} {k b c0:Nat} {oks wks os ws:List Nat} {r:Res}
    (hr:zko dst ob k oks wks cs x=some r) (hk:η k=some (b,c0)) (hlow:E.low b) (hos:zdN η oks os) (hws:∀c∈ws,E.low c∧∃j n,j∈wks∧η j=some (c,n)) (hnd:zed (k::(oks++wks))=true)
    (hp:IoPost E.OB w w' b os ws) (ho:zoH E.OB (fun b=>E.Mp b∨∃k n,η k=some (b,n)) w w' b os ws cs x) :
    Rel E nt (upd F r.add r.kill) (a.put dst v) w':=by
  unfold zko at hr
  cases hany:anyN (k::oks) (zaA (zeO k) cs x oks 0).2.2 with
  | true=>rw[hany] at hr;simp at hr
  | false=>
  rw[hany] at hr
  simp only[cond_false,Option.some.injEq] at hr
  subst hr
  have hfresh:=ziL hany
  obtain⟨cur,el,us,ws',o1,o2,o3,o4,o5⟩:=ho
  have hn:=zcS hnd
  have hn1:=List.nodup_cons.1 hn
  have hn2:=List.nodup_append.1 hn1.2
  have hkw:k ∉ wks:=fun h=>hn1.1 (List.mem_append.2 (.inr h))
  have hokw:∀j∈oks,j ∉ wks:=fun j h1 h2=>(hn2.2.2 j h1 j h2) rfl
  let η':Eta:=fun j=>match zaz (zeO k) cs us 0 j with|some r=>r|none=>if j∈wks then none else η j
  have hη:∀j,η' j=match zaz (zeO k) cs us 0 j with|some r=>r|none=>if j∈wks then none else η j:=fun _=>rfl
  have hsame:∀j,j ∉ wks→j ∉ (zaA (zeO k) cs x oks 0).2.2→η' j=η j:=fun j h1 h2=>by
    rw[hη,zbs cs x oks us 0 j h2]
    simp only[if_neg h1]
  have hblock:∀j b' c',zaz (zeO k) cs us 0 j=some (some (b',c'))→b'∈ws':=fun j b' c' h=>zbt cs x us os ws' 0 j b' c' o5 h
  have hws':∀c∈ws',c≠b∧c<w'.heap.size∧((E.low c∧∃j n,j∈wks∧η j=some (c,n))∨w.heap.size≤c):=fun c hc=>
    ⟨(o4 c hc).1,o5.low.1 c hc,(o4 c hc).2.imp (hws c) id⟩
  have hlow':∀c∈ws',E.low c:=fun c hc=>by
    rcases (hws' c hc).2.2 with h|h
    · exact h.1
    · exact .inl (Nat.le_trans g.grow h)
  have hobk:∀c∈os,∃j n,j∈oks∧η j=some (c,n):=zdE hos
  -- a block with a key that stays is none of the call's
  have hout:∀j b' c',j≠k→j ∉ oks→j ∉ wks→η j=some (b',c')→b'≠b∧b' ∉ os∧b' ∉ ws:=fun j b' c' h1 h2 h3 h4=>by
    refine⟨fun e=>h1 (g.inj j k b' c' c0 h4 (e▸hk)),fun h=>?_,fun h=>?_⟩
    · obtain⟨j',n,h5,h6⟩:=hobk b' h
      exact h2 ((g.inj j j' b' c' n h4 h6)▸h5)
    · obtain⟨j',n,h5,h6⟩:=(hws b' h).2
      exact h3 ((g.inj j j' b' c' n h4 h6)▸h5)
  have hfree:∀b',(∀j n,η j≠some (b',n))→b'≠b∧b' ∉ os∧b' ∉ ws:=fun b' h=>by
    refine⟨fun e=>h k c0 (e▸hk),fun h1=>?_,fun h1=>?_⟩
    · obtain⟨j',n,_,h6⟩:=hobk b' h1;exact h j' n h6
    · obtain⟨j',n,_,h6⟩:=(hws b' h1).2;exact h j' n h6
  have hput:∀t,t ∉ dstL dst→(a.put dst v).tmps.getD t undef=a.tmps.getD t undef:=fun t ht=>by
    cases dst with
    | none=>rfl
    | some d=>exact zbd (by simpa [dstL] using ht)
  have hK : Keeps E η η' a (a.put dst v) w w' {slots:=dstL dst,keys:=wks++(zaA (zeO k) cs x oks 0).2.2,allof:=[k],cont:=oks}:=by
    refine⟨?_,?_,hput,?_,?_,?_⟩
    · rintro b' c ⟨h1,h2,el',f,h3⟩
      have hlt:=zaf h3
      obtain⟨q1,q2,q3⟩:=hfree b' h2
      refine⟨h1,fun j n hj=>?_,el',f,(hp.keep b' hlt q1 q2 q3).trans h3⟩
      rw[hη] at hj
      split at hj
      · rename_i r hf
        subst hj
        rcases (hws' b' (hblock j b' n hf)).2.2 with ⟨_,j',n',_,h6⟩|h6
        · exact h2 j' n' h6
        · omega
      · split at hj
        · cases hj
        · exact h2 j n hj
    · intro j hj
      simp only[List.mem_append,not_or] at hj
      exact hsame j hj.1 hj.2
    · intro j off b' c cur' el' v' h1 h2 h3 h4 h5 h6 h7
      simp only[List.mem_append,not_or] at h1
      obtain⟨q1,q2,q3⟩:=hout j b' c (by simpa using h2) h3 h1.1 h5
      exact⟨cur',(hp.keep b' (zaf h6) q1 q2 q3).trans h6,h7⟩
    · intro j b' c cur' el' h1 h2 h3 h4 h5 h6
      simp only[List.mem_append,not_or] at h1
      obtain⟨q1,q2,q3⟩:=hout j b' c (by simpa using h3) h4 h1.1 h5
      exact (hp.keep b' (zaf h6) q1 q2 q3).trans h6
    · intro j i b' c o h1 h2 h3 h4 h5 h6
      simp only[List.mem_append,not_or] at h1
      by_cases hb:b'∈os
      · exact hp.obk b' hb i o h5 h6
      · by_cases hjo:j∈oks
        · exact absurd (zgD g.inj hos hjo h4) hb
        · obtain⟨q1,q2,q3⟩:=hout j b' c (by simpa using h3) hjo h1.1 h4
          exact⟨o,(hp.keep b' (zaf h5) q1 q2 q3).trans h5,h6⟩
  have hsz:=hp.size
  have hgr:=g.grow
  refine⟨η',?_,fun f hf=>?_⟩
  · refine {size:=(g.put _ _).size,lim:=g.lim,nd:=(g.put _ _).nd,defers:=g.defers.mono (by cases dst<;>rfl) (fun D o h hn=>by
        obtain⟨q1,q2,q3⟩:=hfree D hn
        exact (hp.keep D (zaf h) q1 q2 q3).trans h) (fun j b' c hj=>by
        rw[hη] at hj
        split at hj
        · rename_i r hf
          subst hj
          rcases (hws' b' (hblock j b' c hf)).2.2 with ⟨_,j',n',_,h6⟩|h6
          · exact .inl ⟨j',n',h6⟩
          · exact .inr h6
        · split at hj
          · cases hj
          · exact .inl ⟨j,c,hj⟩),os:=hp.os.trans g.os,tape:=hp.tape.trans g.tape,output:=hp.output.trans g.output,grow:=by omega,keep:=?_,own:=?_,dis:=g.dis,inj:=?_,old:=g.old,obkeep:=?_}
    · intro b' hb hm hw
      have hno:∀j n,η j≠some (b',n):=fun j n h=>by
        rcases (g.own j b' n h).2 with (h6|h6)|h6
        · omega
        · exact hw h6
        · exact hm h6
      obtain⟨q1,q2,q3⟩:=hfree b' hno
      exact (hp.keep b' (by omega) q1 q2 q3).trans (g.keep b' hb hm hw)
    · intro j b' c hj
      rw[hη] at hj
      split at hj
      · rename_i r hf
        subst hj
        have hb:=hblock j b' c hf
        exact⟨(hws' b' hb).2.1,.inl (hlow' b' hb)⟩
      · split at hj
        · cases hj
        · have:=g.own j b' c hj
          exact⟨by omega,this.2⟩
    · intro j j' b' c c' hj hj'
      have cross:∀i i' n n',zaz (zeO k) cs us 0 i=some (some (b',n))→i' ∉ wks→η i'=some (b',n')→False:=fun i i' n n' h1 h2 h3=>by
        rcases (hws' b' (hblock i b' n h1)).2.2 with ⟨_,i2,n2,h5,h6⟩|h6
        · exact h2 ((g.inj i' i2 b' n' n2 h3 h6)▸h5)
        · have:=(g.own i' b' n' h3).1;omega
      rw[hη] at hj hj'
      split at hj<;>split at hj'
      · rename_i r hf _ r' hf'
        subst hj;subst hj'
        exact zb4 cs x us os ws' 0 j j' b' c c' o5 o3 hf hf'
      · rename_i r hf _ hf'
        subst hj
        split at hj'
        · cases hj'
        · rename_i hn
          exact (cross j j' c c' hf hn hj').elim
      · rename_i hf _ r hf'
        subst hj'
        split at hj
        · cases hj
        · rename_i hn
          exact (cross j' j c' c hf' hn hj).elim
      · split at hj
        · cases hj
        · split at hj'
          · cases hj'
          · exact g.inj j j' b' c c' hj hj'
    · intro b' i o hb hm h1 h2
      obtain⟨o1,h3,h4⟩:=g.obkeep b' i o hb hm h1 h2
      by_cases hb':b'∈os
      · exact hp.obk b' hb' i o1 h3 h4
      · have hnl:¬E.low b':=g.dis b' hm
        exact⟨o1,(hp.keep b' (zaf h3) (fun e=>hnl (e▸hlow)) hb' (fun h=>hnl (hws b' h).1)).trans h3,h4⟩
  · rcases hf with hf|⟨hf,hs⟩
    · have hk' : η' k=some (b,c0):=(hsame k hkw (hfresh k List.mem_cons_self)).trans hk
      have hres := io_holds (E:=E) (d:=zeO k) (η':=η') (a':=a.put dst v) (w':=w') (fun b' r ⟨h1,h2,h3,h4⟩=>⟨fun h=>by
          rcases h1 with h1|h1
          · exact h1 (.inl h)
          · rcases h with h|⟨o,h⟩
            · exact g.old b' h (hws b' h1).1
            · obtain⟨j,n,_,h6⟩:=(hws b' h1).2
              exact (g.defers.2 _ h).2.2 j n h6,fun j n hj=>by
          rw[hη] at hj
          split at hj
          · rename_i r hf
            subst hj
            exact h3 (hblock j b' n hf)
          · split at hj
            · cases hj
            · rename_i hjw
              rcases h1 with h1|h1
              · exact h1 (.inr ⟨j,n,hj⟩)
              · obtain⟨j',n',h5,h6⟩:=(hws b' h1).2
                exact hjw ((g.inj j j' b' n n' hj h6)▸h5),h4⟩) cs x us oks os ws' 0 o5
        (zii (fun j hj=>hsame j (hokw j hj) (hfresh j (List.mem_cons_of_mem _ hj))) hos) hlow' (fun j r h=>by rw[hη,h])
      rcases List.mem_append.1 hf with hf|hf
      · obtain⟨i,s,h1,rfl⟩:=zbX hf
        obtain⟨v',h2,h3,h4⟩:=zcA hres.1 i s h1
        exact⟨b,c0,cur,el,v',hlow,hk',o1,by rw[Nat.zero_add];exact o2 i v' h2,h3,h4⟩
      · exact hres.2 f hf
    · exact hK.fact hs (H f hf)
theorem zkA (g : Good E nt η a w) (H:∀f,F f→f.holds E η a w) {d:Nat} (hd:d<nt) {cs:List IC} {x:(icTy cs).Den} {w':World} {wks ws:List Nat} {us:List Value}
    (hws:∀c∈ws,E.low c∧∃j n,j∈wks∧η j=some (c,n)) (hp:VaPost w w' ws) (ho:zoE E.OB (fun b=>E.Mp b∨∃k n,η k=some (b,n)) w w' ws cs x us) :
    Rel E nt (upd F (.slot d (.agg (zaA d cs x [] 0).1)::(zaA d cs x [] 0).2.1) {slots:=[d],keys:=wks++(zaA d cs x [] 0).2.2}) (a.put (some d) (.agg us.toArray)) w':=by
  obtain⟨ws',o3,o4,o5⟩:=ho
  let η':Eta:=fun j=>match zaz d cs us 0 j with|some r=>r|none=>if j∈wks then none else η j
  have hη:∀j,η' j=match zaz d cs us 0 j with|some r=>r|none=>if j∈wks then none else η j:=fun _=>rfl
  have hsame:∀j,j ∉ wks→j ∉ (zaA d cs x [] 0).2.2→η' j=η j:=fun j h1 h2=>by
    rw[hη,zbs cs x [] us 0 j h2]
    simp only[if_neg h1]
  have hblock:∀j b' c',zaz d cs us 0 j=some (some (b',c'))→b'∈ws':=fun j b' c' h=>zbt cs x us [] ws' 0 j b' c' o5 h
  have hws':∀c∈ws',c<w'.heap.size∧((E.low c∧∃j n,j∈wks∧η j=some (c,n))∨w.heap.size≤c):=fun c hc=>
    ⟨o5.low.1 c hc,(o4 c hc).imp (hws c) id⟩
  have hlow':∀c∈ws',E.low c:=fun c hc=>by
    rcases (hws' c hc).2 with h|h
    · exact h.1
    · exact .inl (Nat.le_trans g.grow h)
  have hout:∀j b' c',j ∉ wks→η j=some (b',c')→b' ∉ ws:=fun j b' c' h3 h4 h=>by
    obtain⟨j',n,h5,h6⟩:=(hws b' h).2
    exact h3 ((g.inj j j' b' c' n h4 h6)▸h5)
  have hfree:∀b',(∀j n,η j≠some (b',n))→b' ∉ ws:=fun b' h h1=>by
    obtain⟨j',n,_,h6⟩:=(hws b' h1).2;exact h j' n h6
  have hK:Keeps E η η' a (a.put (some d) (.agg us.toArray)) w w' {slots:=[d],keys:=wks++(zaA d cs x [] 0).2.2}:=by
    refine⟨?_,?_,fun t ht=>zbd (by simpa using ht),?_,?_,?_⟩
    · rintro b' c ⟨h1,h2,el',f,h3⟩
      have hlt:=zaf h3
      refine⟨h1,fun j n hj=>?_,el',f,(hp.keep b' hlt (hfree b' h2)).trans h3⟩
      rw[hη] at hj
      split at hj
      · rename_i r hf
        subst hj
        rcases (hws' b' (hblock j b' n hf)).2 with ⟨_,j',n',_,h6⟩|h6
        · exact h2 j' n' h6
        · omega
      · split at hj
        · cases hj
        · exact h2 j n hj
    · intro j hj
      simp only[List.mem_append,not_or] at hj
      exact hsame j hj.1 hj.2
    · intro j off b' c cur' el' v' h1 h2 h3 h4 h5 h6 h7
      simp only[List.mem_append,not_or] at h1
      exact⟨cur',(hp.keep b' (zaf h6) (hout j b' c h1.1 h5)).trans h6,h7⟩
    · intro j b' c cur' el' h1 h2 h3 h4 h5 h6
      simp only[List.mem_append,not_or] at h1
      exact (hp.keep b' (zaf h6) (hout j b' c h1.1 h5)).trans h6
    · intro j i b' c o h1 h2 h3 h4 h5 h6
      simp only[List.mem_append,not_or] at h1
      exact⟨o,(hp.keep b' (zaf h5) (hout j b' c h1.1 h4)).trans h5,h6⟩
  have hsz:=hp.size
  have hgr:=g.grow
  refine⟨η',?_,fun f hf=>?_⟩
  · refine {size:=(g.put _ _).size,lim:=g.lim,defers:=g.defers.mono rfl (fun D o h hn=>(hp.keep D (zaf h) (hfree D hn)).trans h) (fun j b' c hj=>by
        rw[hη] at hj
        split at hj
        · rename_i r hf
          subst hj
          rcases (hws' b' (hblock j b' c hf)).2 with ⟨_,j',n',_,h6⟩|h6
          · exact .inl ⟨j',n',h6⟩
          · exact .inr h6
        · split at hj
          · cases hj
          · exact .inl ⟨j,c,hj⟩),os:=hp.os.trans g.os,tape:=hp.tape.trans g.tape,output:=hp.output.trans g.output,grow:=by omega,keep:=?_,own:=?_,dis:=g.dis,inj:=?_,old:=g.old,obkeep:=?_}
    · intro b' hb hm hw
      have hno:∀j n,η j≠some (b',n):=fun j n h=>by
        rcases (g.own j b' n h).2 with (h6|h6)|h6
        · omega
        · exact hw h6
        · exact hm h6
      exact (hp.keep b' (by omega) (hfree b' hno)).trans (g.keep b' hb hm hw)
    · intro j b' c hj
      rw[hη] at hj
      split at hj
      · rename_i r hf
        subst hj
        have hb:=hblock j b' c hf
        exact⟨(hws' b' hb).1,.inl (hlow' b' hb)⟩
      · split at hj
        · cases hj
        · have:=g.own j b' c hj
          exact⟨by omega,this.2⟩
    · intro j j' b' c c' hj hj'
      have cross:∀i i' n n',zaz d cs us 0 i=some (some (b',n))→i' ∉ wks→η i'=some (b',n')→False:=fun i i' n n' h1 h2 h3=>by
        rcases (hws' b' (hblock i b' n h1)).2 with ⟨_,i2,n2,h5,h6⟩|h6
        · exact h2 ((g.inj i' i2 b' n' n2 h3 h6)▸h5)
        · have:=(g.own i' b' n' h3).1;omega
      rw[hη] at hj hj'
      split at hj<;>split at hj'
      · rename_i r hf _ r' hf'
        subst hj;subst hj'
        exact zb4 cs x us [] ws' 0 j j' b' c c' o5 o3 hf hf'
      · rename_i r hf _ hf'
        subst hj
        split at hj'
        · cases hj'
        · rename_i hn
          exact (cross j j' c c' hf hn hj').elim
      · rename_i hf _ r hf'
        subst hj'
        split at hj
        · cases hj
        · rename_i hn
          exact (cross j' j c' c hf' hn hj).elim
      · split at hj
        · cases hj
        · split at hj'
          · cases hj'
          · exact g.inj j j' b' c c' hj hj'
    · intro b' i o hb hm h1 h2
      obtain⟨o1,h3,h4⟩:=g.obkeep b' i o hb hm h1 h2
      have hnl:¬E.low b':=g.dis b' hm
      exact⟨o1,(hp.keep b' (zaf h3) (fun h=>hnl (hws b' h).1)).trans h3,h4⟩
  · rcases hf with hf|⟨hf,hs⟩
    · have hres := io_holds (E:=E) (d:=d) (η':=η') (a':=a.put (some d) (.agg us.toArray)) (w':=w') (fun b' r ⟨h1,h3,h4⟩=>⟨fun h=>by
          rcases h1 with h1|h1
          · exact h1 (.inl h)
          · rcases h with h|⟨o,h⟩
            · exact g.old b' h (hws b' h1).1
            · obtain⟨j,n,_,h6⟩:=(hws b' h1).2
              exact (g.defers.2 _ h).2.2 j n h6,fun j n hj=>by
          rw[hη] at hj
          split at hj
          · rename_i r hf
            subst hj
            exact h3 (hblock j b' n hf)
          · split at hj
            · cases hj
            · rename_i hjw
              rcases h1 with h1|h1
              · exact h1 (.inr ⟨j,n,hj⟩)
              · obtain⟨j',n',h5,h6⟩:=(hws b' h1).2
                exact hjw ((g.inj j j' b' n n' hj h6)▸h5),h4⟩) cs x us [] [] ws' 0 o5 trivial hlow' (fun j r h=>by rw[hη,h])
      rcases List.mem_cons.1 hf with rfl|hf
      · simp only[Fact.holds]
        rw[zbb (by rw[g.size];exact hd) (Nat.lt_of_lt_of_le hd g.lim)]
        exact⟨us,rfl,hres.1⟩
      · exact hres.2 f hf
    · exact hK.fact hs (H f hf)
abbrev Fw (ro:Option Nat):Fence:={Fence.wide with round:=ro}
theorem zgh {ro:Option Nat} {q:Nat} {P:Program} {f:FuncId} {args:Array Value} {w:World} {R:Ending→World→Prop} (h:Calls P f args w R):CallsIn (Fw ro) q P f args w R:=
  ⟨trivial,(callsIn_wide (n:=q).2 h).2⟩
theorem zau {ro:Option Nat} {q:Nat} {P:Program} {o:Oper} {a:Act} {w:World} {K:Act→World→Prop} {Q:Exit→Act→World→Prop} {r:Result Next} (hnd:∀d,o.op≠.defer d) (hr:(execOp a.eval o).run P w=r)
    (h:o.uponIn (Fw ro) q P a K Q r):o.wpIn (Fw ro) q P a w K Q:=by
  refine⟨fun _ _=>trivial,?_⟩
  rw[Oper.semAt_eq _ _ _ hnd,hr]
  exact h
theorem Good.drew {E:Env} {nt:Nat} {η:Eta} {a:Act} {w:World} (g:Good E nt η a w):Good E nt η a w.drew:=
  ⟨g.size,g.lim,g.defers,g.os,g.tape,g.output,g.grow,g.keep,g.own,g.dis,g.inj,g.old,g.obkeep,g.nd⟩
theorem zlZ {E:Env} {η:Eta} {a:Act} {w:World} {f:Fact} (h:f.holds E η a w):f.holds E η a w.drew:=h
theorem zcK (g:Good E nt η a w) (H:∀f,F f→f.holds E η a w) {o:Oper} {e:Eff} (he:za6 E η a w o e) {r:Res} (hr:zkK o.dst e=some r)
    (hd:∀d,o.dst=some d→d<nt) (hob:r.ob.hold) (hnd:∀d,o.op≠.defer d) {ro:Option Nat} {q:Nat} {K:Act→World→Prop} {Q:Exit→Act→World→Prop} (hK:∀a' w',Rel E nt (upd F r.add r.kill) a' w'→K a' w') :
    o.wpIn (Fw ro) q E.P a w K Q:=by
  cases hdst:o.dst with
  | none=>
    rw[hdst] at hr
    cases e<;>simp only[zkK] at hr<;>try (cases hr;done)
    case st k off cs=>
      obtain⟨vs,b,c,cur,el,h1,h2,h3,h4,h5,h6⟩:=he
      refine zau hnd h6 ?_
      simp only[Option.some.injEq] at hr
      subst hr
      simp only[Oper.uponIn,hdst]
      exact hK _ _ (zoO g H h1 h2 h3 h4 h5)
    case strow ob k el e xs=>
      simp only[Option.some.injEq] at hr
      subst hr
      obtain⟨b,c,cur,cur',h1,h2,h3,h4,h5⟩:=he hob
      refine zau hnd h5 ?_
      simp only[Oper.uponIn,hdst]
      exact hK _ _ (zkV g H h1 h2 h3 h4)
    case callio ob k oks wks cs x=>
      have hob':ob.hold:=zjU hr▸hob
      obtain⟨f,args,b,c0,os,ws,h1,h2,h3,h4,h5,h6,h7⟩:=he hob'
      refine zau hnd h1 ?_
      simp only[Oper.uponIn,hdst]
      refine⟨fun h=>(by cases h),zgh (h7.mono fun e' w' ⟨h8,h9,h10⟩=>?_)⟩
      subst h8
      exact hK _ _ (zgY g H (fun d h=>by cases h) hr h2 h3 h4 h5 h6 h9 h10)
  | some d=>
    have hd':=hd d hdst
    rw[hdst] at hr
    cases e<;>simp only[zkK] at hr<;>try (cases hr;done)
    case val ob s=>
      simp only[Option.some.injEq] at hr
      subst hr
      obtain⟨v,h1,h2⟩:=he hob
      refine zau hnd h1 ?_
      simp only[Oper.uponIn,hdst]
      exact hK _ _ (zeE g H hd' h2)
    case nan ob k r=>
      simp only[Option.some.injEq] at hr
      subst hr
      obtain⟨n,w',h1,hw,h2⟩:=he hob
      refine zau hnd h1 ?_
      simp only[Oper.uponIn,hdst]
      rcases hw with rfl|rfl
      · exact hK _ _ (zeE g H hd' (s:=.one (.fo k r)) ⟨n,rfl,h2⟩)
      · exact hK _ _ (zeE (w:=w.drew) g.drew (fun f hf=>zlZ (H f hf)) hd' (s:=.one (.fo k r)) ⟨n,rfl,h2⟩)
    case new el cs=>
      cases hm:anyS (S1.ment [d]) cs with
      | true=>rw[hm] at hr;simp at hr
      | false=>
        rw[hm] at hr
        simp only[cond_false,Option.some.injEq] at hr
        subst hr
        obtain⟨vs,h1,h2⟩:=he
        refine zau hnd h1 ?_
        simp only[Oper.uponIn,hdst]
        exact hK _ _ (zob g H hd' el hm h2)
    case newob el i=>
      simp only[Option.some.injEq] at hr
      subst hr
      obtain⟨cur,h1,h2⟩:=he
      refine zau hnd h1 ?_
      simp only[Oper.uponIn,hdst]
      exact hK _ _ (zlD g H hd' el i h2)
    case newrow ob el e xs=>
      simp only[Option.some.injEq] at hr
      subst hr
      obtain⟨c,cur,h1,h2⟩:=he hob
      refine zau hnd h1 ?_
      simp only[Oper.uponIn,hdst]
      exact hK _ _ (zgz g H hd' el c cur h2 w rfl rfl rfl rfl _ (by simp) (by simp))
    case app ob k el e xs=>
      simp only[Option.some.injEq] at hr
      subst hr
      obtain⟨v,w',h1,h2⟩:=he hob
      refine zau hnd h1 ?_
      simp only[Oper.uponIn,hdst]
      exact hK _ _ (zoC g H hd' h2 _ (by simp) (by cases k<;>simp) (by rintro kk rfl;simp))
    case call ob oks cs x=>
      simp only[Option.some.injEq] at hr
      subst hr
      obtain⟨f,args,bs,h1,h2,h3⟩:=he hob
      refine zau hnd h1 ?_
      simp only[Oper.uponIn,hdst]
      refine⟨fun h=>(by cases h),zgh (h3.mono fun e' w' ⟨rs,gb,h4,h5,h6⟩=>?_)⟩
      subst h4
      exact hK _ _ (zj9 g H hd' h2 h5 h6)
    case alc ob cs x=>
      simp only[Option.some.injEq] at hr
      subst hr
      obtain⟨rs,gb,w',h1,h2,h3⟩:=he hob
      refine zau hnd h1 ?_
      simp only[Oper.uponIn,hdst]
      exact hK _ _ (zj9 g H hd' (fun b hb=>by cases hb) h2 h3)
    case callio ob k oks wks cs x=>
      have hob':ob.hold:=zjU hr▸hob
      obtain⟨f,args,b,c0,os,ws,h1,h2,h3,h4,h5,h6,h7⟩:=he hob'
      refine zau hnd h1 ?_
      simp only[Oper.uponIn,hdst]
      refine⟨fun h=>(by cases h),zgh (h7.mono fun e' w' ⟨h8,h9,h10⟩=>?_)⟩
      subst h8
      exact hK _ _ (zgY g H (fun d' h=>by cases h;exact hd') hr h2 h3 h4 h5 h6 h9 h10)
    case callva ob wks cs x=>
      simp only[Option.some.injEq] at hr
      subst hr
      obtain⟨f,args,ws,h1,h2,h3⟩:=he hob
      refine zau hnd h1 ?_
      simp only[Oper.uponIn,hdst]
      refine⟨fun h=>(by cases h),zgh (h3.mono fun e' w' ⟨us,h4,h5,h6⟩=>?_)⟩
      subst h4
      exact hK _ _ (zkA g H hd' h2 h5 h6)
end
end Go.Eng
set_option linter.all false
namespace Go.Eng
/-! ### The table of types -/
structure TIOk (P:Program) (t:Nat) (i:TInfo):Prop where
  desc:match i.kind with
    | .int k=>P.underlying t=some (.int k)
    | .bool=>P.underlying t=some .bool
    | .str=>P.underlying t=some .string
    | .flt k=>P.underlying t=some (.float k)
    | .cpx k=>P.underlying t=some (.complex k)
    | .slice e=>P.underlying t=some (.slice e)
    | .struct fs=>∃fa:Array Field,P.underlying t=some (.struct fa)∧fa.toList.map (fun f=>(f.type,f.offset))=fs
    | .array n e=>P.underlying t=some (.array n e)
    | .ptr e=>P.underlying t=some (.pointer e)
    | .iface=>∃ms,P.underlying t=some (.interface ms)
    | .other=>∃d,P.underlying t=some d∧(match d with | .struct _ | .array _ _=>False | _=>True)
  info:∃ti,P.info? t=some ti∧ti.size=i.size∧ti.bytes=i.bytes∧ti.zero=some i.zero
  zsize:i.zero.cells.size=i.size
structure TblOk (P:Program) (tt:TT):Prop where
  rows:∀t i,tt.get t=some i→TIOk P t i
  ok:ziQ tt tt=true
theorem zfw {all:TT}:∀ {tt:TT} {t:Nat} {i:TInfo},ziQ all tt=true→tt.get t=some i→zdg all i=true
  | [],_,_,_,h=>by simp[TT.get] at h
  | (t',i')::r,t,i,h,hg=>by
    simp only[ziQ,Bool.and_eq_true] at h
    simp only[TT.get] at hg
    cases hb:Nat.beq t' t with
    | true=>rw[hb] at hg;simp only[cond_true,Option.some.injEq] at hg;subst hg;exact h.1
    | false=>rw[hb] at hg;exact zfw h.2 hg
theorem TblOk.row {P:Program} {tt:TT} (h:TblOk P tt) {t:Nat} {i:TInfo} (hg:tt.get t=some i):zdg tt i=true:=zfw h.ok hg
theorem zeX (u:Ty):∀m:Nat,(zbm (List.replicate m u)).size=m*u.size∧(zbm (List.replicate m u)).agg=true
  | 0=>⟨by simp[zbm,Ty.size],rfl⟩
  | m+1=>⟨by simp only[List.replicate_succ,zbm,Ty.size,(zeX u m).1,Nat.add_mul,Nat.one_mul];omega,rfl⟩
mutual
theorem za3 {tt:TT} (hok:ziQ tt tt=true):∀(n t:Nat) (ty:Ty) (i:TInfo),tyOf tt n t=some ty→tt.get t=some i→ty.size=i.size∧ty.agg=i.kind.isAgg
  | 0,_,_,_,h,_=>by simp[tyOf] at h
  | n + 1, t, ty,i,h,hg=>by
    have hr:=zfw hok hg
    simp only[tyOf,hg] at h
    cases hk:i.kind with
    | struct fs=>
      rw[hk] at h
      simp only[zdg,hk] at hr
      have:=zew hok n fs ty 0 i.size h hr
      exact⟨by omega,by simp[TK.isAgg];exact this.2⟩
    | slice e=>
      rw[hk] at h
      simp only[zdg,hk] at hr
      cases he:tyOf tt n e with
      | none=>simp[he] at h
      | some u=>simp[he] at h;subst h;exact⟨(Nat.eq_of_beq_eq_true hr).symm,rfl⟩
    | array m e=>
      rw[hk] at h
      simp only at h
      cases hb:Nat.ble m 8 with
      | false=>rw[hb] at h;simp at h
      | true =>
        rw[hb] at h
        simp only[cond_true] at h
        simp only[zdg,hk] at hr
        cases he:tyOf tt n e with
        | none=>simp[he] at h
        | some u=>
          simp only[he,Option.map_some,Option.some.injEq] at h
          cases hge:tt.get e with
          | none=>rw[hge] at hr;simp at hr
          | some ei=>
            rw[hge] at hr
            have e1:=(za3 hok n e u ei he hge).1
            obtain⟨e2,e3⟩:=zeX u m
            rw[←h]
            exact⟨by rw[e2,e1];exact (Nat.eq_of_beq_eq_true hr).symm,e3⟩
    | ptr e=>rw[hk] at h;simp at h
    | other=>rw[hk] at h;simp at h
    | iface=>rw[hk] at h;simp at h
    | int k=>rw[hk] at h;simp at h;subst h;simp only[zdg,hk] at hr;exact⟨(Nat.eq_of_beq_eq_true hr).symm,rfl⟩
    | bool=>rw[hk] at h;simp at h;subst h;simp only[zdg,hk] at hr;exact⟨(Nat.eq_of_beq_eq_true hr).symm,rfl⟩
    | str=>rw[hk] at h;simp at h;subst h;simp only[zdg,hk] at hr;exact⟨(Nat.eq_of_beq_eq_true hr).symm,rfl⟩
    | flt k=>rw[hk] at h;simp at h;subst h;simp only[zdg,hk] at hr;exact⟨(Nat.eq_of_beq_eq_true hr).symm,rfl⟩
    | cpx k=>rw[hk] at h;simp at h;subst h;simp only[zdg,hk] at hr;exact⟨(Nat.eq_of_beq_eq_true hr).symm,rfl⟩
theorem zew {tt:TT} (hok:ziQ tt tt=true):∀(n:Nat) (fs:List (Nat×Nat)) (ty:Ty) (off m:Nat),zfe tt n fs=some ty→zaV tt off fs m=true→off+ty.size=m∧ty.agg=true
  | 0,fs,_,_,_,h,_=>by cases fs<;>simp[zfe] at h
  | n+1,[],ty,off,m,h,hf=>by
    simp only[zfe,Option.some.injEq] at h
    subst h
    simp only[zaV] at hf
    exact⟨by simpa [Ty.size] using Nat.eq_of_beq_eq_true hf,rfl⟩
  | n + 1, f::r,ty,off,m,h,hf=>by
    simp only[zfe] at h
    simp only[zaV,Bool.and_eq_true] at hf
    cases hg:tt.get f.1 with
    | none=>rw[hg] at hf;simp at hf
    | some i=>
      rw[hg] at hf
      cases h1:tyOf tt n f.1 with
      | none=>rw[h1] at h;simp at h
      | some u=>
        rw[h1] at h
        cases h2:zfe tt n r with
        | none=>rw[h2] at h;simp at h
        | some u2=>
          rw[h2] at h
          simp only[Option.some.injEq] at h
          subst h
          have e1:=za3 hok n f.1 u i h1 hg
          have e2:=zew hok n r u2 _ m h2 hf.2
          exact⟨by simp only[Ty.size];omega,rfl⟩
end
/-! ### Values -/
section
variable {V:View} {η:Eta}
theorem RepV.one {t:Ty} {x:t.Den} {v:Value} (h:RepV V t x v) (h1:v.oneCell'=true):Rep V t x [v]:=by
  obtain⟨l,h2,⟨_,rfl⟩|⟨_,rfl⟩⟩:=h
  · simp[Value.oneCell'] at h1
  · exact h2
theorem RepV.mk1 {t:Ty} {x:t.Den} {v:Value} (h:t.agg=false) (hr:Rep V t x [v]):RepV V t x v:=⟨[v],hr,.inr ⟨h,rfl⟩⟩
theorem zc5:∀(t:Ty) (x:t.Den) (l:List Value),Rep V t x l→zat V η (cellsOf t x) l
  | .nil,_,l,h=>by subst h;exact trivial
  | .cons a b,x,l,⟨l1,l2,e,h1,h2⟩=>by
    subst e
    have e1:=zc5 a x.1 l1 h1
    have e2:=zc5 b x.2 l2 h2
    have app:∀ {cs ds:List S1} {l1 l2:List Value},zat V η cs l1→zat V η ds l2→zat V η (cs++ds) (l1++l2):=by
      intro cs
      induction cs with
      | nil=>intro ds l1 l2 h1 h2;cases l1 with|nil=>exact h2|cons _ _=>exact h1.elim
      | cons s r ih=>intro ds l1 l2 h1 h2;cases l1 with|nil=>exact h1.elim|cons v l=>exact⟨h1.1,h1.2.1,ih h1.2.2 h2⟩
    exact app e1 e2
  | .int k,x,l,h=>by have h':=h;simp only[Rep] at h';subst h';exact⟨RepV.mk1 rfl h,rfl,trivial⟩
  | .bool,x,l,h=>by have h':=h;simp only[Rep] at h';subst h';exact⟨RepV.mk1 rfl h,rfl,trivial⟩
  | .str,x,l,h=>by have h':=h;simp only[Rep] at h';subst h';exact⟨RepV.mk1 rfl h,rfl,trivial⟩
  | .flt k,x,l,h=>by have h':=h;simp only[Rep] at h';subst h';exact⟨RepV.mk1 rfl h,rfl,trivial⟩
  | .cpx k,x,l,h=>by have h':=h;simp only[Rep] at h';subst h';exact⟨RepV.mk1 rfl h,rfl,trivial⟩
  | .sl e,x,l,h=>by obtain⟨a,cap,e1,r⟩:=h;subst e1;exact⟨RepV.mk1 rfl ⟨a,cap,rfl,r⟩,rfl,trivial⟩
  | .ptr t,x,l,h=>by obtain⟨a,c,e1,r⟩:=h;subst e1;exact⟨RepV.mk1 rfl ⟨a,c,rfl,r⟩,rfl,trivial⟩
  | .clo g a,x,l,h=>by obtain⟨cv,e1,r⟩:=h;subst e1;exact⟨RepV.mk1 rfl ⟨cv,rfl,r⟩,rfl,trivial⟩
  | .fnl f,x,l,h=>by have h':=h;simp only[Rep] at h';subst h';exact⟨RepV.mk1 rfl h,rfl,trivial⟩
  | .err,x,l,h=>by
    have h':=h
    rcases h' with ⟨_,e1⟩|⟨_,_,_,e1⟩<;>(subst e1;exact⟨RepV.mk1 rfl h,rfl,trivial⟩)
  | .osl e,x,l,h=>by
    have h':=h
    rcases h' with ⟨_,e1⟩|⟨xs,_,_,a,cap,e1,_⟩<;>(subst e1;exact⟨RepV.mk1 rfl h,rfl,trivial⟩)
theorem zaN {t t':Ty} {x:t.Den} {y:t'.Den} (h:zbF t t' x=some y):∃e:t=t',y=e▸x:=by
  unfold zbF at h
  split at h
  · rename_i e
    exact⟨e,by simpa using h.symm⟩
  · cases h
theorem zhQ {V:View} {t t':Ty} {x:t.Den} {y:t'.Den} {v:Value} (h:toD t t' x=some y) (hs:RepV V t x v):RepV V t' y v:=by
  unfold toD at h
  split at h
  · rename_i e' e x
    obtain⟨he,rfl⟩:=zaN h
    injection he with he
    subst he
    obtain⟨l,h1,⟨h2,_⟩|⟨_,h2⟩⟩:=hs
    · cases h2
    · exact⟨l,h1.osl_sl,.inr ⟨rfl,h2⟩⟩
  · obtain⟨e,rfl⟩:=zaN h
    subst e
    exact hs
theorem zar {x:Value} (h:zah x=true):x=.slice none 0 0:=by
  unfold zah at h
  split at h
  · simp only[Bool.and_eq_true] at h
    rw[Nat.eq_of_beq_eq_true h.1,Nat.eq_of_beq_eq_true h.2]
  · cases h
theorem zlO {x:Value} (h:zjT x=true):x=.nilIface:=by
  unfold zjT at h
  split at h
  · rfl
  · cases h
theorem zi0 (e:Ty):Rep V (.sl e) [] [.slice none 0 0]:=⟨none,0,rfl,Nat.le_refl _,Nat.zero_le _,fun _=>⟨rfl,rfl⟩,fun _ h=>by cases h⟩
theorem S1.den_sound {t:Ty} {s:S1} {x:t.Den} {v:Value} (h:s.den t=some x) (hs:zaK V η s v):RepV V t x v:=by
  cases s with
  | d t' y=>exact zhQ h hs
  | pw t' y=>simp[S1.den] at h
  | dfl u xs=>
    simp only[S1.den] at h
    exact zhQ (t:=.sl u) h hs.1
  | lb b=>
    obtain⟨e,rfl⟩:=zaN h
    subst e
    simp only[zaK] at hs
    subst hs
    exact RepV.mk1 rfl rfl
  | v y =>
    simp only[S1.den] at h
    split at h
    · cases hn:zah y with
      | false=>rw[hn] at h;simp at h
      | true=>
        rw[hn] at h
        simp only[cond_true,Option.some.injEq] at h
        subst h
        simp only[zaK] at hs
        subst hs
        rw[zar hn]
        exact RepV.mk1 rfl (zi0 _)
    · cases hn:zah y with
      | false=>rw[hn] at h;simp at h
      | true=>
        rw[hn] at h
        simp only[cond_true,Option.some.injEq] at h
        subst h
        simp only[zaK] at hs
        subst hs
        rw[zar hn]
        exact RepV.mk1 rfl (.inl ⟨rfl,rfl⟩)
    · cases hn:zjT y with
      | false=>rw[hn] at h;simp at h
      | true=>
        rw[hn] at h
        simp only[cond_true,Option.some.injEq] at h
        subst h
        simp only[zaK] at hs
        subst hs
        rw[zlO hn]
        exact RepV.mk1 rfl (.inl ⟨rfl,rfl⟩)
    · rename_i f
      simp only[zaK] at hs
      subst hs
      split at h
      · rename_i g a b
        cases hn:(Nat.beq g f&&a.size == 0&&b.size == 0) with
        | false=>rw[hn] at h;simp at h
        | true=>
          simp only[Bool.and_eq_true,beq_iff_eq] at hn
          have e1:=Nat.eq_of_beq_eq_true hn.1.1
          have e2:=Array.eq_empty_of_size_eq_zero hn.1.2
          have e3:=Array.eq_empty_of_size_eq_zero hn.2
          subst e1 e2 e3
          exact RepV.mk1 rfl rfl
      · cases h
    · cases h
  | u=>simp[S1.den] at h
  | fn g fs cs=>simp[S1.den] at h
  | p k off=>simp[S1.den] at h
  | po off t' y=>simp[S1.den] at h
  | pd t' y=>
    simp only[S1.den] at h
    split at h
    · obtain⟨e,rfl⟩:=zaN h
      subst e
      obtain⟨ad,c,h1,h2⟩:=hs
      subst h1
      exact RepV.mk1 rfl ⟨ad,c,rfl,h2⟩
    · cases h
  | pr k i sz=>simp[S1.den] at h
  | pq k i sz off=>simp[S1.den] at h
  | fo k r=>simp[S1.den] at h
  | o k n=>simp[S1.den] at h
theorem zbc {t:Ty} (hp:∀s l,zeF t (s::l)=zeG l (s.den t)) (hn:zeF t []=none)
    {cs:List S1} {vs:List Value} {x:t.Den} {r:List S1} (h:zeF t cs=some (x,r)) (hc:zat V η cs vs) :
    ∃l1 l2,vs=l1++l2∧Rep V t x l1∧zat V η r l2:=by
  cases cs with
  | nil=>rw[hn] at h;cases h
  | cons s l=>
    rw[hp] at h
    cases hd:s.den t with
    | none=>rw[hd] at h;cases h
    | some y=>
      rw[hd] at h
      simp only[zeG,Option.some.injEq,Prod.mk.injEq] at h
      obtain⟨rfl,rfl⟩:=h
      cases vs with
      | nil=>exact hc.elim
      | cons v vs=>exact⟨[v],vs,rfl,(S1.den_sound hd hc.1).one hc.2.1,hc.2.2⟩
theorem zcb:∀(t:Ty) (cs:List S1) (vs:List Value) (x:t.Den) (r:List S1),zeF t cs=some (x,r)→zat V η cs vs→
    ∃l1 l2,vs=l1++l2∧Rep V t x l1∧zat V η r l2
  | .nil,cs,vs,x,r,h,hc=>by
    simp only[zeF,Option.some.injEq,Prod.mk.injEq] at h
    exact⟨[],vs,rfl,rfl,h.2▸hc⟩
  | .cons a b,cs,vs,x,r,h,hc=>by
    simp only[zeF] at h
    cases h1:zeF a cs with
    | none=>rw[h1] at h;cases h
    | some p=>
      obtain⟨y,l1⟩:=p
      rw[h1] at h
      simp only at h
      cases h2:zeF b l1 with
      | none=>rw[h2] at h;cases h
      | some q=>
        obtain⟨z,l2⟩:=q
        rw[h2] at h
        simp only[Option.some.injEq,Prod.mk.injEq] at h
        obtain⟨rfl,rfl⟩:=h
        obtain⟨m1,m2,rfl,e1,e2⟩:=zcb a cs vs y l1 h1 hc
        obtain⟨m3,m4,rfl,e3,e4⟩:=zcb b l1 m2 z l2 h2 e2
        exact⟨m1++m3,m4,by simp,⟨m1,m3,rfl,e1,e3⟩,e4⟩
  | .int k,cs,vs,x,r,h,hc=>zbc (fun _ _=>rfl) rfl h hc
  | .bool,cs,vs,x,r,h,hc=>zbc (fun _ _=>rfl) rfl h hc
  | .str,cs,vs,x,r,h,hc=>zbc (fun _ _=>rfl) rfl h hc
  | .flt k,cs,vs,x,r,h,hc=>zbc (fun _ _=>rfl) rfl h hc
  | .cpx k,cs,vs,x,r,h,hc=>zbc (fun _ _=>rfl) rfl h hc
  | .sl e,cs,vs,x,r,h,hc=>zbc (fun _ _=>rfl) rfl h hc
  | .ptr e,cs,vs,x,r,h,hc=>zbc (fun _ _=>rfl) rfl h hc
  | .clo g e,cs,vs,x,r,h,hc=>zbc (fun _ _=>rfl) rfl h hc
  | .fnl e,cs,vs,x,r,h,hc=>zbc (fun _ _=>rfl) rfl h hc
  | .err,cs,vs,x,r,h,hc=>zbc (fun _ _=>rfl) rfl h hc
  | .osl e,cs,vs,x,r,h,hc=>zbc (fun _ _=>rfl) rfl h hc
theorem SV.den_sound {t:Ty} {s:SV} {x:t.Den} {v:Value} (h:s.den t=some x) (hs:zai V η s v):RepV V t x v:=by
  cases s with
  | one s=>exact S1.den_sound h hs
  | agg cs=>
    simp only[SV.den] at h
    cases ha:t.agg with
    | false=>rw[ha] at h;simp at h
    | true=>
      rw[ha] at h
      simp only[cond_true] at h
      obtain⟨vs,rfl,hc⟩:=hs
      split at h
      · rename_i y hp
        simp only[Option.some.injEq] at h
        subst h
        obtain⟨l1,l2,rfl,e1,e2⟩:=zcb t cs vs _ [] hp hc
        cases l2 with
        | nil=>exact⟨l1,e1,.inl ⟨ha,by simp⟩⟩
        | cons _ _=>exact e2.elim
      · cases h
  | tup ss=>simp[SV.den] at h
theorem SV.cells_sound {s:SV} {cs:List S1} {v:Value} (h:s.cells=some cs) (hs:zai V η s v):zat V η cs v.cells.toList:=by
  have one:∀(u:S1),zaK V η u v→v.oneCell'=true→zat V η [u] v.cells.toList:=fun u hu h1=>by
    have:v.cells = #[v]:=by cases v<;>first|rfl|(simp[Value.oneCell'] at h1)
    rw[this]
    exact⟨hu,h1,trivial⟩
  cases s with
  | one s=>
    cases s with
    | d t x=>simp only[SV.cells,Option.some.injEq] at h;subst h;exact zc5 t x _ (RepV.cells hs)
    | pw u x=>simp only[SV.cells,Option.some.injEq] at h;subst h;exact one _ hs (by obtain⟨_,_,rfl,_⟩:=hs;rfl)
    | dfl u xs=>simp only[SV.cells,Option.some.injEq] at h;subst h;exact one _ hs (by obtain⟨_,ad,rfl⟩:=hs;rfl)
    | lb b=>simp only[SV.cells,Option.some.injEq] at h;subst h;exact one _ hs (by simp only[zai,zaK] at hs;subst hs;rfl)
    | v x=>
      simp only[SV.cells] at h
      cases h1:x.oneCell' with
      | false=>rw[h1] at h;simp at h
      | true=>rw[h1] at h;simp only[cond_true,Option.some.injEq] at h;subst h;exact one _ hs (by simp only[zai,zaK] at hs;subst hs;exact h1)
    | p k off=>simp only[SV.cells,Option.some.injEq] at h;subst h;exact one _ hs (by obtain⟨b,c,_,rfl⟩:=hs;rfl)
    | pd t x=>simp only[SV.cells,Option.some.injEq] at h;subst h;exact one _ hs (by obtain⟨b,c,rfl,_⟩:=hs;rfl)
    | po off t x=>simp only[SV.cells,Option.some.injEq] at h;subst h;exact one _ hs (by obtain⟨b,c,rfl,_⟩:=hs;rfl)
    | pr k i sz=>simp only[SV.cells,Option.some.injEq] at h;subst h;exact one _ hs (by obtain⟨_,b,c,_,rfl⟩:=hs;rfl)
    | pq k i sz off=>simp only[SV.cells,Option.some.injEq] at h;subst h;exact one _ hs (by obtain⟨_,b,c,_,rfl⟩:=hs;rfl)
    | fo k r=>simp only[SV.cells,Option.some.injEq] at h;subst h;exact one _ hs (by obtain⟨n,rfl,_⟩:=hs;rfl)
    | o k n=>simp only[SV.cells,Option.some.injEq] at h;subst h;exact one _ hs (by rcases hs with ⟨_,_,rfl⟩|⟨b,c,_,rfl,_⟩<;>rfl)
    | u=>simp[SV.cells] at h
    | fn g fs cs=>simp only[SV.cells,Option.some.injEq] at h;subst h;exact one _ hs (by obtain⟨fv,cv,rfl,_⟩:=hs;rfl)
  | agg cs'=>simp only[SV.cells,Option.some.injEq] at h;subst h;obtain⟨vs,rfl,hc⟩:=hs;simpa [Value.cells] using hc
  | tup ss=>simp[SV.cells] at h
theorem zc4 {x:Value} {s:S1} (h:zeW x=some s):zaK V η s x∧x.oneCell'=true:=by
  cases x<;>simp only[zeW,Option.some.injEq] at h<;>first|(cases h;done)|(subst h;exact⟨RepV.mk1 rfl rfl,rfl⟩)|(subst h;exact⟨rfl,rfl⟩)
theorem zde:∀ {l:List Value} {cs:List S1},zbD l=some cs→zat V η cs l
  | [],cs,h=>by simp only[zbD,Option.some.injEq] at h;subst h;trivial
  | x :: r,cs,h=>by
    simp only[zbD] at h
    cases h1:zeW x with
    | none=>rw[h1] at h;cases h
    | some s=>
      rw[h1] at h
      simp only at h
      cases h2:zbD r with
      | none=>rw[h2] at h;cases h
      | some l=>
        rw[h2] at h
        simp only[Option.some.injEq] at h
        subst h
        exact⟨(zc4 h1).1,(zc4 (V:=V) (η:=η) h1).2,zde h2⟩
theorem zb0 {x:Value} {s:SV} (h:zeV x=some s):zai V η s x:=by
  unfold zeV at h
  split at h
  · rename_i cs
    cases hc:zbD cs.toList with
    | none=>rw[hc] at h;cases h
    | some l=>
      rw[hc] at h
      simp only[Option.map_some,Option.some.injEq] at h
      subst h
      exact⟨cs.toList,by simp,zde hc⟩
  · cases h
  · cases hc:zeW x with
    | none=>rw[hc] at h;cases h
    | some l=>
      rw[hc] at h
      simp only[Option.map_some,Option.some.injEq] at h
      subst h
      exact (zc4 hc).1
theorem zaC {t:Nat}:∀ {st:St} {s:SV},zaI t st=some s→Fact.slot t s∈st
  | [],_,h=>by simp[zaI] at h
  | .slot t' s'::r,s,h=>by
    simp only[zaI] at h
    cases hb:Nat.beq t' t with
    | true=>rw[hb] at h;simp only[cond_true,Option.some.injEq] at h;subst h;rw[Nat.eq_of_beq_eq_true hb];exact List.mem_cons_self
    | false=>rw[hb] at h;exact List.mem_cons_of_mem _ (zaC h)
  | .cell _ _ _::r,s,h=>List.mem_cons_of_mem _ (zaC (by simpa only [zaI] using h))
  | .row _ _ _ _::r,s,h=>List.mem_cons_of_mem _ (zaC (by simpa only [zaI] using h))
  | .ob _ _::r,s,h=>List.mem_cons_of_mem _ (zaC (by simpa only [zaI] using h))
  | .fix _::r,s,h=>List.mem_cons_of_mem _ (zaC (by simpa only [zaI] using h))
theorem zaD {k off:Nat}:∀ {st:St} {s:S1},zaM k off st=some s→Fact.cell k off s∈st
  | [],_,h=>by simp[zaM] at h
  | .cell k' o' s'::r,s,h=>by
    simp only[zaM] at h
    cases hb:(Nat.beq k' k&&Nat.beq o' off) with
    | true=>
      rw[hb] at h;simp only[cond_true,Option.some.injEq] at h;subst h
      rw[Bool.and_eq_true] at hb
      rw[Nat.eq_of_beq_eq_true hb.1,Nat.eq_of_beq_eq_true hb.2];exact List.mem_cons_self
    | false=>rw[hb] at h;exact List.mem_cons_of_mem _ (zaD h)
  | .slot _ _::r,s,h=>List.mem_cons_of_mem _ (zaD (by simpa only [zaM] using h))
  | .row _ _ _ _::r,s,h=>List.mem_cons_of_mem _ (zaD (by simpa only [zaM] using h))
  | .ob _ _::r,s,h=>List.mem_cons_of_mem _ (zaD (by simpa only [zaM] using h))
  | .fix _::r,s,h=>List.mem_cons_of_mem _ (zaD (by simpa only [zaM] using h))
theorem zav {k:Nat}:∀ {st:St} {f:RowF},zaS k st=some f→Fact.row k f.el f.e f.xs∈st
  | [],_,h=>by simp[zaS] at h
  | .row k' el e xs::r,s,h=>by
    simp only[zaS] at h
    cases hb:Nat.beq k' k with
    | true=>rw[hb] at h;simp only[cond_true,Option.some.injEq] at h;subst h;rw[Nat.eq_of_beq_eq_true hb];exact List.mem_cons_self
    | false=>rw[hb] at h;exact List.mem_cons_of_mem _ (zav h)
  | .slot _ _::r,s,h=>List.mem_cons_of_mem _ (zav (by simpa only [zaS] using h))
  | .cell _ _ _::r,s,h=>List.mem_cons_of_mem _ (zav (by simpa only [zaS] using h))
  | .ob _ _::r,s,h=>List.mem_cons_of_mem _ (zav (by simpa only [zaS] using h))
  | .fix _::r,s,h=>List.mem_cons_of_mem _ (zav (by simpa only [zaS] using h))
theorem zbu {k:Nat}:∀ {st:St} {i:Nat},zdd k st=some i→Fact.ob k i∈st
  | [],_,h=>by simp[zdd] at h
  | .ob k' i::r,s,h=>by
    simp only[zdd] at h
    cases hb:Nat.beq k' k with
    | true=>rw[hb] at h;simp only[cond_true,Option.some.injEq] at h;subst h;rw[Nat.eq_of_beq_eq_true hb];exact List.mem_cons_self
    | false=>rw[hb] at h;exact List.mem_cons_of_mem _ (zbu h)
  | .slot _ _::r,s,h=>List.mem_cons_of_mem _ (zbu (by simpa only [zdd] using h))
  | .cell _ _ _::r,s,h=>List.mem_cons_of_mem _ (zbu (by simpa only [zdd] using h))
  | .row _ _ _ _::r,s,h=>List.mem_cons_of_mem _ (zbu (by simpa only [zdd] using h))
  | .fix _::r,s,h=>List.mem_cons_of_mem _ (zbu (by simpa only [zdd] using h))
end
theorem zad {E:Env} {η:Eta} {a:Act} {w:World} {st:St} (H:∀f∈st,Fact.holds E η a w f) {x:Operand} {s:SV} (h:eval st x=some s) :
    zai (vw E η w) η s (a.eval x):=by
  cases x with
  | tmp t=>
    simp only[eval] at h
    cases hb:Nat.blt t 1000000 with
    | true=>
      rw[hb] at h
      have:=H _ (zaC h)
      simp only[Fact.holds] at this
      rw[zbv (zpX hb)] at this
      exact this
    | false=>rw[hb] at h;cases h
  | const v=>exact zb0 h
  | func f=>simp only[eval,Option.some.injEq] at h;subst h;rfl
  | global g=>
    have:=H _ (zaC h)
    simp only[Fact.holds] at this
    rw[zfy] at this
    exact this
end Go.Eng
set_option linter.all false
namespace Go.Eng
section
variable {P:Program} {t:Nat} {i:TInfo}
theorem TIOk.und (h:TIOk P t i):∃d,P.underlying t=some d∧(match d with | .struct _ | .array _ _=>true | _=>false)=i.kind.isAgg:=by
  have hd:=h.desc
  cases hk:i.kind<;>rw[hk] at hd<;>simp only at hd
  case struct fs=>obtain⟨fa,h1,_⟩:=hd;exact⟨_,h1,rfl⟩
  case iface=>obtain⟨ms,h1⟩:=hd;exact⟨_,h1,rfl⟩
  case other=>obtain⟨d,h1,h2⟩:=hd;refine⟨d,h1,?_⟩;cases d<;>simp_all [TK.isAgg]
  all_goals exact⟨_,hd,rfl⟩
theorem zfG (h:TIOk P t i) (w:World):(isAgg t).run P w=.ok i.kind.isAgg w:=by
  obtain⟨d,h1,h2⟩:=h.und
  simp only[isAgg,Sem.run_bind,run_underlying h1,Result.andThen_ok]
  rw[←h2]
  cases d<;>rfl
theorem zay (h:TIOk P t i) (w:World):(sizeOf t).run P w=.ok i.size w:=by
  obtain⟨ti,h1,h2,_⟩:=h.info
  simp[sizeOf,typeInfo,h1,h2]
theorem zcN (h:TIOk P t i) (w:World):(zeroValue t).run P w=.ok i.zero w:=by
  obtain⟨ti,h1,_,_,h2⟩:=h.info
  simp[zeroValue,typeInfo,h1,h2]
theorem zbE {w:World} {b:Nat} {cur:Array Value} {el:Nat} {f:Nat×Nat} (h:w.heap[b]?=some (.cells cur el f)) (off:Nat):w.cell? ⟨b,off,none⟩=cur[off]?:=by
  simp[World.cell?,h]
theorem zaJ (b off n:Nat):(⟨b,off,none⟩:Addr).add n=⟨b,off+n,none⟩:=by
  unfold Addr.add;split<;>simp_all
theorem zaY (h:TIOk P t i) (ha:i.kind.isAgg=false) {w:World} {a:Addr} {v:Value} (hc:w.cell? a=some v):(loadVar t a).run P w=.ok v w:=by
  simp[loadVar,zfG h,ha,hc]
theorem zbw (h:TIOk P t i) (ha:i.kind.isAgg=true) {w:World} {a:Addr} {cs:List Value} (hl:cs.length=i.size)
    (hc:∀j v,cs[j]?=some v→w.cell? (a.add j)=some v):(loadVar t a).run P w=.ok (.agg cs.toArray) w:=by
  simp only[loadVar,Sem.run_bind,zfG h,ha,Result.andThen_ok,zay h,if_true,←hl,run_loadCells_list w a cs hc,Sem.run_pure]
theorem zbT (h:TIOk P t i) {w:World} {b off:Nat} {cur:Array Value} {el:Nat} {v:Value} (hb:w.heap[b]?=some (.cells cur el (0,0)))
    (hl:v.cells.size=i.size) (hsz:off+v.cells.size≤cur.size) (h1:∀u∈v.cells.toList,u.oneCell'=true) :
    (storeVar t ⟨b,off,none⟩ v).run P w=.ok () (w.setRow b (cur.toList.take off++v.cells.toList++cur.toList.drop (off+v.cells.size)).toArray):=by
  have:=run_storeCells_at P b off el v.cells.toList 0 cur w hb (by simpa using hsz) h1
  simp only[Nat.add_zero,Array.length_toList] at this
  simp only[storeVar,Sem.run_bind,zay h,Result.andThen_ok,hl,ne_eq,not_true_eq_false,if_false,this]
end
section
variable {E:Env} {nt:Nat} {η:Eta} {st:St} {a:Act} {w:World}
theorem zaT (H:∀f∈st,Fact.holds E η a w f) {k:Nat} {b c:Nat} (hk:η k=some (b,c)):∀(n off:Nat) (cs:List S1),za0 st k off n=some cs→
    ∃ vs:List Value,zat (vw E η w) η cs vs∧vs.length=n∧(∀j v,vs[j]?=some v→w.cell? ⟨b,off+j,none⟩=some v)∧
      (n≠0→∃cur el,E.low b∧w.heap[b]?=some (.cells cur el (0,0))∧off+n≤cur.size)
  | 0,off,cs,h=>by simp only[za0,Option.some.injEq] at h;subst h;exact⟨[],trivial,rfl,by simp,by simp⟩
  | n + 1, off,cs,h=>by
    simp only[za0] at h
    cases h1:zaM k off st with
    | none=>rw[h1] at h;cases h
    | some s =>
      rw[h1] at h
      simp only at h
      cases h2:za0 st k (off+1) n with
      | none=>rw[h2] at h;cases h
      | some l=>
        rw[h2] at h
        simp only[Option.some.injEq] at h
        subst h
        obtain⟨vs,e1,e2,e3,e4⟩:=zaT H hk n (off+1) l h2
        obtain⟨b',c',cur,el,v,q0,q1,q2,q3,q4,q5⟩:=H _ (zaD h1)
        rw[hk] at q1
        simp only[Option.some.injEq,Prod.mk.injEq] at q1
        obtain⟨rfl,rfl⟩:=q1
        refine⟨v::vs,⟨q5,q4,e1⟩,by simp[e2],fun j u hu=>?_,fun _=>⟨cur,el,q0,q2,?_⟩⟩
        · cases j with
          | zero=>simp at hu;subst hu;rw[Nat.add_zero,zbE q2];exact q3
          | succ j=>rw[show off+(j+1)=off+1+j from by omega];exact e3 j u (by simpa using hu)
        · by_cases hn:n=0
          · subst hn
            have:=(Array.getElem?_eq_some_iff.1 q3).1
            omega
          · obtain⟨cur',el',_,q6,q7⟩:=e4 hn
            rw[q2] at q6
            simp only[Option.some.injEq,Obj.cells.injEq] at q6
            obtain⟨rfl,_,_⟩:=q6
            omega
theorem zlo {V:View} {t:Ty} {x:t.Den} {cur:List Value} {off n:Nat} (h:Rep V t x ((cur.drop off).take n)) (hn:n=t.size) :
    ∀j v,((cur.drop off).take n)[j]?=some v→cur[off+j]?=some v:=by
  intro j v hv
  rw[List.getElem?_take] at hv
  split at hv
  · simpa [List.getElem?_drop] using hv
  · cases hv
theorem zi7 {V:View} {P:Program} {t:Nat} {i:TInfo} (h:TIOk P t i) {ty:Ty} (hsz:ty.size=i.size) (hag:ty.agg=i.kind.isAgg) {x:ty.Den} {ad:Addr} {c:Array Value} {el:Nat} {f:Nat×Nat}
    (hs:ad.spot=none) (hb:w.heap[ad.block]?=some (.cells c el f)) (hr:Rep V ty x ((c.toList.drop ad.off).take ty.size)) :
    ∃v,(loadVar t ad).run P w=.ok v w∧RepV V ty x v:=by
  obtain⟨b,off,sp⟩:=ad
  simp only at hs hb hr
  subst hs
  have hlen:=Rep.length _ _ _ hr
  have hat:=zlo hr rfl
  cases hg:ty.agg with
  | true=>
    refine⟨_,zbw h (hag▸hg) (cs:=(c.toList.drop off).take ty.size) (by omega) (fun j v hv=>?_),⟨_,hr,.inl ⟨hg,rfl⟩⟩⟩
    rw[zaJ,zbE hb]
    simpa using hat j v hv
  | false=>
    have h1:∃v,(c.toList.drop off).take ty.size=[v]:=by
      have:ty.size=1:=by cases ty<;>first|rfl|simp[Ty.agg] at hg
      rw[this] at hlen ⊢
      match hh:(c.toList.drop off).take 1,hlen with
      | [v],_=>exact⟨v,rfl⟩
    obtain⟨v,hv⟩:=h1
    rw[hv] at hr
    refine⟨v,zaY h (hag▸hg) ?_,RepV.mk1 hg hr⟩
    rw[zbE hb]
    have:=hat 0 v (by rw[hv];rfl)
    simpa using this
end
end Go.Eng
set_option linter.all false
namespace Go.Eng
def zdw (P:Program) (f:Nat):Prop:=∃fn,P.funcs[f]?=some fn∧(fn.name == "runtime.NumGoroutine")=false∧fn.body.isNone=false
def EqOk (P:Program) (t:Nat) (ty:Ty):Prop:=
  ∀ (w:World) (V:View) (x y:ty.Den) (l m:List Value) (o p:Operand),Rep V ty x l→Rep V ty y m→
    (∀op,(eqGuard op t o p (.agg l.toArray) (.agg m.toArray)).run P w=.ok () w)∧
    (binOp .eql t (.agg l.toArray) (.agg m.toArray)).run P w=.ok (.bool (ty.beq x y)) w∧
    (binOp .neq t (.agg l.toArray) (.agg m.toArray)).run P w=.ok (.bool (!ty.beq x y)) w
def encL:(t:Ty)→t.Den→List Value
  | .int k,x=>[.int k x]
  | .bool,x=>[.bool x]
  | .str,x=>[.string x]
  | .flt k,x=>[.float k x]
  | .cpx k,x=>[.complex k x.1 x.2]
  | .sl _,_ | .ptr _,_ | .clo _ _,_ | .fnl _,_ | .osl _,_ | .err,_=>[]
  | .nil,_=>[]
  | .cons a b,x=>encL a x.1++encL b x.2
def encV (t:Ty) (x:t.Den):Value:=
  match t.agg,encL t x with
  | true,l=>.agg l.toArray
  | false,v::_=>v
  | false,[]=>.tuple #[]
def zhM (V:View) (w:World) (vs:List Value):(rd:List (Nat×Nat×Ty))→(rdTy rd).Den→Prop
  | [],_=>True
  | r::l,x=>(∃b off,vs[r.1]?=some (.pointer (some ⟨b,off,none⟩))∧∃ys:List Value,Rep V r.2.2 x.1 ys∧ys.length=r.2.2.size∧∀j v,ys[j]?=some v→w.cell? ⟨b,off+r.2.1+j,none⟩=some v)∧zhM V w vs l x.2
def zc8 (rd:List (Nat×Nat×Ty)) (w:World) (vs:List Value) (x:(rdTy rd).Den):Prop:=
  ∃V:View,(∀b c,V b c→∃el f,w.heap[b]?=some (.cells c el f))∧zhM V w vs rd x
structure OwnStep (W W':World) (ps ps':List (Nat×Obj)):Prop where
  os:W'.os=W.os
  tape:W'.tape=W.tape
  output:W'.output=W.output
  size:W.heap.size≤W'.heap.size
  block:∀b,b<W.heap.size→(∀o,(b,o) ∉ ps)→W'.heap[b]?=W.heap[b]?
  pins:∀p∈ps',W'.heap[p.1]?=some p.2∧((∃o,(p.1,o)∈ps)∨W.heap.size≤p.1)
def zg2 (P:Program) (g:Nat) (isp:ISpec):Prop:=
  ∀ (fv cv:List Value) (x:(rdTy isp.rd).Den) (l N:Nat) (J Jx:Nat→List (Nat×Obj)→World→Prop) (W:World),fv.length=isp.nb→cv.length≤16→isp.pre x→
    (∀i ps W,J i ps W→zc8 isp.rd W (fv++cv) x∧∀p∈ps,W.heap[p.1]?=some p.2)→
    (∀i ps ps' W W',J i ps W→OwnStep W W' ps ps'→J i ps' W')→(∀i ps ps' W W',Jx i ps W→OwnStep W W' ps ps'→Jx i ps' W')→
    (∀i ps W,J i ps W→match isp.len x with|some L=>i≤L|none=>i<N)→
    (∀i ps W1,J i ps W1→(∀L,isp.len x=some L→i<L)→YieldAt (Fw none) 0 P l (isp.args x i (encV isp.e (isp.seq x i))) W1 fun e W'=>(e=.returned (.bool true)∧J (i+1) ps W')∨(e=.returned (.bool false)∧Jx i ps W'))→
    J 0 [] W→
    CallsIn (Fw none) 0 P g (fv.toArray ++ #[.func (.yield l) #[] #[]]++cv.toArray) W fun e W'=>(∃v,e=.returned v)∧((∃L ps,isp.len x=some L∧J L ps W')∨∃i ps,Jx i ps W')
def zp0 (P:Program) (OB:Nat→Obj→Prop) (nt:Nat) (hk:Oper→St→Option ((St→Prop)→Prop)):Prop:=
  ∀ (E:Env),E.P=P→E.OB=OB→∀(o:Oper) (st:St) (F:(St→Prop)→Prop) (a:Act) (w:World) (K:St→Prop) (K':Act→World→Prop) (Q:Exit→Act→World→Prop) (ro:Option Nat) (q:Nat),
    hk o st=some F→F K→Rel E nt (fun f=>f∈st) a w→(∀st' a' w',K st'→Rel E nt (fun f=>f∈st') a' w'→K' a' w')→o.wpIn (Fw ro) q E.P a w K' Q
structure CfgOk (P:Program) (OB:Nat→Obj→Prop) (c:Cfg):Prop where
  tbl:TblOk P c.tt
  eqs:∀t∈c.eqs,∀ty,tyOf c.tt 20 t=some ty→EqOk P t ty
  ctr:∀f sp,zc1 f c.ctr=some sp→zoJ P OB f sp∧zdw P f
  ext:∀f,memN f c.ext=true→∃fn,P.funcs[f]?=some fn∧(fn.name == "runtime.NumGoroutine")=false∧fn.body.isNone=true∧Extern.findNext fn=none∧Extern.find fn=some Extern.MathSqrt.sqrt
  extb:∀f k,zlT f c.extb=some k→∃fn F,P.funcs[f]?=some fn∧(fn.name == "runtime.NumGoroutine")=false∧fn.body.isNone=true∧Extern.findNext fn=none∧Extern.find fn=some F∧∀(n:Nat) w,(F #[.float k n]).run P w=.ok (.int (bitK k) n) w
  obs:∀t i,obOf t c.obs=some i→∃z:Value,(∀w,(zeroValue t).run P w=.ok z w)∧OB i (.cells z.cells t)
  its:∀g isp,zjc g c.its=some isp→zg2 P g isp∧zdw P g
  ios:∀f sp,zmZ f c.ios=some sp→zoI P OB f sp∧zdw P f:=by intro f sp h;cases h
  vas:∀f sp,zjb f c.vas=some sp→zoF P OB f sp∧zdw P f:=by intro f sp h;cases h
  hk:∀nt,zp0 P OB nt (c.hk nt):=by intro _ _ _ _ _ _ _ _ _ _ _ _ _ _ h;cases h
section
variable {E:Env} {nt:Nat} {η:Eta} {st:St} {a:Act} {w:World}
theorem za5 {k:IntKind} {n:Int} {v:Value} (h:zai (vw E η w) η (.one (.d (.int k) n)) v):v=.int k n:=by
  obtain⟨l,h1,⟨h2,_⟩|⟨_,h2⟩⟩:=h
  · cases h2
  · simp only[Rep] at h1;rw[h1] at h2;simpa using h2.symm
theorem zaZ {b:Bool} {v:Value} (h:zai (vw E η w) η (.one (.d .bool b)) v):v=.bool b:=by
  obtain⟨l,h1,⟨h2,_⟩|⟨_,h2⟩⟩:=h
  · cases h2
  · simp only[Rep] at h1;rw[h1] at h2;simpa using h2.symm
theorem zbR {s:SV} {n:Int} {v:Value} (h:s.asI=some n) (hs:zai (vw E η w) η s v):v=.int .i64 n:=by
  unfold SV.asI at h
  split at h
  · simp only[Option.some.injEq] at h
    subst h
    exact za5 hs
  · cases h
theorem int_holds (k:IntKind) (n:Int):zai (vw E η w) η (.one (.d (.int k) n)) (.int k n):=RepV.mk1 rfl rfl
theorem bool_holds (b:Bool):zai (vw E η w) η (.one (.d .bool b)) (.bool b):=RepV.mk1 rfl rfl
theorem zms {n:Int} (h : -9223372036854775808≤n∧n≤9223372036854775807):IntKind.i64.wrap n=n:=by
  have:=IntWalk.i64_in n (by omega)
  exact this
theorem znL {n:Int} (h:0≤n∧n≤255):IntKind.u8.wrap n=n:=by
  have e:IntKind.u8.bits=8:=rfl
  have e2:IntKind.u8.signed=false:=rfl
  simp only[IntKind.wrap,e,e2,Bool.false_and]
  simp
  omega
theorem zba {k:IntKind} {n:Int} (h:inR k n):k.wrap n=n:=by
  cases k<;>first|exact zms h|exact znL h|exact h
theorem zkE {o:Oper} {op:BinOp} {xt yt:Nat} {x y:Operand} {k:IntKind} {m n:Int} {e:Eff} (ho:o.op=.binOp op xt x y yt)
    (hx:a.eval x=.int k m) (hy:a.eval y=.int k n) (h:binI op k m n=some e):za6 E η a w o e:=by
  cases op<;>simp only[binI,Option.some.injEq] at h<;>first|(cases h;done)|subst h
  case add=>exact fun hr=>⟨_,by simp[execOp,ho,hx,hy,eqGuard_add,binOp_add,Op.intArith,zba hr],int_holds _ _⟩
  case sub=>exact fun hr=>⟨_,by simp[execOp,ho,hx,hy,eqGuard_sub,binOp_sub,Op.intArith,zba hr],int_holds _ _⟩
  case mul=>exact fun hr=>⟨_,by simp[execOp,ho,hx,hy,eqGuard_mul,binOp_mul,Op.intArith,zba hr],int_holds _ _⟩
  case quo=>exact fun hr=>⟨_,by simp[execOp,ho,hx,hy,eqGuard_quo,binOp_quo,Op.intDiv,hr.1,zba hr.2],int_holds _ _⟩
  case rem=>exact fun hr=>⟨_,by simp[execOp,ho,hx,hy,eqGuard_rem,binOp_rem,Op.intDiv,hr],int_holds _ _⟩
  case and=>exact fun _=>⟨_,by simp[execOp,ho,hx,hy,eqGuard_and,binOp_and,intBits_and],int_holds _ _⟩
  case or=>exact fun _=>⟨_,by simp[execOp,ho,hx,hy,eqGuard_or,binOp_or,intBits_or],int_holds _ _⟩
  case xor=>exact fun _=>⟨_,by simp[execOp,ho,hx,hy,eqGuard_xor,binOp_xor,intBits_xor],int_holds _ _⟩
  case eql=>exact fun _=>⟨.bool (m == n),by simp[execOp,ho,hx,hy,eqGuard_at_int,binOp_eql],by have:decide (m=n)=(m == n):=rfl;rw[this];exact bool_holds _⟩
  case neq=>exact fun _=>⟨.bool (m != n),by simp[execOp,ho,hx,hy,eqGuard_at_int,binOp_neq],by have:(!decide (m=n))=(m != n):=rfl;rw[this];exact bool_holds _⟩
  case lss=>exact fun _=>⟨_,by simp[execOp,ho,hx,hy,eqGuard_at_int,binOp_lss],bool_holds _⟩
  case leq=>exact fun _=>⟨_,by simp[execOp,ho,hx,hy,eqGuard_at_int,binOp_leq],bool_holds _⟩
  case gtr=>exact fun _=>⟨.bool (decide (m>n)),by simp[execOp,ho,hx,hy,eqGuard_at_int,binOp_gtr],bool_holds _⟩
  case geq=>exact fun _=>⟨.bool (decide (m≥n)),by simp[execOp,ho,hx,hy,eqGuard_at_int,binOp_geq],bool_holds _⟩
theorem zdI {o:Oper} {op:BinOp} {xt yt:Nat} {x y:Operand} {m n:Bool} {e:Eff} (ho:o.op=.binOp op xt x y yt) (hT:E.P.underlying xt=some .bool)
    (hx:a.eval x=.bool m) (hy:a.eval y=.bool n) (h:binB op m n=some e):za6 E η a w o e:=by
  cases op<;>simp only[binB,Option.some.injEq] at h<;>first|(cases h;done)|subst h
  case eql=>exact fun _=>⟨.bool (m == n),by simp[execOp,ho,hx,hy,eqGuard_at_bool,binOp,Op.equal,Op.maxDepth,run_equalIn_bool' (h:=hT)],bool_holds _⟩
  case neq=>exact fun _=>⟨.bool (!(m == n)),by simp[execOp,ho,hx,hy,eqGuard_at_bool,binOp,Op.equal,Op.maxDepth,run_equalIn_bool' (h:=hT)],bool_holds _⟩
theorem zhq {b:Bool} {v:Value} (h:zai (vw E η w) η (.one (.lb b)) v):v=.bool b:=h
theorem zmf {V:View} {t t':Ty} {x:t.Den} {y:t'.Den} {l:List Value} (h:zbF t t' x=some y) (hr:Rep V t x l):Rep V t' y l:=by
  obtain⟨e,rfl⟩:=zaN h
  subst e
  exact hr
theorem zaW {V:View} {e t:Ty} {x:e.Den} {off:Nat} {y:t.Den} {l:List Value} (h:(bif Nat.beq off 0 then zbF e t x else none)=some y) (hr:Rep V e x l) :
    off+t.size≤e.size∧Rep V t y ((l.drop off).take t.size):=by
  cases hb:Nat.beq off 0 with
  | false=>rw[hb] at h;cases h
  | true=>
    rw[hb] at h
    have h0:=Nat.eq_of_beq_eq_true hb
    subst h0
    have hl:=Rep.length _ _ _ hr
    obtain⟨e,rfl⟩:=zaN h
    subst e
    exact⟨by omega,by rw[List.drop_zero,List.take_of_length_le (by omega)];exact hr⟩
theorem zg6 {V:View}:∀(e:Ty) (x:e.Den) (off:Nat) (t:Ty) (y:t.Den) (l:List Value),subD e x off t=some y→1≤t.size→Rep V e x l→
    off+t.size≤e.size∧Rep V t y ((l.drop off).take t.size)
  | .cons a b,x,off,t,y,l,h,h1,hr=>by
    unfold subD at h
    split at h
    · rename_i z hz
      cases h
      exact zaW (e:=.cons a b) hz hr
    · obtain ⟨l1,l2,rfl,r1,r2⟩:=hr
      have e1:=Rep.length _ _ _ r1
      have e2:=Rep.length _ _ _ r2
      cases hb:Nat.blt off a.size with
      | true=>
        rw[hb] at h
        obtain⟨a1,a2⟩:=zg6 a x.1 off t y l1 h h1 r1
        refine⟨by simp only[Ty.size];omega,?_⟩
        rw[List.drop_append_of_le_length (by omega),List.take_append_of_le_length (by simp;omega)]
        exact a2
      | false=>
        rw[hb] at h
        have hge:a.size≤off:=Nat.le_of_not_lt fun h=>by rw[zjl h] at hb;cases hb
        obtain⟨a1,a2⟩:=zg6 b x.2 (off - a.size) t y l2 h h1 r2
        refine⟨by simp only[Ty.size];omega,?_⟩
        rw[List.drop_append,List.drop_of_length_le (by omega),List.nil_append,e1]
        exact a2
  | .int _,x,off,t,y,l,h,_,hr=>zaW h hr
  | .bool,x,off,t,y,l,h,_,hr=>zaW h hr
  | .str,x,off,t,y,l,h,_,hr=>zaW h hr
  | .flt _,x,off,t,y,l,h,_,hr=>zaW h hr
  | .cpx _,x,off,t,y,l,h,_,hr=>zaW h hr
  | .sl _,x,off,t,y,l,h,_,hr=>zaW h hr
  | .nil,x,off,t,y,l,h,_,hr=>zaW h hr
  | .ptr _,x,off,t,y,l,h,_,hr=>zaW h hr
  | .clo _ _,x,off,t,y,l,h,_,hr=>zaW h hr
  | .fnl _,x,off,t,y,l,h,_,hr=>zaW h hr
  | .osl _,x,off,t,y,l,h,_,hr=>zaW h hr
  | .err,x,off,t,y,l,h,_,hr=>zaW h hr
theorem zaX {V:View} {e t:Ty} {x:e.Den} {off:Nat} {y:t.Den} {z:e.Den} {l ys:List Value} (h:(bif Nat.beq off 0 then zbF t e y else none)=some z) (hr:Rep V e x l) (hy:Rep V t y ys) :
    off+t.size≤e.size∧Rep V e z (l.take off++ys++l.drop (off+ys.length)):=by
  cases hb:Nat.beq off 0 with
  | false=>rw[hb] at h;cases h
  | true=>
    rw[hb] at h
    have h0:=Nat.eq_of_beq_eq_true hb
    subst h0
    have hl:=Rep.length _ _ _ hr
    have hl2:=Rep.length _ _ _ hy
    obtain⟨e,rfl⟩:=zaN h
    subst e
    refine⟨by omega,?_⟩
    rw[List.take_zero,List.nil_append,List.drop_of_length_le (by omega),List.append_nil]
    exact hy
theorem zha {V:View}:∀(e:Ty) (x:e.Den) (off:Nat) (t:Ty) (y:t.Den) (z:e.Den) (l ys:List Value),setD e x off t y=some z→1≤t.size→Rep V e x l→Rep V t y ys→
    off+t.size≤e.size∧Rep V e z (l.take off++ys++l.drop (off+ys.length))
  | .cons a b,x,off,t,y,z,l,ys,h,h1,hr,hy=>by
    unfold setD at h
    split at h
    · rename_i z' hz
      cases h
      exact zaX (e:=.cons a b) (x:=x) hz hr hy
    · obtain ⟨l1,l2,rfl,r1,r2⟩:=hr
      have e1:=Rep.length _ _ _ r1
      have e2:=Rep.length _ _ _ r2
      have e3:=Rep.length _ _ _ hy
      cases hb:Nat.blt off a.size with
      | true=>
        rw[hb] at h
        simp only[cond_true] at h
        split at h
        case h_2=>cases h
        case h_1 z' hz=>
          cases h
          obtain⟨a1,a2⟩:=zha a x.1 off t y z' l1 ys hz h1 r1 hy
          refine⟨by simp only[Ty.size];omega,_,l2,?_,a2,r2⟩
          rw[List.take_append_of_le_length (by omega),List.drop_append_of_le_length (by omega)]
          simp
      | false=>
        rw[hb] at h
        simp only[cond_false] at h
        have hge:a.size≤off:=Nat.le_of_not_lt fun h=>by rw[zjl h] at hb;cases hb
        split at h
        case h_2=>cases h
        case h_1 z' hz=>
          cases h
          obtain⟨a1,a2⟩:=zha b x.2 (off - a.size) t y z' l2 ys hz h1 r2 hy
          refine⟨by simp only[Ty.size];omega,l1,_,?_,r1,a2⟩
          rw[List.take_append,List.take_of_length_le (by omega),List.drop_append,List.drop_of_length_le (by omega),List.nil_append,e1]
          simp only[List.append_assoc]
          rw[show off+ys.length - a.size=off - a.size+ys.length by omega]
  | .int _,x,off,t,y,z,l,ys,h,_,hr,hy=>zaX (x:=x) h hr hy
  | .bool,x,off,t,y,z,l,ys,h,_,hr,hy=>zaX (x:=x) h hr hy
  | .str,x,off,t,y,z,l,ys,h,_,hr,hy=>zaX (x:=x) h hr hy
  | .flt _,x,off,t,y,z,l,ys,h,_,hr,hy=>zaX (x:=x) h hr hy
  | .cpx _,x,off,t,y,z,l,ys,h,_,hr,hy=>zaX (x:=x) h hr hy
  | .sl _,x,off,t,y,z,l,ys,h,_,hr,hy=>zaX (x:=x) h hr hy
  | .nil,x,off,t,y,z,l,ys,h,_,hr,hy=>zaX (x:=x) h hr hy
  | .ptr _,x,off,t,y,z,l,ys,h,_,hr,hy=>zaX (x:=x) h hr hy
  | .clo _ _,x,off,t,y,z,l,ys,h,_,hr,hy=>zaX (x:=x) h hr hy
  | .fnl _,x,off,t,y,z,l,ys,h,_,hr,hy=>zaX (x:=x) h hr hy
  | .osl _,x,off,t,y,z,l,ys,h,_,hr,hy=>zaX (x:=x) h hr hy
  | .err,x,off,t,y,z,l,ys,h,_,hr,hy=>zaX (x:=x) h hr hy
theorem zk0 {α:Type} {L ys:List α} {b s off:Nat} (h:off+ys.length≤s) (hs:b+s≤L.length) :
    L.take b++(((L.drop b).take s).take off++ys++((L.drop b).take s).drop (off+ys.length))++L.drop (b+s)=L.take (b+off)++ys++L.drop (b+off+ys.length):=by
  have e1:((L.drop b).take s).take off=(L.drop b).take off:=by rw[List.take_take];congr 1;omega
  have e2:((L.drop b).take s).drop (off+ys.length)++L.drop (b+s)=L.drop (b+off+ys.length):=by
    have h3:L.drop (b+s)=(L.drop b).drop s:=by rw[List.drop_drop]
    have h4:L.drop (b+off+ys.length)=(L.drop b).drop (off+ys.length):=by rw[List.drop_drop];congr 1;omega
    rw[h3,h4]
    generalize L.drop b=M
    conv=>rhs;rw[←List.take_append_drop s M]
    rw[List.drop_append]
    congr 1
    have hm:(M.take s).length≤s:=by rw[List.length_take];omega
    by_cases hM:s≤M.length
    · have hm:(M.take s).length=s:=by rw[List.length_take];omega
      rw[hm,show off+ys.length - s=0 by omega,List.drop_zero]
    · rw[List.drop_of_length_le (by omega:M.length≤s)];simp
  have e3:L.take (b+off)=L.take b++(L.drop b).take off:=List.take_add
  rw[e1,e3]
  simp only[List.append_assoc]
  rw[e2]
theorem zhD {tt : TT} (hT:TblOk E.P tt) (H:∀f∈st,Fact.holds E η a w f) {o:Oper} {t:Nat} {x:Operand} (ho:o.op=.load t x) {s:SV} (hs:zai (vw E η w) η s (a.eval x)) {e:Eff}
    (h:zjj tt st t s=some e):za6 E η a w o e:=by
  unfold zjj at h
  split at h
  case h_2=>cases h
  case h_1 i hi =>
    have hI:=hT.rows t i hi
    split at h
    case h_1 k off=>
      obtain⟨b,c,hk,hv⟩:=hs
      cases hag:i.kind.isAgg with
      | true=>
        rw[hag] at h
        simp only[cond_true] at h
        split at h
        · rename_i cs hcs
          simp only[Option.some.injEq] at h
          subst h
          obtain⟨vs,e1,e2,e3,_⟩:=zaT H hk i.size off cs hcs
          refine fun _=>⟨.agg vs.toArray,?_,⟨vs,rfl,e1⟩⟩
          have:=zbw (w:=w) hI hag (a:=⟨b,off,none⟩) e2 (fun j v hj=>by rw[zaJ];exact e3 j v hj)
          simp[execOp,ho,hv,Instr.loadAt,Instr.sureAddr,this]
        · cases h
      | false=>
        rw[hag] at h
        simp only[cond_false] at h
        split at h
        · rename_i u hu
          simp only[Option.some.injEq] at h
          subst h
          obtain⟨b',c',cur,el,v,_,q1,q2,q3,q4,q5⟩:=H _ (zaD hu)
          rw[hk] at q1
          simp only[Option.some.injEq,Prod.mk.injEq] at q1
          obtain⟨rfl,rfl⟩:=q1
          have:=zaY (w:=w) hI hag (a:=⟨b,off,none⟩) (v:=v) (by rw[zbE q2];exact q3)
          exact fun _=>⟨v,by simp[execOp,ho,hv,Instr.loadAt,Instr.sureAddr,this],q5⟩
        · cases h
    case h_2 f y=>
      cases hag:i.kind.isAgg with
      | true=>rw[hag] at h;simp at h
      | false=>
        rw[hag] at h
        simp only[cond_false,Option.some.injEq] at h
        subst h
        obtain⟨ad,c,hv,hsp,⟨_,_,el,fi,hb⟩,hsz,hr⟩:=hs
        have hr:(c.toList.drop ad.off).take 1=[.func (.func f) #[] #[]]:=hr
        have hc:c[ad.off]?=some (.func (.func f) #[] #[]):=by
          have:=congrArg (fun l:List Value=>l[0]?) hr
          simpa using this
        have:=zaY (w:=w) hI hag (a:=ad) (v:=.func (.func f) #[] #[]) (by
          obtain⟨ab,ao,as⟩:=ad
          simp only at hsp hb hc
          subst hsp
          rw[zbE hb];exact hc)
        exact fun _=>⟨_,by simp[execOp,ho,hv,Instr.loadAt,Instr.sureAddr,this],rfl⟩
    case h_3 t' y=>
      split at h
      case h_2=>cases h
      case h_1 t'' ht=>
        split at h
        case isFalse=>cases h
        case isTrue he=>
          subst he
          simp only[Option.some.injEq] at h
          subst h
          obtain⟨ad,c,hv,hsp,⟨_,_,el,f,hb⟩,_,hr⟩:=hs
          obtain⟨hsz,hag⟩:=za3 hT.ok 20 t _ i ht hi
          obtain⟨v,h1,h2⟩:=zi7 hI hsz hag hsp hb hr
          exact fun _=>⟨v,by simp[execOp,ho,hv,Instr.loadAt,Instr.sureAddr,h1],h2⟩
    case h_4 k j sz=>
      cases hhc:zhu k st with
      | true =>
        rw[hhc] at h
        simp only[cond_true] at h
        cases hag:i.kind.isAgg with
        | true=>rw[hag] at h;simp at h
        | false=>
          rw[hag] at h
          simp only[cond_false] at h
          split at h
          case h_2=>cases h
          case h_1 m=>
            split at h
            case h_2=>cases h
            case h_1 u hu=>
              simp only[Option.some.injEq] at h
              subst h
              obtain⟨_,b,c,hk,hv⟩:=hs
              obtain⟨b',c',cur,el,v,_,q1,q2,q3,q4,q5⟩:=H _ (zaD hu)
              rw[hk] at q1
              simp only[Option.some.injEq,Prod.mk.injEq] at q1
              obtain⟨rfl,rfl⟩:=q1
              have:=zaY (w:=w) hI hag (a:=⟨b,m*sz,none⟩) (v:=v) (by rw[zbE q2];exact q3)
              have hv:a.eval x=.pointer (some ⟨b,m*sz,none⟩):=hv
              exact fun _=>⟨v,by simp[execOp,ho,hv,Instr.loadAt,Instr.sureAddr,this],q5⟩
      | false=>
      rw[hhc] at h
      simp only[cond_false] at h
      split at h
      case h_2=>cases h
      case h_1 r hr=>
        split at h
        case h_2=>cases h
        case h_1 t'' ht=>
          split at h
          case isFalse=>cases h
          case isTrue he=>
            cases hz:Nat.beq sz r.e.size with
            | false=>rw[hz] at h;simp at h
            | true=>
              rw[hz] at h
              simp only[cond_true,Option.some.injEq] at h
              subst h
              subst he
              have hz':=Nat.eq_of_beq_eq_true hz
              obtain⟨hj0,b,c,hk,hv⟩:=hs
              intro ⟨_,hjl⟩
              have hlt:j.toNat<r.xs.length:=by omega
              rcases H _ (zav hr) with ⟨hn,_⟩|⟨b',c',cur,_,q1,q2,q3⟩
              · rw[hk] at hn;cases hn
              · rw[hk] at q1
                simp only[Option.some.injEq,Prod.mk.injEq] at q1
                obtain⟨rfl,rfl⟩:=q1
                obtain⟨hsz,hag⟩:=za3 hT.ok 20 t _ i ht hi
                have hrep:=q3.2.2.2 j.toNat _ (List.getElem?_eq_getElem hlt)
                have hget:r.xs.getD j.toNat r.e.dflt=r.xs[j.toNat]:=by simp[List.getD,List.getElem?_eq_getElem hlt]
                obtain⟨v,h1,h2⟩:=zi7 (w:=w) hI hsz hag (ad:=⟨b,j.toNat*sz,none⟩) rfl q2 (by rw[hz'];exact hrep)
                exact⟨v,by simp[execOp,ho,hv,Instr.loadAt,Instr.sureAddr,h1],by rw[hget];exact h2⟩
    case h_5 k j sz off=>
      split at h
      case h_2=>cases h
      case h_1 r hr=>
        split at h
        case h_2=>cases h
        case h_1 t2 ht2=>
          split at h
          case h_2=>cases h
          case h_1 y hy=>
            cases hz:(Nat.beq sz r.e.size&&Nat.ble 1 t2.size) with
            | false=>rw[hz] at h;simp at h
            | true =>
              rw[hz] at h
              simp only[cond_true,Option.some.injEq] at h
              subst h
              rw[Bool.and_eq_true] at hz
              have hz':=Nat.eq_of_beq_eq_true hz.1
              have hz2:=Nat.le_of_ble_eq_true hz.2
              obtain⟨hj0,b,c,hk,hv⟩:=hs
              intro ⟨_,hjl⟩
              have hlt:j.toNat<r.xs.length:=by omega
              rcases H _ (zav hr) with ⟨hn,_⟩|⟨b',c',cur,_,q1,q2,q3⟩
              · rw[hk] at hn;cases hn
              · rw [hk] at q1
                simp only[Option.some.injEq,Prod.mk.injEq] at q1
                obtain⟨rfl,rfl⟩:=q1
                have hrep:=q3.2.2.2 j.toNat _ (List.getElem?_eq_getElem hlt)
                have hget:r.xs.getD j.toNat r.e.dflt=r.xs[j.toNat]:=by simp[List.getD,List.getElem?_eq_getElem hlt]
                rw[hget] at hy
                obtain⟨hc1,hc2⟩:=zg6 _ _ _ _ _ _ hy hz2 hrep
                obtain⟨hsz,hag⟩:=za3 hT.ok 20 t t2 i ht2 hi
                have hc3:Rep (vw E η w) t2 y ((cur.toList.drop (j.toNat*sz+off)).take t2.size):=by
                  rw[List.drop_take,List.drop_drop,List.take_take,Nat.min_eq_left (by omega),←hz'] at hc2
                  exact hc2
                obtain⟨v,h1,h2⟩:=zi7 (w:=w) hI hsz hag (ad:=⟨b,j.toNat*sz+off,none⟩) rfl q2 hc3
                exact⟨v,by simp[execOp,ho,hv,Instr.loadAt,Instr.sureAddr,h1],h2⟩
    case h_6=>cases h
theorem zdO {V:View}:∀ {cs:List S1} {vs:List Value},zat V η cs vs→∀v∈vs,v.oneCell'=true
  | [],[],_,v,h=>by cases h
  | [],_::_,h,_,_=>h.elim
  | _::_,[],h,_,_=>h.elim
  | s::r,u::l,⟨_,h2,h3⟩,v,hv=>by
    rcases List.mem_cons.1 hv with rfl|hv
    · exact h2
    · exact zdO h3 v hv
theorem zh3 {V:View} {e:Ty} {xs:List e.Den} {c:Nat} {cur:Array Value} {y:e.Den} {l:List Value} {j:Nat} (h:zcH V e xs c cur) (hy:Rep V e y l) (hj:j<xs.length) :
    zcH V e (xs.set j y) c (cur.toList.take (j*e.size)++l++cur.toList.drop (j*e.size+l.length)).toArray:=by
  have hl:=Rep.length _ _ _ hy
  obtain⟨h1,h2,h3,h4⟩:=h
  have hle:(j+1)*e.size≤cur.size:=by rw[h1];exact Nat.mul_le_mul_right _ (by omega)
  have hle':j*e.size+e.size≤cur.size:=by rw[Nat.add_mul,Nat.one_mul] at hle;exact hle
  refine⟨?_,by simpa using h2,h3,fun i x hx=>?_⟩
  · simp only[List.size_toArray,List.length_append,List.length_take,List.length_drop,Array.length_toList]
    omega
  · have hi:i<xs.length:=by have:=(List.getElem?_eq_some_iff.1 hx).1;simpa using this
    by_cases hij:i=j
    · subst hij
      rw[List.getElem?_set_self hj] at hx
      simp only[Option.some.injEq] at hx
      subst hx
      have:((cur.toList.take (i*e.size)++l++cur.toList.drop (i*e.size+l.length)).drop (i*e.size)).take e.size=l:=by
        have hlen:(cur.toList.take (i*e.size)).length=i*e.size:=by simp;omega
        rw[List.append_assoc,List.drop_append_of_le_length (by omega),List.drop_of_length_le (by omega),List.nil_append,List.take_append_of_le_length (by omega),List.take_of_length_le (by omega)]
      simp only[this]
      exact hy
    · rw [List.getElem?_set_ne (Ne.symm hij)] at hx
      have hr:=h4 i x hx
      have : ((cur.toList.take (j*e.size)++l++cur.toList.drop (j*e.size+l.length)).drop (i*e.size)).take e.size=(cur.toList.drop (i*e.size)).take e.size:=by
        have hlen:(cur.toList.take (j*e.size)).length=j*e.size:=by simp;omega
        rcases Nat.lt_or_ge i j with hlt|hge
        · have hm:i*e.size+e.size≤j*e.size:=by have:=Nat.mul_le_mul_right e.size (show i+1≤j by omega);rw[Nat.add_mul,Nat.one_mul] at this;exact this
          rw[List.append_assoc,List.drop_append_of_le_length (by omega),List.take_append_of_le_length (by simp;omega),List.drop_take,List.take_take]
          congr 1;omega
        · have hm:j*e.size+e.size≤i*e.size:=by have:=Nat.mul_le_mul_right e.size (show j+1≤i by omega);rw[Nat.add_mul,Nat.one_mul] at this;exact this
          have hl2:(cur.toList.take (j*e.size)++l).length=j*e.size+e.size:=by simp only[List.length_append,hlen,hl]
          rw[List.drop_append,List.drop_of_length_le (by omega),List.nil_append,List.drop_drop,hl2,hl]
          congr 2;omega
      simp only[this]
      exact hr
theorem zgo {tt : TT} (hT:TblOk E.P tt) (H:∀f∈st,Fact.holds E η a w f) {o:Oper} {t:Nat} {x y:Operand} (ho:o.op=.store t x y) {s u:SV}
    (hs:zai (vw E η w) η s (a.eval x)) (hu:zai (vw E η w) η u (a.eval y)) {e:Eff} (h:zhB tt st t s u=some e):za6 E η a w o e:=by
  unfold zhB at h
  split at h
  case h_2=>cases h
  case h_1 i hi =>
    have hI:=hT.rows t i hi
    split at h
    case h_1 k off=>
      obtain⟨b,c,hk,hv⟩:=hs
      split at h
      case h_2=>cases h
      case h_1 cs hcs=>
        split at h
        case h_2=>cases h
        case h_1 old hold=>
          cases hz:(Nat.beq cs.length i.size&&Nat.ble 1 i.size) with
          | false=>rw[hz] at h;simp at h
          | true=>
            rw[hz] at h
            simp only[cond_true,Option.some.injEq] at h
            subst h
            rw[Bool.and_eq_true] at hz
            have hz':=Nat.eq_of_beq_eq_true hz.1
            have hz2:=Nat.le_of_ble_eq_true hz.2
            have hC:=SV.cells_sound hcs hu
            have hlen:=zbg hC
            obtain⟨vs,_,e2,_,e4⟩:=zaT H hk i.size off old hold
            · obtain⟨cur,el,q0,q2,q3⟩:=e4 (by omega)
              have hsz:(a.eval y).cells.size=i.size:=by rw[←hz',hlen];simp
              have hrun:=zbT (w:=w) (off:=off) hI q2 hsz (by omega) (zdO hC)
              exact⟨(a.eval y).cells.toList,b,c,cur,el,hk,q0,q2,by simp;omega,hC,by simp[execOp,ho,hv,Instr.storeAt,Instr.sureAddr,hrun]⟩
    case h_2 k j sz=>
      split at h
      case h_2=>cases h
      case h_1 r hr=>
        split at h
        case h_2=>cases h
        case h_1 yy hy=>
          cases hz:(Nat.beq r.e.size i.size&&Nat.beq sz i.size) with
          | false=>rw[hz] at h;simp at h
          | true=>
            rw[hz] at h
            simp only[cond_true,Option.some.injEq] at h
            subst h
            rw[Bool.and_eq_true] at hz
            have hz1:=Nat.eq_of_beq_eq_true hz.1
            have hz2:=Nat.eq_of_beq_eq_true hz.2
            obtain⟨hj0,b,c,hk,hv⟩:=hs
            intro ⟨_,hjl⟩
            have hlt:j.toNat<r.xs.length:=by omega
            rcases H _ (zav hr) with ⟨hn,_⟩|⟨b',c',cur,q0,q1,q2,q3⟩
            · rw[hk] at hn;cases hn
            · rw[hk] at q1
              simp only[Option.some.injEq,Prod.mk.injEq] at q1
              obtain⟨rfl,rfl⟩:=q1
              have hrep:=RepV.cells (SV.den_sound hy hu)
              have hl:=Rep.length _ _ _ hrep
              have hle:(j.toNat+1)*r.e.size≤cur.size:=by rw[q3.1];exact Nat.mul_le_mul_right _ (by have:=q3.2.1;omega)
              rw[Nat.add_mul,Nat.one_mul] at hle
              have hsz:(a.eval y).cells.size=i.size:=by simpa [hz1] using hl
              have hrun:=zbT (w:=w) hI q2 (off:=j.toNat*sz) hsz (by rw[hsz,hz2,←hz1];omega) (Rep.oneCell _ _ _ hrep)
              refine⟨b,c,cur,_,hk,q0,q2,zh3 q3 hrep hlt,?_⟩
              rw[hz2,←hz1] at hv hrun
              simp only[Array.length_toList]
              simp[execOp,ho,hv,Instr.storeAt,Instr.sureAddr,hrun]
    case h_3 k j sz off=>
      split at h
      case h_2=>cases h
      case h_1 r hr =>
        split at h
        case h_2=>cases h
        case h_1 t2 ht2=>
          split at h
          case h_2=>cases h
          case h_1 yy hy=>
            split at h
            case h_2=>cases h
            case h_1 z hzz=>
              cases hz:(Nat.beq sz r.e.size&&Nat.ble 1 t2.size) with
              | false=>rw[hz] at h;simp at h
              | true =>
                rw[hz] at h
                simp only[cond_true,Option.some.injEq] at h
                subst h
                rw[Bool.and_eq_true] at hz
                have hz':=Nat.eq_of_beq_eq_true hz.1
                have hz2:=Nat.le_of_ble_eq_true hz.2
                obtain⟨hj0,b,c,hk,hv⟩:=hs
                intro ⟨_,hjl⟩
                have hlt:j.toNat<r.xs.length:=by omega
                rcases H _ (zav hr) with ⟨hn,_⟩|⟨b',c',cur,q0,q1,q2,q3⟩
                · rw[hk] at hn;cases hn
                · rw [hk] at q1
                  simp only[Option.some.injEq,Prod.mk.injEq] at q1
                  obtain⟨rfl,rfl⟩:=q1
                  have hry:=RepV.cells (SV.den_sound hy hu)
                  have hly:=Rep.length _ _ _ hry
                  have hrep:=q3.2.2.2 j.toNat _ (List.getElem?_eq_getElem hlt)
                  have hget:r.xs.getD j.toNat r.e.dflt=r.xs[j.toNat]:=by simp[List.getD,List.getElem?_eq_getElem hlt]
                  rw[hget] at hzz
                  obtain⟨hc1,hset⟩:=zha _ _ _ _ _ _ _ _ hzz hz2 hrep hry
                  obtain⟨hsz,_⟩:=za3 hT.ok 20 t t2 i ht2 hi
                  have hle:(j.toNat+1)*r.e.size≤cur.size:=by rw[q3.1];exact Nat.mul_le_mul_right _ (by have:=q3.2.1;omega)
                  rw[Nat.add_mul,Nat.one_mul] at hle
                  have hvs:(a.eval y).cells.size=i.size:=by rw[←hsz,←hly];simp
                  have hrun:=zbT (w:=w) hI q2 (off:=j.toNat*sz+off) (v:=a.eval y) hvs (by rw[hz',hvs,←hsz];omega) (Rep.oneCell _ _ _ hry)
                  have hri:=zh3 q3 hset hlt
                  have hle2:j.toNat*r.e.size+r.e.size≤cur.toList.length:=by simpa using hle
                  have hll:(List.take off (List.take r.e.size (List.drop (j.toNat*r.e.size) cur.toList))++(a.eval y).cells.toList++List.drop (off+(a.eval y).cells.toList.length) (List.take r.e.size (List.drop (j.toNat*r.e.size) cur.toList))).length=r.e.size:=by
                    have:=Rep.length _ _ _ hset
                    exact this
                  rw[hll,zk0 (by rw[hly];exact hc1) hle2] at hri
                  refine⟨b,c,cur,_,hk,q0,q2,hri,?_⟩
                  rw[hz'] at hv hrun
                  have he:(a.eval y).cells.size=(a.eval y).cells.toList.length:=by simp
                  rw[he] at hrun
                  simp[execOp,ho,hv,Instr.storeAt,Instr.sureAddr,hrun]
    case h_4=>cases h
end
end Go.Eng
