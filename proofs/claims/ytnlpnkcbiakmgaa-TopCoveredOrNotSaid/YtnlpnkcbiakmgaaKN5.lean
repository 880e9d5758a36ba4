/- Texts C10 C11 C12 C13 C14 C15 C16 C17 C18 A12 A13 A14 A15 B2, as far as they are used. Conditions: each lemma's own. -/
import Derived.Test.YtnlpnkcbiakmgaaKN4
import Derived.WalkKit
import Derived.Test.YtnlpnkcbiakmgaaRows
import Derived.ChangeCalls
import Derived.ProofKit
namespace Go.Eng.Ar
open Go.Eng Go.Proofs
set_option linter.all false
set_option maxRecDepth 100000
set_option maxHeartbeats 8000000
abbrev bndZ:BndD:=Ty.dflt zhY
abbrev bdN (b:List BndD) (k:Nat):BndD:=b.getD k bndZ
abbrev bdL (b:List BndD) (l:List Int) (i:Nat):BndD:=b.getD (vI l i).toNat bndZ
abbrev zck:Type:=zkF.Den
def zaz (b:List BndD) (l:List Int) (k:Nat):List (List Int):=tab (fun i=>(bdL b l i).1) k
def rhsP (b:List BndD) (l:List Int) (k:Nat):List Int:=tab (fun i=>(bdL b l i).2.1) k
def colP (m:List (List Int)) (j i:Nat):List Int:=tab (fun i=>vI (rowN m i) j) i
def ziH (m:List (List Int)) (k:Nat):List (List Int):=tab (fun j=>colP m j m.length) k
def wsP (b:Nat) (l y:List Int):Nat→List Int
  | 0=>repl (b:Int) (0:Int)
  | i+1=>(wsP b l y i).set (vI l i).toNat (vI y i)
def okB (b:List BndD) (x:List Int) (den:Int) (k:Nat):Bool:=decide (dotI (bdN b k).1 x≤(bdN b k).2.1*den)
def zdM (b:List BndD) (x:List Int) (den:Int):Nat→Bool
  | 0=>true
  | k+1=>zdM b x den k&&okB b x den k
abbrev zfV:zck:=([],0,[],0,())
def atX (b:List BndD) (l:List Int):List Int×Int×Bool×Unit:=zay (zaz b l l.length) (rhsP b l l.length)
def atY (b:List BndD) (l:List Int):List Int×Int×Bool×Unit:=zay (trM (zaz b l l.length)) (zbu (l.length:Int) ((l.length:Int) - 1) 1)
def atR (b:List BndD) (l:List Int):zck×Bool×Unit:=
  if (atX b l).2.2.1=false then (zfV,false,())
  else if zdM b (atX b l).1 (atX b l).2.1 b.length=false then (zfV,false,())
  else if mn (atY b l).1 (l.length - 1)<0 then (zfV,false,())
  else (((atX b l).1,(atX b l).2.1,wsP b.length l (atY b l).1 l.length,(atY b l).2.1,()),true,())
structure goodA (b:List BndD) (l:List Int):Prop where
  pos:0<l.length
  le:l.length≤4
  ble:b.length≤100
  idx:∀i,i<l.length→0≤vI l i∧(vI l i).toNat<b.length
  len:∀k,k<b.length→(bdN b k).1.length=l.length
  vals:∀k j,k<b.length→j<l.length→-1000≤vI (bdN b k).1 j∧vI (bdN b k).1 j≤1000
  most:∀k,k<b.length→(0:Int)≤(bdN b k).2.1∧(bdN b k).2.1≤(1000:Int)
theorem zdC {b:Nat} {l y:List Int}:∀i,(wsP b l y i).length=b
  | 0=>by simp[wsP,zcn]
  | i+1=>by simp[wsP,zdC i]
theorem zaJ {b l k}:(zaz b l k).length=k:=zak _ _
theorem zfY {b:List BndD} {l:List Int} {k i:Nat} (h:i<k):rowN (zaz b l k) i=(bdL b l i).1:=zaD (fun i=>(bdL b l i).1) [] k i h
theorem zgm {b:List BndD} {l:List Int} (h:goodA b l):zcY l.length (zaz b l l.length):=by
  refine⟨zaJ,fun r hr=>?_⟩
  obtain⟨i,hi,rfl⟩:=zbR hr
  have h1:=h.idx i hi
  have h2:(bdL b l i).1.length=l.length:=h.len _ h1.2
  refine⟨h2,fun x hx=>?_⟩
  obtain⟨j,hj,rfl⟩:=zk3 hx
  have:=h.vals _ j h1.2 (by rw[←h2];exact hj)
  have e:vI (bdL b l i).1 j=vI (bdN b (vI l i).toNat).1 j:=rfl
  rw[e];omega
theorem zj7 {b l k}:(rhsP b l k).length=k:=zak _ _
theorem zj8 {b:List BndD} {l:List Int} {k i:Nat} (h:i<k):vI (rhsP b l k) i=(bdL b l i).2.1:=zaD (fun i=>(bdL b l i).2.1) 0 k i h
theorem pX {b:List BndD} {l:List Int} (h:goodA b l):zjb (zaz b l l.length) (rhsP b l l.length):=by
  refine⟨⟨l.length,h.le,zgm h⟩,by rw[zj7,zaJ],fun i hi=>?_⟩
  rw[zaJ] at hi
  rw[zj8 hi]
  have h1:=h.idx i hi
  have h2:0≤(bdL b l i).2.1∧(bdL b l i).2.1≤1000:=h.most _ h1.2
  generalize (bdL b l i).2.1=z at h2
  have h3:(0:Int)≤z:=h2.1
  have h4:z≤(1000:Int):=h2.2
  exact⟨Int.le_trans (by decide) h3,Int.le_trans h4 (by decide)⟩
theorem zh2 {n k v:Int}:(zbu n k v).length=n.toNat:=by
  unfold zbu;rw[List.length_set,zcn]
theorem zeD {n:Nat} {k:Nat} {v:Int} {i:Nat} (hi:i<n):vI (zbu (n:Int) (k:Int) v) i=if i=k then v else 0:=by
  have e:zbu (n:Int) (k:Int) v=tab (fun j=>if j=k then v else 0) n:=by
    have e0:repl (n:Int) (0:Int)=tab (fun _=>(0:Int)) n:=by
      rw[zeu];symm
      exact zkJ 0 (by simp) fun i hi=>by simp[List.getD,hi]
    unfold zbu
    rw[e0,show ((k:Int)).toNat=k from rfl,zjU]
  rw[e]
  exact zaD (fun j=>if j=k then v else 0) 0 n i hi
theorem pY {b:List BndD} {l:List Int} (h:goodA b l):zjb (trM (zaz b l l.length)) (zbu (l.length:Int) ((l.length:Int) - 1) 1):=by
  have hl:(trM (zaz b l l.length)).length=l.length:=by rw[zf9,zaJ]
  refine⟨⟨l.length,h.le,zqd (zgm h)⟩,by rw[zh2,hl];rfl,fun i hi=>?_⟩
  rw[hl] at hi
  have hp:=h.pos
  rw[show (l.length:Int) - 1=((l.length - 1:Nat):Int) by omega,zeD hi]
  split<;>omega
theorem zk0 {b:List BndD} {x:List Int} {d:Int} {k:Nat} (h:okB b x d k=false):∀n,k<n→zdM b x d n=false
  | 0,hk=>absurd hk (Nat.not_lt_zero _)
  | n+1,hk=>by
    simp only[zdM]
    by_cases e:k=n
    · subst e;rw[h,Bool.and_false]
    · rw[zk0 h n (by omega),Bool.false_and]
theorem at_1 {b:List BndD} {l:List Int} (h:(atX b l).2.2.1=false):atR b l=(zfV,false,()):=if_pos h
theorem at_2 {b:List BndD} {l:List Int} (h:(atX b l).2.2.1=true) (h2:zdM b (atX b l).1 (atX b l).2.1 b.length=false):atR b l=(zfV,false,()):=by
  unfold atR;rw[if_neg (by rw[h];decide),if_pos h2]
theorem at_3 {b:List BndD} {l:List Int} (h:(atX b l).2.2.1=true) (h2:zdM b (atX b l).1 (atX b l).2.1 b.length=true) (h3:mn (atY b l).1 (l.length - 1)<0):atR b l=(zfV,false,()):=by
  unfold atR;rw[if_neg (by rw[h];decide),if_neg (by rw[h2];decide),if_pos h3]
theorem at_4 {b:List BndD} {l:List Int} (h:(atX b l).2.2.1=true) (h2:zdM b (atX b l).1 (atX b l).2.1 b.length=true) (h3:¬mn (atY b l).1 (l.length - 1)<0):atR b l=(((atX b l).1,(atX b l).2.1,wsP b.length l (atY b l).1 l.length,(atY b l).2.1,()),true,()):=by
  unfold atR;rw[if_neg (by rw[h];decide),if_neg (by rw[h2];decide),if_neg h3]
theorem zjR {b:List BndD} {l:List Int} (h:(atX b l).2.2.1=true):detA (zaz b l l.length)≠0:=zln h
theorem zp9 {b:List BndD} {l:List Int} (h:(atX b l).2.2.1=true):(atX b l).1.length=l.length:=(ziX (zjR h)).trans zaJ
theorem zof {b:List BndD} {l:List Int} (hg:goodA b l) (h:(atX b l).2.2.1=true):detA (trM (zaz b l l.length))≠0:=by
  rw[zpo hg.le (zgm hg)];exact zjR h
theorem zod {b:List BndD} {l:List Int} (hg:goodA b l) (h:(atX b l).2.2.1=true):(atY b l).1.length=l.length:=(ziX (zof hg h)).trans (by rw[zf9,zaJ])
theorem y_eq {b:List BndD} {l:List Int}:zay (ziH (zaz b l l.length) (zaz b l l.length).length) (zbu ((zaz b l l.length).length:Int) (((zaz b l l.length).length:Int) - 1) 1)=atY b l:=by
  show zay (trM (zaz b l l.length)) _=atY b l
  rw[zaJ];rfl
theorem zoe {b:List BndD} {l:List Int}:zay (ziH (zaz b l l.length) l.length) (zbu (l.length:Int) ((l.length:Int) - 1) 1)=atY b l:=by
  have:=@y_eq b l
  rw[zaJ] at this;exact this
theorem ztr {b:List BndD} {l:List Int} (hg:goodA b l) (h:(atX b l).2.2.1=true) {k:Nat} (hk:k<b.length):pDot (bdN b k).1 (atX b l).1:=by
  have e:=hg.len k hk
  have hl:=hg.le
  refine⟨by rw[e,zp9 h];exact Nat.le_refl _,by rw[e];omega,fun i hi=>?_⟩
  rw[e] at hi
  have h1:=hg.vals k i hk hi
  have h2:=zh5 (pX hg) (zjR h) (i:=i) (by rw[zaJ];exact hi)
  have h3:=zjk h1.1 h1.2 h2.1 h2.2
  exact⟨Int.le_trans (by decide) h3.1,Int.le_trans h3.2 (by decide)⟩
theorem zsd {b:List BndD} {l:List Int} (hg:goodA b l) (h:(atX b l).2.2.1=true) {k:Nat} (hk:k<b.length) : -9223372036854775808≤(bdN b k).2.1*(atX b l).2.1∧(bdN b k).2.1*(atX b l).2.1≤9223372036854775807:=by
  have h1:=hg.most k hk
  have h2:=zgh (pX hg) (zjR h)
  have h3:=zjk (x:=(bdN b k).2.1) (d:=(atX b l).2.1) (X:=1000) (B:=400000000000000) (Int.le_trans (by decide) h1.1) h1.2 (Int.le_trans (by decide) (Int.le_of_lt h2.1)) h2.2
  exact⟨Int.le_trans (by decide) h3.1,Int.le_trans h3.2 (by decide)⟩
@[reducible] def sAt:Spec:={pats:=[.dat ziP,.dat (.sl I64)],res:=[{t:=zkF},{t:=.bool}],pre:=fun x=>goodA x.1.2.2.1 x.2.1,f:=fun x=>atR x.1.2.2.1 x.2.1}
def aA1 (b:List BndD) (l:List Int):LoopAnn:={σ:=Nat,pat:=fun k=>sI 28 k::(zmp 6 60006 38 (zaz b l k)++sOwn 8 60008 3 (rhsP b l k)),inv:=fun k=>k≤l.length,meas:=fun k=>l.length - k}
def aA2 (b:List BndD) (l:List Int):LoopAnn:={σ:=Nat,pat:=fun k=>[sI 64 k],inv:=fun k=>k≤b.length∧zdM b (atX b l).1 (atX b l).2.1 k=true,meas:=fun k=>b.length - k}
def aA3 (b:List BndD) (l:List Int):LoopAnn:={σ:=Nat,pat:=fun k=>sI 81 k::zmp 7 60007 38 (ziH (zaz b l l.length) k),inv:=fun k=>k≤l.length,meas:=fun k=>l.length - k}
def aA4 (b:List BndD) (l:List Int) (st:St):LoopAnn:=zlm 81 st fun j=>{σ:=Nat,pat:=fun i=>sI 86 i::sOwn 17 60017 3 (colP (zaz b l l.length) j.toNat i),inv:=fun i=>i≤l.length,meas:=fun i=>l.length - i}
def aA5 (b:List BndD) (l:List Int):LoopAnn:={σ:=Nat,pat:=fun k=>[sI 129 k,.cell 23 0 (.d (.sl I64) (atX b l).1),cI 23 1 (atX b l).2.1,cI 23 3 (atY b l).2.1,.cell 23 2 (.o 124 (b.length)),.row 124 3 I64 (wsP b.length l (atY b l).1 k)],inv:=fun k=>k≤l.length,meas:=fun k=>l.length - k}
theorem h164:Ok 64 sAt:=by
  refine mk (ctr:=[(31,sDot),(34,sMin),(62,zqj),(73,zi2)]) ⟨h105,h108,h162,zss,trivial⟩ (nt:=144) Try.func64 rfl rfl rfl rfl (by kernel_rfl) (by kernel_rfl) (fun x=>[fun _=>aA1 x.1.2.2.1 x.2.1,fun _=>aA2 x.1.2.2.1 x.2.1,fun _=>aA3 x.1.2.2.1 x.2.1,aA4 x.1.2.2.1 x.2.1,fun _=>aA5 x.1.2.2.1 x.2.1]) ?_
  rintro⟨⟨(s:Int),(n:Int),(b:List BndD),_⟩,(l:List Int),_⟩ (h:goodA b l)
  repeat' (intro hzz;(try (rename Two=>hq;cases hq));(try dsimp only at hzz);(try simp only[zad,zac,eqD,inR,big,zab,zB] at hzz);(try simp only[zad,zac,eqD,inR,big,zab,zB,zbO,zaP,zcl,zdS,zdT,Int.toNat_natCast,zak,zcu,List.length_append,zaJ,zj7] at hzz);(try (revert hzz;intro _)))
  all_goals try (rename Unit=>hq;clear hq)
  all_goals try ((with_reducible refine Held.mk ?_);(with_reducible (first|refine Frz.mk ?_|refine And.intro (Frz.mk ?_) ?_|refine And.intro ?_ (Frz.mk ?_)));repeat' first|exact True.intro|(change _=_;with_reducible rfl)|refine And.intro ?_ ?_|(with_reducible refine Frz.mk ?_))
  all_goals try (refine Held.mk ?_;(try dsimp only at *);(try simp only[zad,zac,eqD,inR,big,zab,zB] at *);(try simp only[zad,zac,eqD,inR,big,zab,zB,zbO,zaP,zcl,zdS,zdT,Int.toNat_natCast,zak,zcu,List.length_append,zaJ,zj7] at *))
  all_goals try omega
  all_goals have hg0:goodA b l:=by assumption
  all_goals have hp:=hg0.pos
  all_goals have hl:=hg0.le
  all_goals have hbl:=hg0.ble
  ·
    refine zaq.mk ?_
    refine Exists.intro (0:Nat) ?_
    refine And.intro (Leaf.mk ?_) ?_
    · repeat' first|exact True.intro|refine And.intro ?_ ?_
      all_goals try ((change _=_<;>try dsimp only)<;>try with_reducible rfl)
      all_goals try omega
      all_goals (rfl)
    exact Nat.zero_le _
  · rename_i k hk hg
    have h1:=hg0.idx k (by omega)
    exact⟨h1.1,by have h2:=h1.2;show vI l k<(b.length:Int);omega⟩
  · rename_i k hk hg
    show k+1≤2147483648;omega
  · rename_i k hk hg
    have h1:=hg0.idx k (by omega)
    exact⟨h1.1,by have h2:=h1.2;show vI l k<(b.length:Int);omega⟩
  · rename_i k hk hg
    show k+1≤2147483648;omega
  · omega
  · rename_i k hk hg
    refine zaq.mk ?_
    refine Exists.intro (k+1) ?_
    refine And.intro (Leaf.mk ?_) ?_
    · repeat' first|exact True.intro|refine And.intro ?_ ?_
      all_goals try ((change _=_<;>try dsimp only)<;>try with_reducible rfl)
      all_goals try omega
      all_goals (rfl)
    exact⟨by show k+1≤l.length;omega,by show l.length - (k+1)<l.length - k;omega⟩
  · rename_i k hk hg
    rw[show k=l.length by omega]
    exact pX hg0
  · rename_i k hk hg hx
    rw[show k=l.length by omega] at hx
    rw[at_1 hx];exact⟨⟨rfl,rfl,rfl,rfl⟩,rfl⟩
  · rename_i k hk hg hx
    refine zaq.mk ?_
    refine Exists.intro (0:Nat) ?_
    refine And.intro (Leaf.mk ?_) ?_
    · repeat' first|exact True.intro|refine And.intro ?_ ?_
      all_goals try ((change _=_<;>try dsimp only)<;>try with_reducible rfl)
      all_goals try omega
      all_goals (rfl)
    exact⟨Nat.zero_le _,rfl⟩
  · rename_i q hq hq2 hx k hk hg
    rw[show q=l.length by omega] at hx ⊢
    exact ztr hg0 hx (by omega)
  · rename_i q hq hq2 hx k hk hg
    rw[show q=l.length by omega] at hx ⊢
    exact zsd hg0 hx (by omega)
  · rename_i q hq hq2 hx k hk hg hn
    rw[show q=l.length by omega] at hx hn
    have ho:okB b (atX b l).1 (atX b l).2.1 k=false:=decide_eq_false (Int.not_le.2 hn)
    rw[at_2 hx (zk0 ho _ (by omega))];exact⟨⟨rfl,rfl,rfl,rfl⟩,rfl⟩
  · omega
  · rename_i q hq hq2 hx k hk hg hn
    rw[show q=l.length by omega] at hx hn
    have ho:okB b (atX b l).1 (atX b l).2.1 k=true:=decide_eq_true hn
    refine zaq.mk ?_
    refine Exists.intro (k+1) ?_
    refine And.intro (Leaf.mk ?_) ?_
    · repeat' first|exact True.intro|refine And.intro ?_ ?_
      all_goals try ((change _=_<;>try dsimp only)<;>try with_reducible rfl)
      all_goals try omega
      all_goals (rfl)
    exact⟨⟨by show k+1≤b.length;omega,by show (zdM b (atX b l).1 (atX b l).2.1 k&&okB b (atX b l).1 (atX b l).2.1 k)=true;rw[hk.2,ho];rfl⟩,by show b.length - (k+1)<b.length - k;omega⟩
  · rename_i q hq hq2 hx k hk hg
    refine zaq.mk ?_
    refine Exists.intro (0:Nat) ?_
    refine And.intro (Leaf.mk ?_) ?_
    · repeat' first|exact True.intro|refine And.intro ?_ ?_
      all_goals try ((change _=_<;>try dsimp only)<;>try with_reducible rfl)
      all_goals try omega
      all_goals (rfl)
    exact Nat.zero_le _
  · rename_i q hq hq2 hx k hk hg j hj hgj
    refine zaq.mk ?_
    refine Exists.intro (0:Nat) ?_
    refine And.intro (Leaf.mk ?_) ?_
    · repeat' first|exact True.intro|refine And.intro ?_ ?_
      all_goals try ((change _=_<;>try dsimp only)<;>try with_reducible rfl)
      all_goals try omega
      all_goals (rfl)
    exact Nat.zero_le _
  · rename_i q hq hq2 hx k hk hg j hj hgj i hi hgi
    have e:q=l.length:=by omega
    subst e
    have h1:(rowN (zaz b l l.length) i).length=l.length:=by
      rw[zfY (by omega)]
      exact hg0.len _ (hg0.idx i (by omega)).2
    show 0≤(j:Int)∧(j:Int)<((rowN (zaz b l l.length) i).length:Int)
    omega
  · rename_i q hq hq2 hx k hk hg j hj hgj i hi hgi
    rw[show (colP (zaz b l l.length) j i).length=i from zak _ _]
    show i+1≤2147483648;omega
  · omega
  · rename_i q hq hq2 hx k hk hg j hj hgj i hi hgi
    have e:q=l.length:=by omega
    subst e
    refine zaq.mk ?_
    refine Exists.intro (i+1) ?_
    refine And.intro (Leaf.mk ?_) ?_
    · repeat' first|exact True.intro|refine And.intro ?_ ?_
      all_goals try ((change _=_<;>try dsimp only)<;>try with_reducible rfl)
      all_goals try omega
      all_goals (rfl)
    exact⟨by show i+1≤l.length;omega,by show l.length - (i+1)<l.length - i;omega⟩
  · rename_i q hq hq2 hx k hk hg j hj hgj i hi hgi
    rw[show (ziH (zaz b l l.length) j).length=j from zak _ _]
    show j+1≤2147483648;omega
  · omega
  · rename_i q hq hq2 hx k hk hg j hj hgj i hi hgi
    have e:i=(zaz b l l.length).length:=by rw[zaJ];omega
    subst e
    refine zaq.mk ?_
    refine Exists.intro (j+1) ?_
    refine And.intro (Leaf.mk ?_) ?_
    · repeat' first|exact True.intro|refine And.intro ?_ ?_
      all_goals try ((change _=_<;>try dsimp only)<;>try with_reducible rfl)
      all_goals try omega
      all_goals (rfl)
    exact⟨by show j+1≤l.length;omega,by show l.length - (j+1)<l.length - j;omega⟩
  · omega
  · rename_i q hq hq2 hx k hk hg j hj hgj
    show zse (q:Int) ((q:Int) - 1)
    exact⟨by omega,by omega,by omega,by omega⟩
  · rename_i q hq hq2 hx k hk hg j hj hgj
    have e:q=l.length:=by omega
    subst e
    rw[show j=(zaz b l l.length).length by rw[zaJ];omega]
    exact pY hg0
  · rename_i q hq hq2 hx k hk hg j hj hgj
    have e:q=l.length:=by omega
    subst e
    rw[show j=(zaz b l l.length).length by rw[zaJ];omega]
    have h1:=zod hg0 hx
    show pMx (atY b l).1.length
    rw[h1]
    exact⟨hp,(show (l.length:Int)≤4611686018427387904 by omega)⟩
  · rename_i q hq hq2 hx k hk hg j hj hgj hn
    have e:q=l.length:=by omega
    subst e
    rw[show j=(zaz b l l.length).length by rw[zaJ];omega] at hn
    have h1:=zod hg0 hx
    have hn:mn (atY b l).1 ((atY b l).1.length - 1)<0:=hn
    rw[h1] at hn
    have ho:=hk.2
    rw[show k=b.length by have:=hk.1;omega] at ho
    rw[at_3 hx ho hn];exact⟨⟨rfl,rfl,rfl,rfl⟩,rfl⟩
  · show 0≤(b.length:Int)∧(b.length:Int)≤((2147483648:Nat):Int)
    omega
  · rename_i q hq hq2 hx k hk hg j hj hgj hn
    have e:q=l.length:=by omega
    subst e
    have e:j=(zaz b l l.length).length:=by rw[zaJ];omega
    subst e
    refine zaq.mk ?_
    refine Exists.intro (0:Nat) ?_
    refine And.intro (Leaf.mk ?_) ?_
    · repeat' first|exact True.intro|refine And.intro ?_ ?_
      all_goals try ((change _=_<;>try dsimp only)<;>try with_reducible rfl)
      all_goals try omega
      all_goals (first|rfl|exact zcn _ _|exact (zcn _ _).symm|exact congrArg (fun z=>z.2.1) y_eq|exact congrArg (fun z=>z.2.1) zoe|exact (congrArg (fun z=>z.2.1) y_eq).symm)
    exact Nat.zero_le _
  · rename_i q hq hq2 hx k hk hg j hj hgj hn i hi hgi
    have e:q=l.length:=by omega
    subst e
    have e:j=l.length:=by omega
    subst e
    have h1:=zod hg0 hx
    rw[←zoe] at h1
    show 0≤(i:Int)∧(i:Int)<((zay (ziH (zaz b l l.length) l.length) (zbu (l.length:Int) ((l.length:Int) - 1) 1)).1.length:Int)
    rw[h1];omega
  · rename_i q hq hq2 hx k hk hg j hj hgj hn i hi hgi
    have h1:=hg0.idx i (by omega)
    exact⟨h1.1,by have h2:=h1.2;show vI l i<(b.length:Int);omega⟩
  · rename_i q hq hq2 hx k hk hg j hj hgj hn i hi hgi
    have h1:=hg0.idx i (by omega)
    rw[zdC]
    exact⟨h1.1,by have h2:=h1.2;show vI l i<(b.length:Int);omega⟩
  · omega
  · rename_i q hq hq2 hx k hk hg j hj hgj hn i hi hgi
    have e:q=l.length:=by omega
    subst e
    have e:j=l.length:=by omega
    subst e
    have e:(wsP b.length l (atY b l).1 i).set (vI l i).toNat (vI (zay (ziH (zaz b l l.length) l.length) (zbu (l.length:Int) ((l.length:Int) - 1) 1)).1 i)=wsP b.length l (atY b l).1 (i+1):=by rw[zoe];rfl
    have e3:(wsP b.length l (atY b l).1 i).set (vI l i).toNat (vI (zay (ziH (zaz b l l.length) l.length) (zbu ((zaz b l l.length).length:Int) (((zaz b l l.length).length:Int) - 1) 1)).1 i)=wsP b.length l (atY b l).1 (i+1):=by rw[zaJ];exact e
    refine zaq.mk ?_
    refine Exists.intro (i+1) ?_
    refine And.intro (Leaf.mk ?_) ?_
    · repeat' first|exact True.intro|refine And.intro ?_ ?_
      all_goals try ((change _=_<;>try dsimp only)<;>try with_reducible rfl)
      all_goals try omega
      all_goals (first|rfl|exact e|exact e.symm|exact e3|exact e3.symm)
    exact⟨by show i+1≤l.length;omega,by show l.length - (i+1)<l.length - i;omega⟩
  all_goals try first|exact (zdC _).symm|exact zdC _|exact (zcn _ _).trans ((Int.toNat_natCast _).trans (zdC _).symm)
  · rename_i q hq hq2 hx k hk hg j hj hgj hn i hi hgi
    have e:q=l.length:=by omega
    subst e
    have e:j=l.length:=by omega
    subst e
    have h1:=zod hg0 hx
    have hn:¬mn (zay (ziH (zaz b l l.length) l.length) (zbu (l.length:Int) ((l.length:Int) - 1) 1)).1 ((zay (ziH (zaz b l l.length) l.length) (zbu (l.length:Int) ((l.length:Int) - 1) 1)).1.length - 1)<0:=by
      exact Int.not_lt.2 hn
    rw[zoe,h1] at hn
    have ho:=hk.2
    rw[show k=b.length by have:=hk.1;omega] at ho
    rw[at_4 hx ho hn,show i=l.length by omega];exact⟨⟨rfl,rfl,rfl,rfl⟩,rfl⟩
theorem asR (a:Act) (w:World) (o:Oper) (x:Operand) (ho:o.op=.assign x) {v:Value} (hx:a.eval x=v):(execOp a.eval o).run Try.prog w=.ok (.value v) w:=by
  simp[execOp,ho,hx]
theorem zn8 (w:World):(isAgg 114).run Try.prog w=.ok false w:=by
  simp[isAgg,run_underlying Try.underlying114]
theorem zp7 (w:World):(isAgg 133).run Try.prog w=.ok false w:=by
  simp[isAgg,run_underlying Try.underlying133]
theorem ldF {t:Nat} (hag:∀w,(isAgg t).run Try.prog w=.ok false w) (a:Act) (w:World) (o:Oper) (x:Operand) (ho:o.op=.load t x) {b el:Nat} {cur:Array Value} {f:Nat×Nat} {v:Value} (hx:a.eval x=.pointer (some ⟨b,0,none⟩)) (hb:w.heap[b]?=some (.cells cur el f)) (hv:cur[0]?=some v) :
    (execOp a.eval o).run Try.prog w=.ok (.value v) w:=by
  have hl:(loadVar t ⟨b,0,none⟩).run Try.prog w=.ok v w:=by
    have hc:w.cell? ⟨b,0,none⟩=some v:=by rw[zbE hb];exact hv
    simp[loadVar,hag,hc]
  simp[execOp,ho,hx,Instr.loadAt,Instr.sureAddr,hl]
theorem lnR {t el:Nat} (hd':Try.prog.underlying t=some (.slice el)) (a:Act) (w:World) (o:Oper) (x:Operand) (ho:o.op=.call {callee:=.builtin .len,args:=#[x],argTypes:=#[t]}) {ad:Option Addr} {n c:Nat} (hx:a.eval x=.slice ad n c):(execOp a.eval o).run Try.prog w=.ok (.value (.int .i64 n)) w:=by
  simp[execOp,ho,hx,resolve,Deferred.ofValue,invoke,builtin,Builtin.len_,run_underlying hd',goInt]
theorem eqR (a:Act) (w:World) (o:Oper) (x y:Operand) (ho:o.op=.binOp .eql 3 x y 3) {m n:Int} (hx:a.eval x=.int .i64 m) (hy:a.eval y=.int .i64 n):(execOp a.eval o).run Try.prog w=.ok (.value (.bool (decide (m=n)))) w:=by
  simp[execOp,ho,hx,hy,eqGuard,binOp,Op.intCmp];rfl
theorem ltR (a:Act) (w:World) (o:Oper) (x y:Operand) (ho:o.op=.binOp .lss 3 x y 3) {m n:Int} (hx:a.eval x=.int .i64 m) (hy:a.eval y=.int .i64 n):(execOp a.eval o).run Try.prog w=.ok (.value (.bool (decide (m<n)))) w:=by
  simp[execOp,ho,hx,hy,eqGuard,binOp,Op.intCmp]
theorem adR (a:Act) (w:World) (o:Oper) (x y:Operand) (ho:o.op=.binOp .add 3 x y 3) {m n:Int} (hx:a.eval x=.int .i64 m) (hy:a.eval y=.int .i64 n) (hr : -9223372036854775808≤m+n∧m+n≤9223372036854775807):(execOp a.eval o).run Try.prog w=.ok (.value (.int .i64 (m+n))) w:=by
  simp[execOp,ho,hx,hy,eqGuard,binOp,Op.intArith,zhZ hr]
theorem suR (a:Act) (w:World) (o:Oper) (x y:Operand) (ho:o.op=.binOp .sub 3 x y 3) {m n:Int} (hx:a.eval x=.int .i64 m) (hy:a.eval y=.int .i64 n) (hr : -9223372036854775808≤m - n∧m - n≤9223372036854775807):(execOp a.eval o).run Try.prog w=.ok (.value (.int .i64 (m - n))) w:=by
  simp[execOp,ho,hx,hy,eqGuard,binOp,Op.intArith,zhZ hr]
theorem ntR (a:Act) (w:World) (o:Oper) (x:Operand) (ho:o.op=.unOp .not 4 x) {v:Bool} (hx:a.eval x=.bool v):(execOp a.eval o).run Try.prog w=.ok (.value (.bool !v)) w:=by
  simp[execOp,ho,hx,Op.unary]
theorem bsR (a:Act) (w:World) (o:Oper) (x:Operand) (ho:o.op=.buildSlice 38 1 #[(0,x)]) {n:Int} (hx:a.eval x=.int .i64 n):(execOp a.eval o).run Try.prog w=.ok (.value (.slice (some ⟨w.heap.size,0,none⟩) 1 1)) (w.alloc (.cells #[.int .i64 n] 3 (0,0))):=by
  have hS:=zaw row3 w
  have hs:i3.size=1:=rfl
  have hf:Instr.fill (fun i=>some (i,1)) (Array.map (fun x=>(Value.int IntKind.i64 0).cells[x % (Value.int IntKind.i64 0).cells.size]!) (Array.range 1)) [(0,Value.int IntKind.i64 n)]=some #[.int .i64 n]:=by
    have e:Array.range 1 = #[0]:=rfl
    rw[e]
    simp[Instr.fill,Value.cells]
  simp[execOp,ho,hx,Instr.buildSlice,run_underlying Try.underlying38,hS,hs,hf,newRow]
theorem slR (a:Act) (w:World) (o:Oper) (x y:Operand) (ho:o.op=.slice 38 x none (some y) none) {b n c m:Nat} (hx:a.eval x=.slice (some ⟨b,0,none⟩) n c) (hy:a.eval y=.int .i64 (m:Int)) (hm:m≤c):(execOp a.eval o).run Try.prog w=.ok (.value (.slice (some ⟨b,0,none⟩) m c)) w:=by
  have hS:=zaw row3 w
  have hs:i3.size=1:=rfl
  have hb:(Instr.sliceBounds true n c none (some (.int .i64 (m:Int))) none).run Try.prog w=.ok (0,m,c) w:=by
    have b1:=zeh (P:=Try.prog) .i64 (n:=(m:Int)) (y:=c) .sliceAcap w (by omega) (by omega)
    simp[Instr.sliceBounds,b1]
  simp[execOp,ho,hx,hy,Instr.sliceAt,Instr.slice,run_underlying Try.underlying38,hS,hs,hb]
  intro _;rw[zaK]
/-! ### A growing list of numbers -/
def rowI (xs:List Int) (c:Nat) (cur:Array Value):Prop:=cur.size=c∧xs.length≤c∧c≤maxLen∧∀(i:Nat) (x:Int),xs[i]?=some x→cur[i]?=some (.int .i64 x)
theorem zmz {V:View} {xs:List Int} {c:Nat} {cur:Array Value} (h:rowI xs c cur):zcI V I64 xs c cur:=by
  refine⟨by show cur.size=c*1;rw[h.1,Nat.mul_one],h.2.1,h.2.2.1,fun i x hx=>?_⟩
  have h1:=h.2.2.2 i x hx
  have h2:i<cur.toList.length:=by have:=(Array.getElem?_eq_some_iff.1 h1).1;simpa using this
  show (cur.toList.drop (i*1)).take 1=[.int .i64 x]
  rw[Nat.mul_one,List.drop_eq_getElem_cons h2]
  have h3:cur.toList[i]=.int .i64 x:=by
    have:=(Array.getElem?_eq_some_iff.1 h1).2
    simpa using this
  simp[h3]
theorem znn {V:View} {xs:List Int} {c:Nat} {cur:Array Value} (h:zcI V I64 xs c cur):rowI xs c cur:=by
  refine⟨by have:cur.size=c*1:=h.1;omega,h.2.1,h.2.2.1,fun i x hx=>?_⟩
  have h1:(cur.toList.drop (i*1)).take 1=[.int .i64 x]:=h.2.2.2 i x hx
  have h2:=congrArg (fun l=>l[0]?) h1
  simpa [List.getElem?_take,List.getElem?_drop] using h2
def LD (B:Nat) (w:World) (v:Value) (xs:List Int):Prop:=
  (xs=[]∧v=.slice none 0 0)∨∃ls c cur,B≤ls∧w.heap[ls]?=some (.cells cur 3 (0,0))∧v=.slice (some ⟨ls,0,none⟩) xs.length c∧rowI xs c cur
theorem znd {B:Nat} {w:World} {v:Value} {xs:List Int} (h:LD B w v xs):∃ad c,v=.slice ad xs.length c:=by
  rcases h with ⟨rfl,rfl⟩|⟨ls,c,cur,_,_,rfl,_⟩
  · exact⟨none,0,rfl⟩
  · exact⟨_,c,rfl⟩
theorem zki {B:Nat} {w w':World} {v:Value} {xs:List Int} (h:LD B w v xs) (hk:∀b,B≤b→b<w.heap.size→w'.heap[b]?=w.heap[b]?):LD B w' v xs:=by
  rcases h with h|⟨ls,c,cur,h1,h2,h3,h4⟩
  · exact .inl h
  · exact .inr ⟨ls,c,cur,h1,(hk ls h1 (zah h2)).trans h2,h3,h4⟩
theorem zso {B:Nat} {w:World} {v:Value} {xs:List Int} {n:Int} (h:LD B w v (xs++[n])):∃ls c,v=.slice (some ⟨ls,0,none⟩) (xs.length+1) c∧xs.length≤c∧LD B w (.slice (some ⟨ls,0,none⟩) xs.length c) xs:=by
  rcases h with ⟨h,_⟩|⟨ls,c,cur,h1,h2,h3,h4⟩
  · simp at h
  · have hl:xs.length+1≤c:=by simpa using h4.2.1
    refine⟨ls,c,by simpa using h3,by omega,.inr ⟨ls,c,cur,h1,h2,rfl,h4.1,by omega,h4.2.2.1,fun i x hx=>?_⟩⟩
    have hi:i<xs.length:=(List.getElem?_eq_some_iff.1 hx).1
    exact h4.2.2.2 i x (by rw[List.getElem?_append_left hi];exact hx)
structure Bel (B:Nat) (w w':World):Prop where
  os:w'.os=w.os
  tape:w'.tape=w.tape
  output:w'.output=w.output
  size:w.heap.size≤w'.heap.size
  keep:∀b,b<B→b<w.heap.size→w'.heap[b]?=w.heap[b]?
theorem Bel.refl (B:Nat) (w:World):Bel B w w:=⟨rfl,rfl,rfl,Nat.le_refl _,fun _ _ _=>rfl⟩
theorem Bel.trans {B:Nat} {w w' w'':World} (h:Bel B w w') (k:Bel B w' w''):Bel B w w'':=
  ⟨k.os.trans h.os,k.tape.trans h.tape,k.output.trans h.output,Nat.le_trans h.size k.size,fun b hb hs=>(k.keep b hb (Nat.lt_of_lt_of_le hs h.size)).trans (h.keep b hb hs)⟩
theorem Bel.le {B B':Nat} {w w':World} (h:Bel B w w') (hb:B'≤B):Bel B' w w':=⟨h.os,h.tape,h.output,h.size,fun b hb'=>h.keep b (Nat.lt_of_lt_of_le hb' hb)⟩
theorem ze5 {B:Nat} {w:World} {o:Obj}:Bel B w (w.alloc o):=by
  refine⟨rfl,rfl,rfl,?_,fun b _ hs=>?_⟩
  · show w.heap.size≤(w.heap.push o).size
    rw[Array.size_push];exact Nat.le_succ _
  · show (w.heap.push o)[b]?=w.heap[b]?
    rw[Array.getElem?_push,if_neg (Nat.ne_of_lt hs)]
theorem zec {B g:Nat} {w:World} {c:Array Value} (h:B≤g):Bel B w (w.setRow g c):=by
  refine⟨rfl,rfl,rfl,by simp[World.setRow],fun b hb _=>?_⟩
  exact setRow_other w g b c (by omega)
theorem apR (a:Act) (w:World) (o:Oper) (x y:Operand) (ho:o.op=.call {callee:=.builtin .append,args:=#[x,y],argTypes:=#[38,38]}) {B:Nat} {v:Value} {xs:List Int} {n:Int} {b1:Nat} (hx:a.eval x=v) (hv:LD B w v xs) (hl:xs.length+1≤1000) (hy:a.eval y=.slice (some ⟨b1,0,none⟩) 1 1) (hb1:w.heap[b1]?=some (.cells #[.int .i64 n] 3 (0,0))) (hB:B≤w.heap.size) :
    ∃v' w',(execOp a.eval o).run Try.prog w=.ok (.value v') w'∧LD B w' v' (xs++[n])∧Bel B w w':=by
  obtain⟨E,hE⟩:∃E:Env,E = {P:=Try.prog,M:=fun _=>False,mu:=fun _=>False,w0:=w,OB:=OB,x:={mw:=fun _=>True}}:=⟨_,rfl⟩
  have hP:E.P=Try.prog:=by rw[hE]
  have hlow:∀b,E.low b:=fun b=>by rw[hE];exact .inr trivial
  have main:∀(k:Option Nat) (η:Eta),((v=.slice none 0 0∧xs=[])∨∃kk b c cur,k=some kk∧η kk=some (b,c)∧E.low b∧w.heap[b]?=some (.cells cur 3 (0,0))∧v=.slice (some ⟨b,0,none⟩) xs.length c∧zcI (vw E η w) I64 xs c cur)→
      (∀kk b c,k=some kk→η kk=some (b,c)→B≤b)→∃v' w',(execOp a.eval o).run Try.prog w=.ok (.value v') w'∧LD B w' v' (xs++[n])∧Bel B w w':=by
    intro k η hb hBk
    obtain ⟨v',w',hr,hA⟩:=zfE (E:=E) (η:=η) (w:=w) (t:=38) (ty:=o.type) (el:=3) (ei:=i3) (by rw[hP];exact Try.underlying38) (by rw[hP];exact row3) (e:=I64) rfl (by decide) (by decide) (xs:=xs) (ys:=[n]) (by show xs.length+1≤2147483648;omega) (k:=k) (v1:=v) (ad2:=some ⟨b1,0,none⟩) (c2:=1) (fun _=>⟨_,rfl⟩)
      (fun ad' h=>by
        cases h
        refine⟨[.int .i64 n],rfl,fun j u hj=>?_,fun u hu=>?_,fun i z hz=>?_⟩
        · have:j=0:=by have:=(List.getElem?_eq_some_iff.1 hj).1;simpa using this
          subst this
          rw[zaK,zbE hb1];simpa using hj
        · have:u=.int .i64 n:=by simpa using hu
          rw[this];rfl
        · have:i=0:=by have:=(List.getElem?_eq_some_iff.1 hz).1;simpa using this
          subst this
          have:n=z:=by simpa using hz
          subst this
          rfl) hb
    have hexec:(execOp a.eval o).run Try.prog w=.ok (.value v') w':=by
      rw[hP] at hr
      simp only[List.length_cons,List.length_nil] at hr
      simp[execOp,ho,resolve,invoke,builtin,hx,hy,hr]
    refine⟨v',w',hexec,?_⟩
    rcases hA with ⟨h,_⟩|⟨c,cur,wd,rfl,rfl,q1,q2,q3,q4,q5⟩|⟨kk,b,c,cur,cur',q1,q2,q3,q4,rfl,rfl,q5⟩
    · simp at h
    · refine ⟨.inr ⟨w.heap.size,c,cur,hB,?_,rfl,znn q5⟩,⟨q2,q3,q4,?_,fun b hb hs=>?_⟩⟩
      · show (wd.heap.push (.cells cur 3))[w.heap.size]?=_
        rw[q1];simp
      · show w.heap.size≤(wd.heap.push _).size
        rw[Array.size_push,q1];exact Nat.le_succ _
      · show (wd.heap.push _)[b]?=w.heap[b]?
        rw[q1,Array.getElem?_push,if_neg (Nat.ne_of_lt hs)]
    · exact⟨.inr ⟨b,c,cur',hBk kk b c q1 q2,setRow_heap w b cur cur' 3 (0,0) q4,rfl,znn q5⟩,zec (hBk kk b c q1 q2)⟩
  rcases hv with ⟨h1,h2⟩|⟨ls,c,cur,h1,h2,h3,h4⟩
  · exact main none (fun _=>none) (.inl ⟨h2,h1⟩) (fun kk b c h=>by cases h)
  · exact main (some 0) (fun _=>some (ls,c)) (.inr ⟨0,ls,c,cur,rfl,rfl,hlow ls,h2,h3,zmz h4⟩) (fun kk b c _ h=>by cases h;exact h1)
end Go.Eng.Ar
namespace Go.Eng.Ar
open Go.Eng Go.Proofs Go
set_option linter.all false
set_option maxRecDepth 100000
set_option maxHeartbeats 2000000
def zbU:Nat→Nat→Nat→List (List Int)
  | 0,_,_=>[[]]
  | _+1,_,0=>[]
  | k+1,f,r+1=>(zbU k (f+1) r).map ((f:Int) :: ·)++zbU (k+1) (f+1) r
theorem adN (a:Act) (w:World) (o:Oper) (x y:Operand) (ho:o.op=.binOp .add 3 x y 3) {m:Nat} (hx:a.eval x=.int .i64 m) (hy:a.eval y=.int .i64 1) (hr:m≤1000000):(execOp a.eval o).run Try.prog w=.ok (.value (.int .i64 ((m+1:Nat):Int))) w:=by
  have:=adR a w o x y ho hx hy (by omega)
  rw[this];rfl
theorem zoH {P:Program} {Q:Exit→Act→World→Prop} {a:Act} {w w':World} {K:Act→World→Prop} {o:Oper} {v:Value} (hnd:∀d,o.op≠.defer d) (hr:(execOp a.eval o).run P w=.ok (.value v) w') (h:K (a.put o.dst v) w'):o.wpIn (Fw none) 0 P a w K Q:=
  zas hnd hr h
theorem zhr {P:Program} {Q:Exit→Act→World→Prop} {a:Act} {w:World} {K:Act→World→Prop} {o:Oper} {f:Nat} {args:Array Value} (hnd:∀d,o.op≠.defer d) (hr:(execOp a.eval o).run P w=.ok (.enter f args) w)
    (h:CallsIn (Fw none) 0 P f args w fun e w'=>∃v,e=.returned v∧K (a.put o.dst v) w'):o.wpIn (Fw none) 0 P a w K Q:=
  zas hnd hr ⟨fun h=>(by cases h),h.mono fun e w' ⟨v,h1,h2⟩=>by subst h1;exact h2⟩
theorem ztt {Q:Exit→Act→World→Prop} {a:Act} {w:World} {K:Act→World→Prop} {o:Oper} {x y:Operand} (hnd:∀d,o.op≠.defer d) (ho:o.op=.call {callee:=.builtin .append,args:=#[x,y],argTypes:=#[38,38]}) {B:Nat} {v:Value} {xs:List Int} {n:Int} {b1:Nat} (hx:a.eval x=v) (hv:LD B w v xs) (hl:xs.length+1≤1000) (hy:a.eval y=.slice (some ⟨b1,0,none⟩) 1 1) (hb1:w.heap[b1]?=some (.cells #[.int .i64 n] 3 (0,0))) (hB:B≤w.heap.size)
    (h:∀v' w',LD B w' v' (xs++[n])→Bel B w w'→K (a.put o.dst v') w'):o.wpIn (Fw none) 0 Try.prog a w K Q:=by
  obtain⟨v',w',h1,h2,h3⟩:=apR a w o x y ho hx hv hl hy hb1 hB
  exact zas hnd h1 (h v' w' h2 h3)
structure RS (a:Act) (f:Int) (B bc bn:Nat):Prop where
  size:a.tmps.size=36
  defers:a.defers=[]
  s0:a.tmps.getD 0 undef=.int .i64 f
  s1:a.tmps.getD 1 undef=.pointer (some ⟨B+1,0,none⟩)
  s2:a.tmps.getD 2 undef=.pointer (some ⟨bc,0,none⟩)
  s3:a.tmps.getD 3 undef=.pointer (some ⟨B,0,none⟩)
  s4:a.tmps.getD 4 undef=.pointer (some ⟨bn,0,none⟩)
  s5:a.tmps.getD 5 undef=.pointer (some ⟨B+2,0,none⟩)
def capt (B bc bn:Nat):Array Value:=#[.pointer (some ⟨B+1,0,none⟩),.pointer (some ⟨bc,0,none⟩),.pointer (some ⟨B,0,none⟩),.pointer (some ⟨bn,0,none⟩),.pointer (some ⟨B+2,0,none⟩)]
structure HC (B bc bn:Nat) (yv:Value) (w:World) (v:Value) (xs:List Int):Prop where
  hy:w.heap[B]?=some (.cells #[yv] 133 (0,0))
  hl:w.heap[B+1]?=some (.cells #[v] 38 (0,0))
  hm:w.heap[B+2]?=some (.cells #[.func (.func 72) #[] (capt B bc bn)] 114 (0,0))
  ld:LD (B+3) w v xs
theorem HC.abv {B bc bn:Nat} {yv:Value} {w w':World} {v:Value} {xs:List Int} (h:HC B bc bn yv w v xs) (hk:∀b,B≤b→b<w.heap.size→w'.heap[b]?=w.heap[b]?):HC B bc bn yv w' v xs:=
  ⟨(hk _ (Nat.le_refl _) (zah h.hy)).trans h.hy,(hk _ (by omega) (zah h.hl)).trans h.hl,(hk _ (by omega) (zah h.hm)).trans h.hm,zki h.ld fun b hb hs=>hk b (by omega) hs⟩
noncomputable def b179:Code:=zeo Try.f72
noncomputable def N0:Code:=match b179 with | .seq x _=>x|c=>c
noncomputable def N1:Code:=match b179 with | .seq _ (.seq (.seq x _) _)=>x|c=>c
noncomputable def N2:Code:=match b179 with | .seq _ (.seq (.seq _ (.cond _ (.seq x _) _)) _)=>x|c=>c
noncomputable def N3:Code:=match b179 with | .seq _ (.seq _ (.seq (.seq x _) _))=>x|c=>c
noncomputable def NL:Code:=match b179 with | .seq _ (.seq _ (.seq (.seq _ (.block _ (.loop x))) _))=>x|c=>c
noncomputable def N10:Code:=match b179 with | .seq _ (.seq _ (.seq _ (.seq x _)))=>x|c=>c
noncomputable def N4:Code:=match NL with | .seq (.seq x _) _=>x|c=>c
noncomputable def N6:Code:=match NL with | .seq _ (.seq (.block _ (.seq x _)) _)=>x|c=>c
noncomputable def N7:Code:=match NL with | .seq _ (.seq (.block _ (.seq _ (.seq (.seq x _) _))) _)=>x|c=>c
noncomputable def N8:Code:=match NL with | .seq _ (.seq (.block _ (.seq _ (.seq (.seq _ (.cond _ (.seq x _) _)) _))) _)=>x|c=>c
noncomputable def N9:Code:=match NL with | .seq _ (.seq (.block _ (.seq _ (.seq _ x))) _)=>x|c=>c
noncomputable def N5:Code:=match NL with | .seq _ (.seq _ x)=>x|c=>c
theorem znZ:(Try.f72.body:Option Code)=some (.seq N0 (.seq (.seq N1 (.cond (.tmp 12) (.seq N2 .ret) .skip)) (.seq (.seq N3 (.block 0 (.loop (.seq (.seq N4 (.cond (.tmp 19) .skip (.exit 0))) (.seq (.block 1 (.seq N6 (.seq (.seq N7 (.cond (.tmp 30) (.seq N8 .ret) .skip)) N9))) N5))))) (.seq N10 .ret)))):=rfl
theorem zmx {n:Nat} (hn:n=36) {f:Int} {B bc bn:Nat} {a0:Act} (ha:a0 = {tmps:=(#[Value.int .i64 f]++capt B bc bn)++Array.replicate (n - (#[Value.int .i64 f]++capt B bc bn).size) undef,defers:=[]}):RS a0 f B bc bn:=by
  subst hn
  have e:(#[Value.int .i64 f]++capt B bc bn)++Array.replicate (36 - (#[Value.int .i64 f]++capt B bc bn).size) undef = #[.int .i64 f,.pointer (some ⟨B+1,0,none⟩),.pointer (some ⟨bc,0,none⟩),.pointer (some ⟨B,0,none⟩),.pointer (some ⟨bn,0,none⟩),.pointer (some ⟨B+2,0,none⟩)]++Array.replicate 30 undef:=rfl
  rw[e] at ha
  rw[ha]
  refine⟨by simp,rfl,?_,?_,?_,?_,?_,?_⟩<;>simp
structure Yld (l B bc bn count numbers:Nat) (J:List (List Int)→World→Prop) (Jx:World→Prop):Prop where
  below:∀rest w w',J rest w→Bel B w w'→J rest w'
  size:∀rest w,J rest w→B≤w.heap.size
  boxes:∀rest w,J rest w→w.heap[bc]?=some (.cells #[.int .i64 (count:Nat)] 3 (0,0))∧w.heap[bn]?=some (.cells #[.int .i64 (numbers:Nat)] 3 (0,0))
  yields:∀c rest w ls cap cur,J (c::rest) w→B≤ls→w.heap[ls]?=some (.cells cur 3 (0,0))→rowI c cap cur→
    YieldAt (Fw none) 0 Try.prog l #[.slice (some ⟨ls,0,none⟩) c.length cap] w fun e w'=>(∀b,B≤b→b<w.heap.size→w'.heap[b]?=w.heap[b]?)∧((e=.returned (.bool true)∧J rest w')∨(e=.returned (.bool false)∧Jx w'))
theorem ret1 {w:World} {a:Act} {R:Ending→World→Prop} {v:Value} (hd:a.defers=[]) (h7:a.tmps.getD 7 undef=v) (h:R (.returned v) w):bodyPost Try.prog Try.f72 R .ret a w:=by
  refine⟨hd,v,?_,h⟩
  have:=zdg (P:=Try.prog) (fn:=Try.f72) (tmps:=a.tmps) (w:=w) (vs:=[v]) (by
    show ([ResultVar.tmp 7].mapM (zfK a.tmps)).run Try.prog w=.ok [v] w
    simp[zfK,←h7])
  exact this
theorem zqy {l B bc bn count numbers:Nat} {J:List (List Int)→World→Prop} {Jx:World→Prop} (hY:Yld l B bc bn count numbers J Jx) (hcn:count≤100∧0<count) (hnn:numbers≤100) (hbc:bc<B∧bn<B):∀(k f r:Nat) (xs:List Int) (rest:List (List Int)) (W:World) (v:Value),xs.length+k=count→f+r=numbers→
    HC B bc bn (.func (.yield l) #[] #[]) W v xs→J ((zbU k f r).map (xs ++ ·)++rest) W→
    CallsIn (Fw none) 0 Try.prog 72 (#[.int .i64 (f:Nat)]++capt B bc bn) W fun e W'=>(e=.returned (.bool true)∧J rest W'∧∃v',HC B bc bn (.func (.yield l) #[] #[]) W' v' xs)∨(e=.returned (.bool false)∧Jx W'):=by
  intro k
  induction k with
  | zero =>
    intro f r xs rest W v hk hf H hJ
    obtain⟨yv,hyv⟩:∃yv,yv=Value.func (.yield l) #[] #[]:=⟨_,rfl⟩
    rw[←hyv] at H
    refine callsIn_of_wp (F:=Fw none) (n:=0) (fn:=Try.f72) Try.func72 znZ trivial ?_
    obtain⟨a0,ha0⟩:∃a0:Act,a0 = {tmps:=(#[.int .i64 (f:Nat)]++capt B bc bn)++Array.replicate (Try.f72.ntmps - (#[Value.int .i64 (f:Nat)]++capt B bc bn).size) undef,defers:=[]}:=⟨_,rfl⟩
    rw[←ha0]
    have R0:RS a0 ((f:Nat):Int) B bc bn:=zmx rfl ha0
    clear ha0
    have hJb:=hY.boxes _ _ hJ
    obtain⟨vad,vc,hv⟩:=znd H.ld
    refine wpIn_seq (wpIn_region_list ?_)
    refine zaj rfl (zaN (by intro d h;cases h) (asR a0 W _ (.const (.bool false)) rfl rfl) ?_)
    obtain⟨u1,qu1⟩:∃x,x=a0.put (some 7) (.bool false):=⟨_,rfl⟩
    have zu1:u1.tmps.size=36:=by rw[qu1,zai];exact R0.size
    have du1:u1.defers=[]:=by rw[qu1,zag];exact R0.defers
    have gu1_0:u1.tmps.getD 0 undef=(.int .i64 (f:Nat)):=by rw[qu1];exact (zaa (by decide)).trans R0.s0
    have gu1_1:u1.tmps.getD 1 undef=(.pointer (some ⟨(B+1),0,none⟩)):=by rw[qu1];exact (zaa (by decide)).trans R0.s1
    have gu1_2:u1.tmps.getD 2 undef=(.pointer (some ⟨bc,0,none⟩)):=by rw[qu1];exact (zaa (by decide)).trans R0.s2
    have gu1_3:u1.tmps.getD 3 undef=(.pointer (some ⟨B,0,none⟩)):=by rw[qu1];exact (zaa (by decide)).trans R0.s3
    have gu1_4:u1.tmps.getD 4 undef=(.pointer (some ⟨bn,0,none⟩)):=by rw[qu1];exact (zaa (by decide)).trans R0.s4
    have gu1_5:u1.tmps.getD 5 undef=(.pointer (some ⟨(B+2),0,none⟩)):=by rw[qu1];exact (zaa (by decide)).trans R0.s5
    have gu1_7:u1.tmps.getD 7 undef=(.bool false):=by rw[qu1];exact zae (by rw[R0.size];decide)
    change wpListIn (Fw none) 0 Try.prog _ _ _ (a0.put (some 7) (.bool false)) W
    rw[←qu1]
    have R1:RS u1 f B bc bn:=⟨zu1,du1,gu1_0,gu1_1,gu1_2,gu1_3,gu1_4,gu1_5⟩
    refine zaO (wpIn_seq (wpIn_seq (wpIn_region_list ?_)))
    refine zaj rfl (zaN (by intro d h;cases h) (ld76 u1 W _ (.tmp 1) rfl R1.s1 H.hl rfl) ?_)
    obtain⟨v1,qv1⟩:∃x,x=u1.put (some 9) v:=⟨_,rfl⟩
    have zv1:v1.tmps.size=36:=by rw[qv1,zai];exact R1.size
    have dv1:v1.defers=[]:=by rw[qv1,zag];exact R1.defers
    have gv1_0:v1.tmps.getD 0 undef=(.int .i64 (f:Nat)):=by rw[qv1];exact (zaa (by decide)).trans R1.s0
    have gv1_1:v1.tmps.getD 1 undef=(.pointer (some ⟨(B+1),0,none⟩)):=by rw[qv1];exact (zaa (by decide)).trans R1.s1
    have gv1_2:v1.tmps.getD 2 undef=(.pointer (some ⟨bc,0,none⟩)):=by rw[qv1];exact (zaa (by decide)).trans R1.s2
    have gv1_3:v1.tmps.getD 3 undef=(.pointer (some ⟨B,0,none⟩)):=by rw[qv1];exact (zaa (by decide)).trans R1.s3
    have gv1_4:v1.tmps.getD 4 undef=(.pointer (some ⟨bn,0,none⟩)):=by rw[qv1];exact (zaa (by decide)).trans R1.s4
    have gv1_5:v1.tmps.getD 5 undef=(.pointer (some ⟨(B+2),0,none⟩)):=by rw[qv1];exact (zaa (by decide)).trans R1.s5
    have gv1_9:v1.tmps.getD 9 undef=v:=by rw[qv1];exact zae (by rw[R1.size];decide)
    change wpListIn (Fw none) 0 Try.prog _ _ _ (u1.put (some 9) v) W
    rw[←qv1]
    refine zaj rfl (zaN (by intro d h;cases h) (lnR Try.underlying38 v1 W _ (.tmp 9) rfl (gv1_9.trans hv)) ?_)
    obtain⟨v2,qv2⟩:∃x,x=v1.put (some 10) (.int .i64 (xs.length:Nat)):=⟨_,rfl⟩
    have zv2:v2.tmps.size=36:=by rw[qv2,zai];exact zv1
    have dv2:v2.defers=[]:=by rw[qv2,zag];exact dv1
    have gv2_0:v2.tmps.getD 0 undef=(.int .i64 (f:Nat)):=by rw[qv2];exact (zaa (by decide)).trans gv1_0
    have gv2_1:v2.tmps.getD 1 undef=(.pointer (some ⟨(B+1),0,none⟩)):=by rw[qv2];exact (zaa (by decide)).trans gv1_1
    have gv2_2:v2.tmps.getD 2 undef=(.pointer (some ⟨bc,0,none⟩)):=by rw[qv2];exact (zaa (by decide)).trans gv1_2
    have gv2_3:v2.tmps.getD 3 undef=(.pointer (some ⟨B,0,none⟩)):=by rw[qv2];exact (zaa (by decide)).trans gv1_3
    have gv2_4:v2.tmps.getD 4 undef=(.pointer (some ⟨bn,0,none⟩)):=by rw[qv2];exact (zaa (by decide)).trans gv1_4
    have gv2_5:v2.tmps.getD 5 undef=(.pointer (some ⟨(B+2),0,none⟩)):=by rw[qv2];exact (zaa (by decide)).trans gv1_5
    have gv2_9:v2.tmps.getD 9 undef=v:=by rw[qv2];exact (zaa (by decide)).trans gv1_9
    have gv2_10:v2.tmps.getD 10 undef=(.int .i64 (xs.length:Nat)):=by rw[qv2];exact zae (by rw[zv1];decide)
    change wpListIn (Fw none) 0 Try.prog _ _ _ (v1.put (some 10) (.int .i64 (xs.length:Nat))) W
    rw[←qv2]
    refine zaj rfl (zaN (by intro d h;cases h) (ld3 v2 W _ (.tmp 2) rfl gv2_2 hJb.1 rfl) ?_)
    obtain⟨v3,qv3⟩:∃x,x=v2.put (some 11) (.int .i64 (count:Nat)):=⟨_,rfl⟩
    have zv3:v3.tmps.size=36:=by rw[qv3,zai];exact zv2
    have dv3:v3.defers=[]:=by rw[qv3,zag];exact dv2
    have gv3_0:v3.tmps.getD 0 undef=(.int .i64 (f:Nat)):=by rw[qv3];exact (zaa (by decide)).trans gv2_0
    have gv3_1:v3.tmps.getD 1 undef=(.pointer (some ⟨(B+1),0,none⟩)):=by rw[qv3];exact (zaa (by decide)).trans gv2_1
    have gv3_2:v3.tmps.getD 2 undef=(.pointer (some ⟨bc,0,none⟩)):=by rw[qv3];exact (zaa (by decide)).trans gv2_2
    have gv3_3:v3.tmps.getD 3 undef=(.pointer (some ⟨B,0,none⟩)):=by rw[qv3];exact (zaa (by decide)).trans gv2_3
    have gv3_4:v3.tmps.getD 4 undef=(.pointer (some ⟨bn,0,none⟩)):=by rw[qv3];exact (zaa (by decide)).trans gv2_4
    have gv3_5:v3.tmps.getD 5 undef=(.pointer (some ⟨(B+2),0,none⟩)):=by rw[qv3];exact (zaa (by decide)).trans gv2_5
    have gv3_9:v3.tmps.getD 9 undef=v:=by rw[qv3];exact (zaa (by decide)).trans gv2_9
    have gv3_10:v3.tmps.getD 10 undef=(.int .i64 (xs.length:Nat)):=by rw[qv3];exact (zaa (by decide)).trans gv2_10
    have gv3_11:v3.tmps.getD 11 undef=(.int .i64 (count:Nat)):=by rw[qv3];exact zae (by rw[zv2];decide)
    change wpListIn (Fw none) 0 Try.prog _ _ _ (v2.put (some 11) (.int .i64 (count:Nat))) W
    rw[←qv3]
    refine zaj rfl (zaN (by intro d h;cases h) (eqR v3 W _ (.tmp 10) (.tmp 11) rfl gv3_10 gv3_11) ?_)
    obtain⟨v4,qv4⟩:∃x,x=v3.put (some 12) (.bool (decide (((xs.length:Nat):Int)=((count:Nat):Int)))):=⟨_,rfl⟩
    have zv4:v4.tmps.size=36:=by rw[qv4,zai];exact zv3
    have dv4:v4.defers=[]:=by rw[qv4,zag];exact dv3
    have gv4_0:v4.tmps.getD 0 undef=(.int .i64 (f:Nat)):=by rw[qv4];exact (zaa (by decide)).trans gv3_0
    have gv4_1:v4.tmps.getD 1 undef=(.pointer (some ⟨(B+1),0,none⟩)):=by rw[qv4];exact (zaa (by decide)).trans gv3_1
    have gv4_2:v4.tmps.getD 2 undef=(.pointer (some ⟨bc,0,none⟩)):=by rw[qv4];exact (zaa (by decide)).trans gv3_2
    have gv4_3:v4.tmps.getD 3 undef=(.pointer (some ⟨B,0,none⟩)):=by rw[qv4];exact (zaa (by decide)).trans gv3_3
    have gv4_4:v4.tmps.getD 4 undef=(.pointer (some ⟨bn,0,none⟩)):=by rw[qv4];exact (zaa (by decide)).trans gv3_4
    have gv4_5:v4.tmps.getD 5 undef=(.pointer (some ⟨(B+2),0,none⟩)):=by rw[qv4];exact (zaa (by decide)).trans gv3_5
    have gv4_9:v4.tmps.getD 9 undef=v:=by rw[qv4];exact (zaa (by decide)).trans gv3_9
    have gv4_10:v4.tmps.getD 10 undef=(.int .i64 (xs.length:Nat)):=by rw[qv4];exact (zaa (by decide)).trans gv3_10
    have gv4_11:v4.tmps.getD 11 undef=(.int .i64 (count:Nat)):=by rw[qv4];exact (zaa (by decide)).trans gv3_11
    have gv4_12:v4.tmps.getD 12 undef=(.bool (decide (((xs.length:Nat):Int)=((count:Nat):Int)))):=by rw[qv4];exact zae (by rw[zv3];decide)
    change wpListIn (Fw none) 0 Try.prog _ _ _ (v3.put (some 12) (.bool (decide (((xs.length:Nat):Int)=((count:Nat):Int))))) W
    rw[←qv4]
    have R2:RS v4 f B bc bn:=⟨zv4,dv4,gv4_0,gv4_1,gv4_2,gv4_3,gv4_4,gv4_5⟩
    have h12:=gv4_12
    refine zaO ?_
    have h12:v4.eval (.tmp 12)=.bool true:=h12.trans (by rw[decide_eq_true (by omega)])
    refine wpIn_cond_true h12 (wpIn_seq ?_)
    change Code.wpIn (Fw none) 0 Try.prog N2 _ v4 W
    refine wpIn_region_list ?_
    refine zaj rfl (zaN (by intro d h;cases h) (ldF zp7 v4 W _ (.tmp 3) rfl R2.s3 H.hy rfl) ?_)
    obtain⟨y1,qy1⟩:∃x,x=v4.put (some 13) yv:=⟨_,rfl⟩
    have zy1:y1.tmps.size=36:=by rw[qy1,zai];exact R2.size
    have dy1:y1.defers=[]:=by rw[qy1,zag];exact R2.defers
    have gy1_0:y1.tmps.getD 0 undef=(.int .i64 (f:Nat)):=by rw[qy1];exact (zaa (by decide)).trans R2.s0
    have gy1_1:y1.tmps.getD 1 undef=(.pointer (some ⟨(B+1),0,none⟩)):=by rw[qy1];exact (zaa (by decide)).trans R2.s1
    have gy1_2:y1.tmps.getD 2 undef=(.pointer (some ⟨bc,0,none⟩)):=by rw[qy1];exact (zaa (by decide)).trans R2.s2
    have gy1_3:y1.tmps.getD 3 undef=(.pointer (some ⟨B,0,none⟩)):=by rw[qy1];exact (zaa (by decide)).trans R2.s3
    have gy1_4:y1.tmps.getD 4 undef=(.pointer (some ⟨bn,0,none⟩)):=by rw[qy1];exact (zaa (by decide)).trans R2.s4
    have gy1_5:y1.tmps.getD 5 undef=(.pointer (some ⟨(B+2),0,none⟩)):=by rw[qy1];exact (zaa (by decide)).trans R2.s5
    have gy1_13:y1.tmps.getD 13 undef=yv:=by rw[qy1];exact zae (by rw[R2.size];decide)
    change wpListIn (Fw none) 0 Try.prog _ _ _ (v4.put (some 13) yv) W
    rw[←qy1]
    refine zaj rfl (zaN (by intro d h;cases h) (ld76 y1 W _ (.tmp 1) rfl gy1_1 H.hl rfl) ?_)
    obtain⟨y2,qy2⟩:∃x,x=y1.put (some 14) v:=⟨_,rfl⟩
    have zy2:y2.tmps.size=36:=by rw[qy2,zai];exact zy1
    have dy2:y2.defers=[]:=by rw[qy2,zag];exact dy1
    have gy2_0:y2.tmps.getD 0 undef=(.int .i64 (f:Nat)):=by rw[qy2];exact (zaa (by decide)).trans gy1_0
    have gy2_1:y2.tmps.getD 1 undef=(.pointer (some ⟨(B+1),0,none⟩)):=by rw[qy2];exact (zaa (by decide)).trans gy1_1
    have gy2_2:y2.tmps.getD 2 undef=(.pointer (some ⟨bc,0,none⟩)):=by rw[qy2];exact (zaa (by decide)).trans gy1_2
    have gy2_3:y2.tmps.getD 3 undef=(.pointer (some ⟨B,0,none⟩)):=by rw[qy2];exact (zaa (by decide)).trans gy1_3
    have gy2_4:y2.tmps.getD 4 undef=(.pointer (some ⟨bn,0,none⟩)):=by rw[qy2];exact (zaa (by decide)).trans gy1_4
    have gy2_5:y2.tmps.getD 5 undef=(.pointer (some ⟨(B+2),0,none⟩)):=by rw[qy2];exact (zaa (by decide)).trans gy1_5
    have gy2_13:y2.tmps.getD 13 undef=yv:=by rw[qy2];exact (zaa (by decide)).trans gy1_13
    have gy2_14:y2.tmps.getD 14 undef=v:=by rw[qy2];exact zae (by rw[zy1];decide)
    change wpListIn (Fw none) 0 Try.prog _ _ _ (y1.put (some 14) v) W
    rw[←qy2]
    have hJ:J (xs::rest) W:=by simpa [zbU] using hJ
    rcases H.ld with ⟨h,_⟩|⟨ls,c,cur,l1,l2,l3,l4⟩
    · rw[h] at hk;simp at hk;omega
    obtain⟨fl,tl,al,bl,hrun,hround⟩:=hY.yields xs rest W ls c cur hJ (by omega) l2 l4
    refine zaj rfl (zoF (l:=l) (f:=fl) (tmps:=tl) (assign:=al) (body:=bl) (by intro d h;cases h) ?_ (RoundIn.mono hround ?_))
    · simp[execOp,resolve,Deferred.ofValue,ev,gy2_13,gy2_14,hyv,l3,invoke,callFunc]
      exact hrun
    rintro e W' ⟨hab,⟨rfl,hJ'⟩|⟨rfl,hJx⟩⟩
    · refine⟨.bool true,rfl,?_⟩
      obtain⟨yt1,qyt1⟩:∃x,x=y2.put (some 15) (.bool true):=⟨_,rfl⟩
      have zyt1:yt1.tmps.size=36:=by rw[qyt1,zai];exact zy2
      have dyt1:yt1.defers=[]:=by rw[qyt1,zag];exact dy2
      have gyt1_0:yt1.tmps.getD 0 undef=(.int .i64 (f:Nat)):=by rw[qyt1];exact (zaa (by decide)).trans gy2_0
      have gyt1_1:yt1.tmps.getD 1 undef=(.pointer (some ⟨(B+1),0,none⟩)):=by rw[qyt1];exact (zaa (by decide)).trans gy2_1
      have gyt1_2:yt1.tmps.getD 2 undef=(.pointer (some ⟨bc,0,none⟩)):=by rw[qyt1];exact (zaa (by decide)).trans gy2_2
      have gyt1_3:yt1.tmps.getD 3 undef=(.pointer (some ⟨B,0,none⟩)):=by rw[qyt1];exact (zaa (by decide)).trans gy2_3
      have gyt1_4:yt1.tmps.getD 4 undef=(.pointer (some ⟨bn,0,none⟩)):=by rw[qyt1];exact (zaa (by decide)).trans gy2_4
      have gyt1_5:yt1.tmps.getD 5 undef=(.pointer (some ⟨(B+2),0,none⟩)):=by rw[qyt1];exact (zaa (by decide)).trans gy2_5
      have gyt1_13:yt1.tmps.getD 13 undef=yv:=by rw[qyt1];exact (zaa (by decide)).trans gy2_13
      have gyt1_14:yt1.tmps.getD 14 undef=v:=by rw[qyt1];exact (zaa (by decide)).trans gy2_14
      have gyt1_15:yt1.tmps.getD 15 undef=(.bool true):=by rw[qyt1];exact zae (by rw[zy2];decide)
      change wpListIn (Fw none) 0 Try.prog _ _ _ (y2.put (some 15) (.bool true)) W'
      rw[←qyt1]
      refine zaj rfl (zaN (by intro d h;cases h) (asR yt1 W' _ (.tmp 15) rfl gyt1_15) ?_)
      obtain⟨yt2,qyt2⟩:∃x,x=yt1.put (some 7) (.bool true):=⟨_,rfl⟩
      have zyt2:yt2.tmps.size=36:=by rw[qyt2,zai];exact zyt1
      have dyt2:yt2.defers=[]:=by rw[qyt2,zag];exact dyt1
      have gyt2_0:yt2.tmps.getD 0 undef=(.int .i64 (f:Nat)):=by rw[qyt2];exact (zaa (by decide)).trans gyt1_0
      have gyt2_1:yt2.tmps.getD 1 undef=(.pointer (some ⟨(B+1),0,none⟩)):=by rw[qyt2];exact (zaa (by decide)).trans gyt1_1
      have gyt2_2:yt2.tmps.getD 2 undef=(.pointer (some ⟨bc,0,none⟩)):=by rw[qyt2];exact (zaa (by decide)).trans gyt1_2
      have gyt2_3:yt2.tmps.getD 3 undef=(.pointer (some ⟨B,0,none⟩)):=by rw[qyt2];exact (zaa (by decide)).trans gyt1_3
      have gyt2_4:yt2.tmps.getD 4 undef=(.pointer (some ⟨bn,0,none⟩)):=by rw[qyt2];exact (zaa (by decide)).trans gyt1_4
      have gyt2_5:yt2.tmps.getD 5 undef=(.pointer (some ⟨(B+2),0,none⟩)):=by rw[qyt2];exact (zaa (by decide)).trans gyt1_5
      have gyt2_13:yt2.tmps.getD 13 undef=yv:=by rw[qyt2];exact (zaa (by decide)).trans gyt1_13
      have gyt2_14:yt2.tmps.getD 14 undef=v:=by rw[qyt2];exact (zaa (by decide)).trans gyt1_14
      have gyt2_15:yt2.tmps.getD 15 undef=(.bool true):=by rw[qyt2];exact (zaa (by decide)).trans gyt1_15
      have gyt2_7:yt2.tmps.getD 7 undef=(.bool true):=by rw[qyt2];exact zae (by rw[zyt1];decide)
      change wpListIn (Fw none) 0 Try.prog _ _ _ (yt1.put (some 7) (.bool true)) W'
      rw[←qyt2]
      refine zaO (wpIn_ret ?_)
      refine (show bodyPost Try.prog Try.f72 (fun e W'=>(e=.returned (.bool true)∧J rest W'∧∃v',HC B bc bn (.func (.yield l) #[] #[]) W' v' xs)∨(e=.returned (.bool false)∧Jx W')) .ret yt2 W' from ?_)
      refine ret1 dyt2 gyt2_7 (.inl ⟨rfl,hJ',v,?_⟩)
      rw[←hyv];exact H.abv hab
    · refine⟨.bool false,rfl,?_⟩
      obtain⟨yf1,qyf1⟩:∃x,x=y2.put (some 15) (.bool false):=⟨_,rfl⟩
      have zyf1:yf1.tmps.size=36:=by rw[qyf1,zai];exact zy2
      have dyf1:yf1.defers=[]:=by rw[qyf1,zag];exact dy2
      have gyf1_0:yf1.tmps.getD 0 undef=(.int .i64 (f:Nat)):=by rw[qyf1];exact (zaa (by decide)).trans gy2_0
      have gyf1_1:yf1.tmps.getD 1 undef=(.pointer (some ⟨(B+1),0,none⟩)):=by rw[qyf1];exact (zaa (by decide)).trans gy2_1
      have gyf1_2:yf1.tmps.getD 2 undef=(.pointer (some ⟨bc,0,none⟩)):=by rw[qyf1];exact (zaa (by decide)).trans gy2_2
      have gyf1_3:yf1.tmps.getD 3 undef=(.pointer (some ⟨B,0,none⟩)):=by rw[qyf1];exact (zaa (by decide)).trans gy2_3
      have gyf1_4:yf1.tmps.getD 4 undef=(.pointer (some ⟨bn,0,none⟩)):=by rw[qyf1];exact (zaa (by decide)).trans gy2_4
      have gyf1_5:yf1.tmps.getD 5 undef=(.pointer (some ⟨(B+2),0,none⟩)):=by rw[qyf1];exact (zaa (by decide)).trans gy2_5
      have gyf1_13:yf1.tmps.getD 13 undef=yv:=by rw[qyf1];exact (zaa (by decide)).trans gy2_13
      have gyf1_14:yf1.tmps.getD 14 undef=v:=by rw[qyf1];exact (zaa (by decide)).trans gy2_14
      have gyf1_15:yf1.tmps.getD 15 undef=(.bool false):=by rw[qyf1];exact zae (by rw[zy2];decide)
      change wpListIn (Fw none) 0 Try.prog _ _ _ (y2.put (some 15) (.bool false)) W'
      rw[←qyf1]
      refine zaj rfl (zaN (by intro d h;cases h) (asR yf1 W' _ (.tmp 15) rfl gyf1_15) ?_)
      obtain⟨yf2,qyf2⟩:∃x,x=yf1.put (some 7) (.bool false):=⟨_,rfl⟩
      have zyf2:yf2.tmps.size=36:=by rw[qyf2,zai];exact zyf1
      have dyf2:yf2.defers=[]:=by rw[qyf2,zag];exact dyf1
      have gyf2_0:yf2.tmps.getD 0 undef=(.int .i64 (f:Nat)):=by rw[qyf2];exact (zaa (by decide)).trans gyf1_0
      have gyf2_1:yf2.tmps.getD 1 undef=(.pointer (some ⟨(B+1),0,none⟩)):=by rw[qyf2];exact (zaa (by decide)).trans gyf1_1
      have gyf2_2:yf2.tmps.getD 2 undef=(.pointer (some ⟨bc,0,none⟩)):=by rw[qyf2];exact (zaa (by decide)).trans gyf1_2
      have gyf2_3:yf2.tmps.getD 3 undef=(.pointer (some ⟨B,0,none⟩)):=by rw[qyf2];exact (zaa (by decide)).trans gyf1_3
      have gyf2_4:yf2.tmps.getD 4 undef=(.pointer (some ⟨bn,0,none⟩)):=by rw[qyf2];exact (zaa (by decide)).trans gyf1_4
      have gyf2_5:yf2.tmps.getD 5 undef=(.pointer (some ⟨(B+2),0,none⟩)):=by rw[qyf2];exact (zaa (by decide)).trans gyf1_5
      have gyf2_13:yf2.tmps.getD 13 undef=yv:=by rw[qyf2];exact (zaa (by decide)).trans gyf1_13
      have gyf2_14:yf2.tmps.getD 14 undef=v:=by rw[qyf2];exact (zaa (by decide)).trans gyf1_14
      have gyf2_15:yf2.tmps.getD 15 undef=(.bool false):=by rw[qyf2];exact (zaa (by decide)).trans gyf1_15
      have gyf2_7:yf2.tmps.getD 7 undef=(.bool false):=by rw[qyf2];exact zae (by rw[zyf1];decide)
      change wpListIn (Fw none) 0 Try.prog _ _ _ (yf1.put (some 7) (.bool false)) W'
      rw[←qyf2]
      refine zaO (wpIn_ret ?_)
      refine (show bodyPost Try.prog Try.f72 (fun e W'=>(e=.returned (.bool true)∧J rest W'∧∃v',HC B bc bn (.func (.yield l) #[] #[]) W' v' xs)∨(e=.returned (.bool false)∧Jx W')) .ret yf2 W' from ?_)
      exact ret1 dyf2 gyf2_7 (.inr ⟨rfl,hJx⟩)
  | succ k ih=>
    intro f r xs rest W v hk hf H hJ
    obtain⟨yv,hyv⟩:∃yv,yv=Value.func (.yield l) #[] #[]:=⟨_,rfl⟩
    rw[←hyv] at H
    refine callsIn_of_wp (F:=Fw none) (n:=0) (fn:=Try.f72) Try.func72 znZ trivial ?_
    obtain⟨a0,ha0⟩:∃a0:Act,a0 = {tmps:=(#[.int .i64 (f:Nat)]++capt B bc bn)++Array.replicate (Try.f72.ntmps - (#[Value.int .i64 (f:Nat)]++capt B bc bn).size) undef,defers:=[]}:=⟨_,rfl⟩
    rw[←ha0]
    have R0:RS a0 ((f:Nat):Int) B bc bn:=zmx rfl ha0
    clear ha0
    have hJb:=hY.boxes _ _ hJ
    obtain⟨vad,vc,hv⟩:=znd H.ld
    refine wpIn_seq (wpIn_region_list ?_)
    refine zaj rfl (zaN (by intro d h;cases h) (asR a0 W _ (.const (.bool false)) rfl rfl) ?_)
    obtain⟨u1,qu1⟩:∃x,x=a0.put (some 7) (.bool false):=⟨_,rfl⟩
    have zu1:u1.tmps.size=36:=by rw[qu1,zai];exact R0.size
    have du1:u1.defers=[]:=by rw[qu1,zag];exact R0.defers
    have gu1_0:u1.tmps.getD 0 undef=(.int .i64 (f:Nat)):=by rw[qu1];exact (zaa (by decide)).trans R0.s0
    have gu1_1:u1.tmps.getD 1 undef=(.pointer (some ⟨(B+1),0,none⟩)):=by rw[qu1];exact (zaa (by decide)).trans R0.s1
    have gu1_2:u1.tmps.getD 2 undef=(.pointer (some ⟨bc,0,none⟩)):=by rw[qu1];exact (zaa (by decide)).trans R0.s2
    have gu1_3:u1.tmps.getD 3 undef=(.pointer (some ⟨B,0,none⟩)):=by rw[qu1];exact (zaa (by decide)).trans R0.s3
    have gu1_4:u1.tmps.getD 4 undef=(.pointer (some ⟨bn,0,none⟩)):=by rw[qu1];exact (zaa (by decide)).trans R0.s4
    have gu1_5:u1.tmps.getD 5 undef=(.pointer (some ⟨(B+2),0,none⟩)):=by rw[qu1];exact (zaa (by decide)).trans R0.s5
    have gu1_7:u1.tmps.getD 7 undef=(.bool false):=by rw[qu1];exact zae (by rw[R0.size];decide)
    change wpListIn (Fw none) 0 Try.prog _ _ _ (a0.put (some 7) (.bool false)) W
    rw[←qu1]
    have R1:RS u1 f B bc bn:=⟨zu1,du1,gu1_0,gu1_1,gu1_2,gu1_3,gu1_4,gu1_5⟩
    refine zaO (wpIn_seq (wpIn_seq (wpIn_region_list ?_)))
    refine zaj rfl (zaN (by intro d h;cases h) (ld76 u1 W _ (.tmp 1) rfl R1.s1 H.hl rfl) ?_)
    obtain⟨v1,qv1⟩:∃x,x=u1.put (some 9) v:=⟨_,rfl⟩
    have zv1:v1.tmps.size=36:=by rw[qv1,zai];exact R1.size
    have dv1:v1.defers=[]:=by rw[qv1,zag];exact R1.defers
    have gv1_0:v1.tmps.getD 0 undef=(.int .i64 (f:Nat)):=by rw[qv1];exact (zaa (by decide)).trans R1.s0
    have gv1_1:v1.tmps.getD 1 undef=(.pointer (some ⟨(B+1),0,none⟩)):=by rw[qv1];exact (zaa (by decide)).trans R1.s1
    have gv1_2:v1.tmps.getD 2 undef=(.pointer (some ⟨bc,0,none⟩)):=by rw[qv1];exact (zaa (by decide)).trans R1.s2
    have gv1_3:v1.tmps.getD 3 undef=(.pointer (some ⟨B,0,none⟩)):=by rw[qv1];exact (zaa (by decide)).trans R1.s3
    have gv1_4:v1.tmps.getD 4 undef=(.pointer (some ⟨bn,0,none⟩)):=by rw[qv1];exact (zaa (by decide)).trans R1.s4
    have gv1_5:v1.tmps.getD 5 undef=(.pointer (some ⟨(B+2),0,none⟩)):=by rw[qv1];exact (zaa (by decide)).trans R1.s5
    have gv1_9:v1.tmps.getD 9 undef=v:=by rw[qv1];exact zae (by rw[R1.size];decide)
    change wpListIn (Fw none) 0 Try.prog _ _ _ (u1.put (some 9) v) W
    rw[←qv1]
    refine zaj rfl (zaN (by intro d h;cases h) (lnR Try.underlying38 v1 W _ (.tmp 9) rfl (gv1_9.trans hv)) ?_)
    obtain⟨v2,qv2⟩:∃x,x=v1.put (some 10) (.int .i64 (xs.length:Nat)):=⟨_,rfl⟩
    have zv2:v2.tmps.size=36:=by rw[qv2,zai];exact zv1
    have dv2:v2.defers=[]:=by rw[qv2,zag];exact dv1
    have gv2_0:v2.tmps.getD 0 undef=(.int .i64 (f:Nat)):=by rw[qv2];exact (zaa (by decide)).trans gv1_0
    have gv2_1:v2.tmps.getD 1 undef=(.pointer (some ⟨(B+1),0,none⟩)):=by rw[qv2];exact (zaa (by decide)).trans gv1_1
    have gv2_2:v2.tmps.getD 2 undef=(.pointer (some ⟨bc,0,none⟩)):=by rw[qv2];exact (zaa (by decide)).trans gv1_2
    have gv2_3:v2.tmps.getD 3 undef=(.pointer (some ⟨B,0,none⟩)):=by rw[qv2];exact (zaa (by decide)).trans gv1_3
    have gv2_4:v2.tmps.getD 4 undef=(.pointer (some ⟨bn,0,none⟩)):=by rw[qv2];exact (zaa (by decide)).trans gv1_4
    have gv2_5:v2.tmps.getD 5 undef=(.pointer (some ⟨(B+2),0,none⟩)):=by rw[qv2];exact (zaa (by decide)).trans gv1_5
    have gv2_9:v2.tmps.getD 9 undef=v:=by rw[qv2];exact (zaa (by decide)).trans gv1_9
    have gv2_10:v2.tmps.getD 10 undef=(.int .i64 (xs.length:Nat)):=by rw[qv2];exact zae (by rw[zv1];decide)
    change wpListIn (Fw none) 0 Try.prog _ _ _ (v1.put (some 10) (.int .i64 (xs.length:Nat))) W
    rw[←qv2]
    refine zaj rfl (zaN (by intro d h;cases h) (ld3 v2 W _ (.tmp 2) rfl gv2_2 hJb.1 rfl) ?_)
    obtain⟨v3,qv3⟩:∃x,x=v2.put (some 11) (.int .i64 (count:Nat)):=⟨_,rfl⟩
    have zv3:v3.tmps.size=36:=by rw[qv3,zai];exact zv2
    have dv3:v3.defers=[]:=by rw[qv3,zag];exact dv2
    have gv3_0:v3.tmps.getD 0 undef=(.int .i64 (f:Nat)):=by rw[qv3];exact (zaa (by decide)).trans gv2_0
    have gv3_1:v3.tmps.getD 1 undef=(.pointer (some ⟨(B+1),0,none⟩)):=by rw[qv3];exact (zaa (by decide)).trans gv2_1
    have gv3_2:v3.tmps.getD 2 undef=(.pointer (some ⟨bc,0,none⟩)):=by rw[qv3];exact (zaa (by decide)).trans gv2_2
    have gv3_3:v3.tmps.getD 3 undef=(.pointer (some ⟨B,0,none⟩)):=by rw[qv3];exact (zaa (by decide)).trans gv2_3
    have gv3_4:v3.tmps.getD 4 undef=(.pointer (some ⟨bn,0,none⟩)):=by rw[qv3];exact (zaa (by decide)).trans gv2_4
    have gv3_5:v3.tmps.getD 5 undef=(.pointer (some ⟨(B+2),0,none⟩)):=by rw[qv3];exact (zaa (by decide)).trans gv2_5
    have gv3_9:v3.tmps.getD 9 undef=v:=by rw[qv3];exact (zaa (by decide)).trans gv2_9
    have gv3_10:v3.tmps.getD 10 undef=(.int .i64 (xs.length:Nat)):=by rw[qv3];exact (zaa (by decide)).trans gv2_10
    have gv3_11:v3.tmps.getD 11 undef=(.int .i64 (count:Nat)):=by rw[qv3];exact zae (by rw[zv2];decide)
    change wpListIn (Fw none) 0 Try.prog _ _ _ (v2.put (some 11) (.int .i64 (count:Nat))) W
    rw[←qv3]
    refine zaj rfl (zaN (by intro d h;cases h) (eqR v3 W _ (.tmp 10) (.tmp 11) rfl gv3_10 gv3_11) ?_)
    obtain⟨v4,qv4⟩:∃x,x=v3.put (some 12) (.bool (decide (((xs.length:Nat):Int)=((count:Nat):Int)))):=⟨_,rfl⟩
    have zv4:v4.tmps.size=36:=by rw[qv4,zai];exact zv3
    have dv4:v4.defers=[]:=by rw[qv4,zag];exact dv3
    have gv4_0:v4.tmps.getD 0 undef=(.int .i64 (f:Nat)):=by rw[qv4];exact (zaa (by decide)).trans gv3_0
    have gv4_1:v4.tmps.getD 1 undef=(.pointer (some ⟨(B+1),0,none⟩)):=by rw[qv4];exact (zaa (by decide)).trans gv3_1
    have gv4_2:v4.tmps.getD 2 undef=(.pointer (some ⟨bc,0,none⟩)):=by rw[qv4];exact (zaa (by decide)).trans gv3_2
    have gv4_3:v4.tmps.getD 3 undef=(.pointer (some ⟨B,0,none⟩)):=by rw[qv4];exact (zaa (by decide)).trans gv3_3
    have gv4_4:v4.tmps.getD 4 undef=(.pointer (some ⟨bn,0,none⟩)):=by rw[qv4];exact (zaa (by decide)).trans gv3_4
    have gv4_5:v4.tmps.getD 5 undef=(.pointer (some ⟨(B+2),0,none⟩)):=by rw[qv4];exact (zaa (by decide)).trans gv3_5
    have gv4_9:v4.tmps.getD 9 undef=v:=by rw[qv4];exact (zaa (by decide)).trans gv3_9
    have gv4_10:v4.tmps.getD 10 undef=(.int .i64 (xs.length:Nat)):=by rw[qv4];exact (zaa (by decide)).trans gv3_10
    have gv4_11:v4.tmps.getD 11 undef=(.int .i64 (count:Nat)):=by rw[qv4];exact (zaa (by decide)).trans gv3_11
    have gv4_12:v4.tmps.getD 12 undef=(.bool (decide (((xs.length:Nat):Int)=((count:Nat):Int)))):=by rw[qv4];exact zae (by rw[zv3];decide)
    change wpListIn (Fw none) 0 Try.prog _ _ _ (v3.put (some 12) (.bool (decide (((xs.length:Nat):Int)=((count:Nat):Int))))) W
    rw[←qv4]
    have R2:RS v4 f B bc bn:=⟨zv4,dv4,gv4_0,gv4_1,gv4_2,gv4_3,gv4_4,gv4_5⟩
    have h12:=gv4_12
    refine zaO ?_
    have h12:v4.eval (.tmp 12)=.bool false:=h12.trans (by rw[decide_eq_false (by omega)])
    refine wpIn_cond_false h12 (wpIn_skip ?_)
    change Code.wpIn (Fw none) 0 Try.prog _ _ v4 W
    refine wpIn_seq (wpIn_seq (wpIn_region_list ?_))
    refine zaj rfl (zaN (by intro d h;cases h) (mvR v4 W _ (.tmp 0) rfl R2.s0) ?_)
    obtain⟨t1,qt1⟩:∃x,x=v4.put (some 16) (.int .i64 (f:Nat)):=⟨_,rfl⟩
    have zt1:t1.tmps.size=36:=by rw[qt1,zai];exact R2.size
    have dt1:t1.defers=[]:=by rw[qt1,zag];exact R2.defers
    have gt1_0:t1.tmps.getD 0 undef=(.int .i64 (f:Nat)):=by rw[qt1];exact (zaa (by decide)).trans R2.s0
    have gt1_1:t1.tmps.getD 1 undef=(.pointer (some ⟨(B+1),0,none⟩)):=by rw[qt1];exact (zaa (by decide)).trans R2.s1
    have gt1_2:t1.tmps.getD 2 undef=(.pointer (some ⟨bc,0,none⟩)):=by rw[qt1];exact (zaa (by decide)).trans R2.s2
    have gt1_3:t1.tmps.getD 3 undef=(.pointer (some ⟨B,0,none⟩)):=by rw[qt1];exact (zaa (by decide)).trans R2.s3
    have gt1_4:t1.tmps.getD 4 undef=(.pointer (some ⟨bn,0,none⟩)):=by rw[qt1];exact (zaa (by decide)).trans R2.s4
    have gt1_5:t1.tmps.getD 5 undef=(.pointer (some ⟨(B+2),0,none⟩)):=by rw[qt1];exact (zaa (by decide)).trans R2.s5
    have gt1_16:t1.tmps.getD 16 undef=(.int .i64 (f:Nat)):=by rw[qt1];exact zae (by rw[R2.size];decide)
    change wpListIn (Fw none) 0 Try.prog _ _ _ (v4.put (some 16) (.int .i64 (f:Nat))) W
    rw[←qt1]
    refine zaj rfl (zaN (by intro d h;cases h) (asR t1 W _ (.tmp 16) rfl gt1_16) ?_)
    obtain⟨t2,qt2⟩:∃x,x=t1.put (some 8) (.int .i64 (f:Nat)):=⟨_,rfl⟩
    have zt2:t2.tmps.size=36:=by rw[qt2,zai];exact zt1
    have dt2:t2.defers=[]:=by rw[qt2,zag];exact dt1
    have gt2_0:t2.tmps.getD 0 undef=(.int .i64 (f:Nat)):=by rw[qt2];exact (zaa (by decide)).trans gt1_0
    have gt2_1:t2.tmps.getD 1 undef=(.pointer (some ⟨(B+1),0,none⟩)):=by rw[qt2];exact (zaa (by decide)).trans gt1_1
    have gt2_2:t2.tmps.getD 2 undef=(.pointer (some ⟨bc,0,none⟩)):=by rw[qt2];exact (zaa (by decide)).trans gt1_2
    have gt2_3:t2.tmps.getD 3 undef=(.pointer (some ⟨B,0,none⟩)):=by rw[qt2];exact (zaa (by decide)).trans gt1_3
    have gt2_4:t2.tmps.getD 4 undef=(.pointer (some ⟨bn,0,none⟩)):=by rw[qt2];exact (zaa (by decide)).trans gt1_4
    have gt2_5:t2.tmps.getD 5 undef=(.pointer (some ⟨(B+2),0,none⟩)):=by rw[qt2];exact (zaa (by decide)).trans gt1_5
    have gt2_16:t2.tmps.getD 16 undef=(.int .i64 (f:Nat)):=by rw[qt2];exact (zaa (by decide)).trans gt1_16
    have gt2_8:t2.tmps.getD 8 undef=(.int .i64 (f:Nat)):=by rw[qt2];exact zae (by rw[zt1];decide)
    change wpListIn (Fw none) 0 Try.prog _ _ _ (t1.put (some 8) (.int .i64 (f:Nat))) W
    rw[←qt2]
    have R3:RS t2 f B bc bn:=⟨zt2,dt2,gt2_0,gt2_1,gt2_2,gt2_3,gt2_4,gt2_5⟩
    refine zaO ?_
    refine wpIn_block (zdc (fun n a w=>∃(p s:Nat) (v:Value),p+s=numbers∧n=s∧RS a ((f:Nat):Int) B bc bn∧a.tmps.getD 8 undef=.int .i64 (p:Nat)∧HC B bc bn yv w v xs∧J ((zbU (k+1) p s).map (xs ++ ·)++rest) w) (n:=r) (a:=t2) (w:=W) ⟨f,r,v,hf,rfl,R3,gt2_8,H,hJ⟩ ?_)
    clear hJb hv hJ H R0 R1 R2 R3
    rintro s a w ⟨p,_,v,hps,rfl,R,h8,H,hJ⟩
    have hJb:=hY.boxes _ _ hJ
    refine wpIn_seq (wpIn_seq (wpIn_region_list ?_))
    refine zaj rfl (zaN (by intro d h;cases h) (mvR a w _ (.tmp 8) rfl h8) ?_)
    obtain⟨l1,ql1⟩:∃x,x=a.put (some 17) (.int .i64 (p:Nat)):=⟨_,rfl⟩
    have zl1:l1.tmps.size=36:=by rw[ql1,zai];exact R.size
    have dl1:l1.defers=[]:=by rw[ql1,zag];exact R.defers
    have gl1_0:l1.tmps.getD 0 undef=(.int .i64 (f:Nat)):=by rw[ql1];exact (zaa (by decide)).trans R.s0
    have gl1_1:l1.tmps.getD 1 undef=(.pointer (some ⟨(B+1),0,none⟩)):=by rw[ql1];exact (zaa (by decide)).trans R.s1
    have gl1_2:l1.tmps.getD 2 undef=(.pointer (some ⟨bc,0,none⟩)):=by rw[ql1];exact (zaa (by decide)).trans R.s2
    have gl1_3:l1.tmps.getD 3 undef=(.pointer (some ⟨B,0,none⟩)):=by rw[ql1];exact (zaa (by decide)).trans R.s3
    have gl1_4:l1.tmps.getD 4 undef=(.pointer (some ⟨bn,0,none⟩)):=by rw[ql1];exact (zaa (by decide)).trans R.s4
    have gl1_5:l1.tmps.getD 5 undef=(.pointer (some ⟨(B+2),0,none⟩)):=by rw[ql1];exact (zaa (by decide)).trans R.s5
    have gl1_8:l1.tmps.getD 8 undef=(.int .i64 (p:Nat)):=by rw[ql1];exact (zaa (by decide)).trans h8
    have gl1_17:l1.tmps.getD 17 undef=(.int .i64 (p:Nat)):=by rw[ql1];exact zae (by rw[R.size];decide)
    change wpListIn (Fw none) 0 Try.prog _ _ _ (a.put (some 17) (.int .i64 (p:Nat))) w
    rw[←ql1]
    refine zaj rfl (zaN (by intro d h;cases h) (ld3 l1 w _ (.tmp 4) rfl gl1_4 hJb.2 rfl) ?_)
    obtain⟨l2,ql2⟩:∃x,x=l1.put (some 18) (.int .i64 (numbers:Nat)):=⟨_,rfl⟩
    have zl2:l2.tmps.size=36:=by rw[ql2,zai];exact zl1
    have dl2:l2.defers=[]:=by rw[ql2,zag];exact dl1
    have gl2_0:l2.tmps.getD 0 undef=(.int .i64 (f:Nat)):=by rw[ql2];exact (zaa (by decide)).trans gl1_0
    have gl2_1:l2.tmps.getD 1 undef=(.pointer (some ⟨(B+1),0,none⟩)):=by rw[ql2];exact (zaa (by decide)).trans gl1_1
    have gl2_2:l2.tmps.getD 2 undef=(.pointer (some ⟨bc,0,none⟩)):=by rw[ql2];exact (zaa (by decide)).trans gl1_2
    have gl2_3:l2.tmps.getD 3 undef=(.pointer (some ⟨B,0,none⟩)):=by rw[ql2];exact (zaa (by decide)).trans gl1_3
    have gl2_4:l2.tmps.getD 4 undef=(.pointer (some ⟨bn,0,none⟩)):=by rw[ql2];exact (zaa (by decide)).trans gl1_4
    have gl2_5:l2.tmps.getD 5 undef=(.pointer (some ⟨(B+2),0,none⟩)):=by rw[ql2];exact (zaa (by decide)).trans gl1_5
    have gl2_8:l2.tmps.getD 8 undef=(.int .i64 (p:Nat)):=by rw[ql2];exact (zaa (by decide)).trans gl1_8
    have gl2_17:l2.tmps.getD 17 undef=(.int .i64 (p:Nat)):=by rw[ql2];exact (zaa (by decide)).trans gl1_17
    have gl2_18:l2.tmps.getD 18 undef=(.int .i64 (numbers:Nat)):=by rw[ql2];exact zae (by rw[zl1];decide)
    change wpListIn (Fw none) 0 Try.prog _ _ _ (l1.put (some 18) (.int .i64 (numbers:Nat))) w
    rw[←ql2]
    refine zaj rfl (zaN (by intro d h;cases h) (ltR l2 w _ (.tmp 17) (.tmp 18) rfl gl2_17 gl2_18) ?_)
    obtain⟨l3,ql3⟩:∃x,x=l2.put (some 19) (.bool (decide (((p:Nat):Int)<((numbers:Nat):Int)))):=⟨_,rfl⟩
    have zl3:l3.tmps.size=36:=by rw[ql3,zai];exact zl2
    have dl3:l3.defers=[]:=by rw[ql3,zag];exact dl2
    have gl3_0:l3.tmps.getD 0 undef=(.int .i64 (f:Nat)):=by rw[ql3];exact (zaa (by decide)).trans gl2_0
    have gl3_1:l3.tmps.getD 1 undef=(.pointer (some ⟨(B+1),0,none⟩)):=by rw[ql3];exact (zaa (by decide)).trans gl2_1
    have gl3_2:l3.tmps.getD 2 undef=(.pointer (some ⟨bc,0,none⟩)):=by rw[ql3];exact (zaa (by decide)).trans gl2_2
    have gl3_3:l3.tmps.getD 3 undef=(.pointer (some ⟨B,0,none⟩)):=by rw[ql3];exact (zaa (by decide)).trans gl2_3
    have gl3_4:l3.tmps.getD 4 undef=(.pointer (some ⟨bn,0,none⟩)):=by rw[ql3];exact (zaa (by decide)).trans gl2_4
    have gl3_5:l3.tmps.getD 5 undef=(.pointer (some ⟨(B+2),0,none⟩)):=by rw[ql3];exact (zaa (by decide)).trans gl2_5
    have gl3_8:l3.tmps.getD 8 undef=(.int .i64 (p:Nat)):=by rw[ql3];exact (zaa (by decide)).trans gl2_8
    have gl3_17:l3.tmps.getD 17 undef=(.int .i64 (p:Nat)):=by rw[ql3];exact (zaa (by decide)).trans gl2_17
    have gl3_18:l3.tmps.getD 18 undef=(.int .i64 (numbers:Nat)):=by rw[ql3];exact (zaa (by decide)).trans gl2_18
    have gl3_19:l3.tmps.getD 19 undef=(.bool (decide (((p:Nat):Int)<((numbers:Nat):Int)))):=by rw[ql3];exact zae (by rw[zl2];decide)
    change wpListIn (Fw none) 0 Try.prog _ _ _ (l2.put (some 19) (.bool (decide (((p:Nat):Int)<((numbers:Nat):Int))))) w
    rw[←ql3]
    have R4:RS l3 f B bc bn:=⟨zl3,dl3,gl3_0,gl3_1,gl3_2,gl3_3,gl3_4,gl3_5⟩
    have h8':=gl3_8
    have h19:=gl3_19
    refine zaO ?_
    by_cases hlt:p<numbers
    · have h19:l3.eval (.tmp 19)=.bool true:=h19.trans (by rw[decide_eq_true (by omega)])
      refine wpIn_cond_true h19 (wpIn_skip ?_)
      change Code.wpIn (Fw none) 0 Try.prog _ _ l3 w
      obtain⟨s',rfl⟩:∃s',s=s'+1:=⟨s - 1,by omega⟩
      refine wpIn_seq (wpIn_block (wpIn_seq (wpIn_region_list ?_)))
      refine zaj rfl (zaN (by intro d h;cases h) (ld76 l3 w _ (.tmp 1) rfl R4.s1 H.hl rfl) ?_)
      obtain⟨m1,qm1⟩:∃x,x=l3.put (some 22) v:=⟨_,rfl⟩
      have zm1:m1.tmps.size=36:=by rw[qm1,zai];exact R4.size
      have dm1:m1.defers=[]:=by rw[qm1,zag];exact R4.defers
      have gm1_0:m1.tmps.getD 0 undef=(.int .i64 (f:Nat)):=by rw[qm1];exact (zaa (by decide)).trans R4.s0
      have gm1_1:m1.tmps.getD 1 undef=(.pointer (some ⟨(B+1),0,none⟩)):=by rw[qm1];exact (zaa (by decide)).trans R4.s1
      have gm1_2:m1.tmps.getD 2 undef=(.pointer (some ⟨bc,0,none⟩)):=by rw[qm1];exact (zaa (by decide)).trans R4.s2
      have gm1_3:m1.tmps.getD 3 undef=(.pointer (some ⟨B,0,none⟩)):=by rw[qm1];exact (zaa (by decide)).trans R4.s3
      have gm1_4:m1.tmps.getD 4 undef=(.pointer (some ⟨bn,0,none⟩)):=by rw[qm1];exact (zaa (by decide)).trans R4.s4
      have gm1_5:m1.tmps.getD 5 undef=(.pointer (some ⟨(B+2),0,none⟩)):=by rw[qm1];exact (zaa (by decide)).trans R4.s5
      have gm1_8:m1.tmps.getD 8 undef=(.int .i64 (p:Nat)):=by rw[qm1];exact (zaa (by decide)).trans h8'
      have gm1_22:m1.tmps.getD 22 undef=v:=by rw[qm1];exact zae (by rw[R4.size];decide)
      change wpListIn (Fw none) 0 Try.prog _ _ _ (l3.put (some 22) v) w
      rw[←qm1]
      refine zaj rfl (zaN (by intro d h;cases h) (mvR m1 w _ (.tmp 8) rfl gm1_8) ?_)
      obtain⟨m2,qm2⟩:∃x,x=m1.put (some 23) (.int .i64 (p:Nat)):=⟨_,rfl⟩
      have zm2:m2.tmps.size=36:=by rw[qm2,zai];exact zm1
      have dm2:m2.defers=[]:=by rw[qm2,zag];exact dm1
      have gm2_0:m2.tmps.getD 0 undef=(.int .i64 (f:Nat)):=by rw[qm2];exact (zaa (by decide)).trans gm1_0
      have gm2_1:m2.tmps.getD 1 undef=(.pointer (some ⟨(B+1),0,none⟩)):=by rw[qm2];exact (zaa (by decide)).trans gm1_1
      have gm2_2:m2.tmps.getD 2 undef=(.pointer (some ⟨bc,0,none⟩)):=by rw[qm2];exact (zaa (by decide)).trans gm1_2
      have gm2_3:m2.tmps.getD 3 undef=(.pointer (some ⟨B,0,none⟩)):=by rw[qm2];exact (zaa (by decide)).trans gm1_3
      have gm2_4:m2.tmps.getD 4 undef=(.pointer (some ⟨bn,0,none⟩)):=by rw[qm2];exact (zaa (by decide)).trans gm1_4
      have gm2_5:m2.tmps.getD 5 undef=(.pointer (some ⟨(B+2),0,none⟩)):=by rw[qm2];exact (zaa (by decide)).trans gm1_5
      have gm2_8:m2.tmps.getD 8 undef=(.int .i64 (p:Nat)):=by rw[qm2];exact (zaa (by decide)).trans gm1_8
      have gm2_22:m2.tmps.getD 22 undef=v:=by rw[qm2];exact (zaa (by decide)).trans gm1_22
      have gm2_23:m2.tmps.getD 23 undef=(.int .i64 (p:Nat)):=by rw[qm2];exact zae (by rw[zm1];decide)
      change wpListIn (Fw none) 0 Try.prog _ _ _ (m1.put (some 23) (.int .i64 (p:Nat))) w
      rw[←qm2]
      obtain⟨wb,hwb⟩:∃x,x=w.alloc (.cells #[.int .i64 (p:Nat)] 3 (0,0)):=⟨_,rfl⟩
      refine zaj rfl (zoH (by intro d h;cases h) (bsR m2 w _ (.tmp 23) rfl gm2_23) ?_)
      rw[←hwb]
      obtain⟨m3,qm3⟩:∃x,x=m2.put (some 24) (.slice (some ⟨w.heap.size,0,none⟩) 1 1):=⟨_,rfl⟩
      have zm3:m3.tmps.size=36:=by rw[qm3,zai];exact zm2
      have dm3:m3.defers=[]:=by rw[qm3,zag];exact dm2
      have gm3_0:m3.tmps.getD 0 undef=(.int .i64 (f:Nat)):=by rw[qm3];exact (zaa (by decide)).trans gm2_0
      have gm3_1:m3.tmps.getD 1 undef=(.pointer (some ⟨(B+1),0,none⟩)):=by rw[qm3];exact (zaa (by decide)).trans gm2_1
      have gm3_2:m3.tmps.getD 2 undef=(.pointer (some ⟨bc,0,none⟩)):=by rw[qm3];exact (zaa (by decide)).trans gm2_2
      have gm3_3:m3.tmps.getD 3 undef=(.pointer (some ⟨B,0,none⟩)):=by rw[qm3];exact (zaa (by decide)).trans gm2_3
      have gm3_4:m3.tmps.getD 4 undef=(.pointer (some ⟨bn,0,none⟩)):=by rw[qm3];exact (zaa (by decide)).trans gm2_4
      have gm3_5:m3.tmps.getD 5 undef=(.pointer (some ⟨(B+2),0,none⟩)):=by rw[qm3];exact (zaa (by decide)).trans gm2_5
      have gm3_8:m3.tmps.getD 8 undef=(.int .i64 (p:Nat)):=by rw[qm3];exact (zaa (by decide)).trans gm2_8
      have gm3_22:m3.tmps.getD 22 undef=v:=by rw[qm3];exact (zaa (by decide)).trans gm2_22
      have gm3_23:m3.tmps.getD 23 undef=(.int .i64 (p:Nat)):=by rw[qm3];exact (zaa (by decide)).trans gm2_23
      have gm3_24:m3.tmps.getD 24 undef=(.slice (some ⟨w.heap.size,0,none⟩) 1 1):=by rw[qm3];exact zae (by rw[zm2];decide)
      change wpListIn (Fw none) 0 Try.prog _ _ _ (m2.put (some 24) (.slice (some ⟨w.heap.size,0,none⟩) 1 1)) wb
      rw[←qm3]
      have hsz:B+3≤w.heap.size:=zah H.hm
      have hnew:wb.heap[w.heap.size]?=some (.cells #[.int .i64 (p:Nat)] 3 (0,0)):=by
        rw[hwb];show (w.heap.push _)[w.heap.size]?=_;simp
      have hbel:Bel w.heap.size w wb:=by rw[hwb];exact ze5
      have Hb:HC B bc bn yv wb v xs:=H.abv (fun b _ hs=>hbel.keep b hs hs)
      refine zaj rfl (ztt (by intro d h;cases h) (x:=.tmp 22) (y:=.tmp 24) rfl gm3_22 Hb.ld (by omega) gm3_24 hnew (Nat.le_trans hsz hbel.size) fun v' wc hld hbel2=>?_)
      obtain⟨vad',vc',hv'⟩:=znd hld
      have hlc:wc.heap[B+1]?=some (.cells #[v] 38 (0,0)):=(hbel2.keep (B+1) (by omega) (zah Hb.hl)).trans Hb.hl
      obtain⟨n1,qn1⟩:∃x,x=m3.put (some 25) v':=⟨_,rfl⟩
      have zn1:n1.tmps.size=36:=by rw[qn1,zai];exact zm3
      have dn1:n1.defers=[]:=by rw[qn1,zag];exact dm3
      have gn1_0:n1.tmps.getD 0 undef=(.int .i64 (f:Nat)):=by rw[qn1];exact (zaa (by decide)).trans gm3_0
      have gn1_1:n1.tmps.getD 1 undef=(.pointer (some ⟨(B+1),0,none⟩)):=by rw[qn1];exact (zaa (by decide)).trans gm3_1
      have gn1_2:n1.tmps.getD 2 undef=(.pointer (some ⟨bc,0,none⟩)):=by rw[qn1];exact (zaa (by decide)).trans gm3_2
      have gn1_3:n1.tmps.getD 3 undef=(.pointer (some ⟨B,0,none⟩)):=by rw[qn1];exact (zaa (by decide)).trans gm3_3
      have gn1_4:n1.tmps.getD 4 undef=(.pointer (some ⟨bn,0,none⟩)):=by rw[qn1];exact (zaa (by decide)).trans gm3_4
      have gn1_5:n1.tmps.getD 5 undef=(.pointer (some ⟨(B+2),0,none⟩)):=by rw[qn1];exact (zaa (by decide)).trans gm3_5
      have gn1_8:n1.tmps.getD 8 undef=(.int .i64 (p:Nat)):=by rw[qn1];exact (zaa (by decide)).trans gm3_8
      have gn1_22:n1.tmps.getD 22 undef=v:=by rw[qn1];exact (zaa (by decide)).trans gm3_22
      have gn1_23:n1.tmps.getD 23 undef=(.int .i64 (p:Nat)):=by rw[qn1];exact (zaa (by decide)).trans gm3_23
      have gn1_24:n1.tmps.getD 24 undef=(.slice (some ⟨w.heap.size,0,none⟩) 1 1):=by rw[qn1];exact (zaa (by decide)).trans gm3_24
      have gn1_25:n1.tmps.getD 25 undef=v':=by rw[qn1];exact zae (by rw[zm3];decide)
      change wpListIn (Fw none) 0 Try.prog _ _ _ (m3.put (some 25) v') wc
      rw[←qn1]
      refine zaj rfl (zih (by intro d h;cases h) (st76 n1 wc _ (.tmp 1) (.tmp 25) rfl gn1_1 (gn1_25.trans hv') hlc Nat.zero_lt_one) ?_)
      rw[←hv']
      obtain⟨wd,hwd⟩:∃x,x=wc.setRow (B+1) ((#[v]:Array Value).set! 0 v'):=⟨_,rfl⟩
      change wpListIn (Fw none) 0 Try.prog _ _ _ n1 (wc.setRow (B+1) ((#[v]:Array Value).set! 0 v'))
      rw[←hwd]
      refine zaO ?_
      have R6:RS n1 f B bc bn:=⟨zn1,dn1,gn1_0,gn1_1,gn1_2,gn1_3,gn1_4,gn1_5⟩
      have h8'':=gn1_8
      have H2:HC B bc bn yv wd v' (xs++[((p:Nat):Int)]):=by
        rw[hwd]
        exact⟨(setRow_other wc (B+1) B _ (by omega)).trans ((hbel2.keep B (by omega) (zah Hb.hy)).trans Hb.hy),setRow_heap wc (B+1) _ _ 38 (0,0) hlc,(setRow_other wc (B+1) (B+2) _ (by omega)).trans ((hbel2.keep (B+2) (by omega) (zah Hb.hm)).trans Hb.hm),zki hld fun b hb hs=>setRow_other wc (B+1) b _ (by omega)⟩
      have hbd:Bel B w wd:=((hbel.le (by omega)).trans (hbel2.le (by omega))).trans (by rw[hwd];exact zec (by omega))
      have hJ2:J ((zbU k (p+1) s').map ((xs++[((p:Nat):Int)]) ++ ·)++((zbU (k+1) (p+1) s').map (xs ++ ·)++rest)) wd:=by
        have h:=hY.below _ _ _ hJ hbd
        simpa [zbU,List.map_append,List.map_map,Function.comp_def,List.append_assoc] using h
      refine wpIn_seq (wpIn_seq (wpIn_region_list ?_))
      refine zaj rfl (zaN (by intro d h;cases h) (ldF zn8 n1 wd _ (.tmp 5) rfl R6.s5 H2.hm rfl) ?_)
      obtain⟨o1,qo1⟩:∃x,x=n1.put (some 26) (.func (.func 72) #[] (capt B bc bn)):=⟨_,rfl⟩
      have zo1:o1.tmps.size=36:=by rw[qo1,zai];exact R6.size
      have do1:o1.defers=[]:=by rw[qo1,zag];exact R6.defers
      have go1_0:o1.tmps.getD 0 undef=(.int .i64 (f:Nat)):=by rw[qo1];exact (zaa (by decide)).trans R6.s0
      have go1_1:o1.tmps.getD 1 undef=(.pointer (some ⟨(B+1),0,none⟩)):=by rw[qo1];exact (zaa (by decide)).trans R6.s1
      have go1_2:o1.tmps.getD 2 undef=(.pointer (some ⟨bc,0,none⟩)):=by rw[qo1];exact (zaa (by decide)).trans R6.s2
      have go1_3:o1.tmps.getD 3 undef=(.pointer (some ⟨B,0,none⟩)):=by rw[qo1];exact (zaa (by decide)).trans R6.s3
      have go1_4:o1.tmps.getD 4 undef=(.pointer (some ⟨bn,0,none⟩)):=by rw[qo1];exact (zaa (by decide)).trans R6.s4
      have go1_5:o1.tmps.getD 5 undef=(.pointer (some ⟨(B+2),0,none⟩)):=by rw[qo1];exact (zaa (by decide)).trans R6.s5
      have go1_8:o1.tmps.getD 8 undef=(.int .i64 (p:Nat)):=by rw[qo1];exact (zaa (by decide)).trans h8''
      have go1_26:o1.tmps.getD 26 undef=(.func (.func 72) #[] (capt B bc bn)):=by rw[qo1];exact zae (by rw[R6.size];decide)
      change wpListIn (Fw none) 0 Try.prog _ _ _ (n1.put (some 26) (.func (.func 72) #[] (capt B bc bn))) wd
      rw[←qo1]
      refine zaj rfl (zaN (by intro d h;cases h) (mvR o1 wd _ (.tmp 8) rfl go1_8) ?_)
      obtain⟨o2,qo2⟩:∃x,x=o1.put (some 27) (.int .i64 (p:Nat)):=⟨_,rfl⟩
      have zo2:o2.tmps.size=36:=by rw[qo2,zai];exact zo1
      have do2:o2.defers=[]:=by rw[qo2,zag];exact do1
      have go2_0:o2.tmps.getD 0 undef=(.int .i64 (f:Nat)):=by rw[qo2];exact (zaa (by decide)).trans go1_0
      have go2_1:o2.tmps.getD 1 undef=(.pointer (some ⟨(B+1),0,none⟩)):=by rw[qo2];exact (zaa (by decide)).trans go1_1
      have go2_2:o2.tmps.getD 2 undef=(.pointer (some ⟨bc,0,none⟩)):=by rw[qo2];exact (zaa (by decide)).trans go1_2
      have go2_3:o2.tmps.getD 3 undef=(.pointer (some ⟨B,0,none⟩)):=by rw[qo2];exact (zaa (by decide)).trans go1_3
      have go2_4:o2.tmps.getD 4 undef=(.pointer (some ⟨bn,0,none⟩)):=by rw[qo2];exact (zaa (by decide)).trans go1_4
      have go2_5:o2.tmps.getD 5 undef=(.pointer (some ⟨(B+2),0,none⟩)):=by rw[qo2];exact (zaa (by decide)).trans go1_5
      have go2_8:o2.tmps.getD 8 undef=(.int .i64 (p:Nat)):=by rw[qo2];exact (zaa (by decide)).trans go1_8
      have go2_26:o2.tmps.getD 26 undef=(.func (.func 72) #[] (capt B bc bn)):=by rw[qo2];exact (zaa (by decide)).trans go1_26
      have go2_27:o2.tmps.getD 27 undef=(.int .i64 (p:Nat)):=by rw[qo2];exact zae (by rw[zo1];decide)
      change wpListIn (Fw none) 0 Try.prog _ _ _ (o1.put (some 27) (.int .i64 (p:Nat))) wd
      rw[←qo2]
      refine zaj rfl (zaN (by intro d h;cases h) (adR o2 wd _ (.tmp 27) (.const (.int .i64 1)) rfl go2_27 rfl (by omega)) ?_)
      obtain⟨o3,qo3⟩:∃x,x=o2.put (some 28) (.int .i64 ((p:Nat)+(1:Int))):=⟨_,rfl⟩
      have zo3:o3.tmps.size=36:=by rw[qo3,zai];exact zo2
      have do3:o3.defers=[]:=by rw[qo3,zag];exact do2
      have go3_0:o3.tmps.getD 0 undef=(.int .i64 (f:Nat)):=by rw[qo3];exact (zaa (by decide)).trans go2_0
      have go3_1:o3.tmps.getD 1 undef=(.pointer (some ⟨(B+1),0,none⟩)):=by rw[qo3];exact (zaa (by decide)).trans go2_1
      have go3_2:o3.tmps.getD 2 undef=(.pointer (some ⟨bc,0,none⟩)):=by rw[qo3];exact (zaa (by decide)).trans go2_2
      have go3_3:o3.tmps.getD 3 undef=(.pointer (some ⟨B,0,none⟩)):=by rw[qo3];exact (zaa (by decide)).trans go2_3
      have go3_4:o3.tmps.getD 4 undef=(.pointer (some ⟨bn,0,none⟩)):=by rw[qo3];exact (zaa (by decide)).trans go2_4
      have go3_5:o3.tmps.getD 5 undef=(.pointer (some ⟨(B+2),0,none⟩)):=by rw[qo3];exact (zaa (by decide)).trans go2_5
      have go3_8:o3.tmps.getD 8 undef=(.int .i64 (p:Nat)):=by rw[qo3];exact (zaa (by decide)).trans go2_8
      have go3_26:o3.tmps.getD 26 undef=(.func (.func 72) #[] (capt B bc bn)):=by rw[qo3];exact (zaa (by decide)).trans go2_26
      have go3_27:o3.tmps.getD 27 undef=(.int .i64 (p:Nat)):=by rw[qo3];exact (zaa (by decide)).trans go2_27
      have go3_28:o3.tmps.getD 28 undef=(.int .i64 ((p:Nat)+(1:Int))):=by rw[qo3];exact zae (by rw[zo2];decide)
      change wpListIn (Fw none) 0 Try.prog _ _ _ (o2.put (some 28) (.int .i64 ((p:Nat)+(1:Int)))) wd
      rw[←qo3]
      have hc:=ih (p+1) s' (xs++[((p:Nat):Int)]) _ wd v' (by rw[List.length_append,List.length_singleton];omega) (by omega) (by rw[←hyv];exact H2) hJ2
      obtain⟨args,hargs⟩:∃x,x=(#[.int .i64 ((p+1:Nat):Int)]++capt B bc bn:Array Value):=⟨_,rfl⟩
      rw[←hargs] at hc
      refine zaj rfl ?_
      refine zhr (f:=72) (args:=args) ?_ ?_ (hc.mono ?_)
      · intro d h;cases h
      · obtain⟨fn,e1,e2,e3⟩:zda Try.prog 72:=⟨Try.f72,Try.func72,by kernel_rfl,by kernel_rfl⟩
        have e2':¬fn.name = "runtime.NumGoroutine" := by simpa using e2
        have e3':¬fn.body=none:=by intro hn;rw[hn] at e3;cases e3
        rw[hargs]
        simp[execOp,resolve,Deferred.ofValue,ev,go3_26,go3_28,invoke,callFunc,e1,e2',e3',capt]
      rintro e we (⟨rfl,hJ3,v3,H3⟩|⟨rfl,hJx⟩)
      · refine ⟨.bool true,rfl,?_⟩
        rw[←hyv] at H3
        obtain⟨ls,c,hv3,hlc3,hld3⟩:=zso H3.ld
        obtain⟨ot1,qot1⟩:∃x,x=o3.put (some 29) (.bool true):=⟨_,rfl⟩
        have zot1:ot1.tmps.size=36:=by rw[qot1,zai];exact zo3
        have dot1:ot1.defers=[]:=by rw[qot1,zag];exact do3
        have got1_0:ot1.tmps.getD 0 undef=(.int .i64 (f:Nat)):=by rw[qot1];exact (zaa (by decide)).trans go3_0
        have got1_1:ot1.tmps.getD 1 undef=(.pointer (some ⟨(B+1),0,none⟩)):=by rw[qot1];exact (zaa (by decide)).trans go3_1
        have got1_2:ot1.tmps.getD 2 undef=(.pointer (some ⟨bc,0,none⟩)):=by rw[qot1];exact (zaa (by decide)).trans go3_2
        have got1_3:ot1.tmps.getD 3 undef=(.pointer (some ⟨B,0,none⟩)):=by rw[qot1];exact (zaa (by decide)).trans go3_3
        have got1_4:ot1.tmps.getD 4 undef=(.pointer (some ⟨bn,0,none⟩)):=by rw[qot1];exact (zaa (by decide)).trans go3_4
        have got1_5:ot1.tmps.getD 5 undef=(.pointer (some ⟨(B+2),0,none⟩)):=by rw[qot1];exact (zaa (by decide)).trans go3_5
        have got1_8:ot1.tmps.getD 8 undef=(.int .i64 (p:Nat)):=by rw[qot1];exact (zaa (by decide)).trans go3_8
        have got1_26:ot1.tmps.getD 26 undef=(.func (.func 72) #[] (capt B bc bn)):=by rw[qot1];exact (zaa (by decide)).trans go3_26
        have got1_27:ot1.tmps.getD 27 undef=(.int .i64 (p:Nat)):=by rw[qot1];exact (zaa (by decide)).trans go3_27
        have got1_28:ot1.tmps.getD 28 undef=(.int .i64 ((p:Nat)+(1:Int))):=by rw[qot1];exact (zaa (by decide)).trans go3_28
        have got1_29:ot1.tmps.getD 29 undef=(.bool true):=by rw[qot1];exact zae (by rw[zo3];decide)
        change wpListIn (Fw none) 0 Try.prog _ _ _ (o3.put (some 29) (.bool true)) we
        rw[←qot1]
        refine zaj rfl (zaN (by intro d h;cases h) (ntR ot1 we _ (.tmp 29) rfl got1_29) ?_)
        obtain⟨ot2,qot2⟩:∃x,x=ot1.put (some 30) (.bool false):=⟨_,rfl⟩
        have zot2:ot2.tmps.size=36:=by rw[qot2,zai];exact zot1
        have dot2:ot2.defers=[]:=by rw[qot2,zag];exact dot1
        have got2_0:ot2.tmps.getD 0 undef=(.int .i64 (f:Nat)):=by rw[qot2];exact (zaa (by decide)).trans got1_0
        have got2_1:ot2.tmps.getD 1 undef=(.pointer (some ⟨(B+1),0,none⟩)):=by rw[qot2];exact (zaa (by decide)).trans got1_1
        have got2_2:ot2.tmps.getD 2 undef=(.pointer (some ⟨bc,0,none⟩)):=by rw[qot2];exact (zaa (by decide)).trans got1_2
        have got2_3:ot2.tmps.getD 3 undef=(.pointer (some ⟨B,0,none⟩)):=by rw[qot2];exact (zaa (by decide)).trans got1_3
        have got2_4:ot2.tmps.getD 4 undef=(.pointer (some ⟨bn,0,none⟩)):=by rw[qot2];exact (zaa (by decide)).trans got1_4
        have got2_5:ot2.tmps.getD 5 undef=(.pointer (some ⟨(B+2),0,none⟩)):=by rw[qot2];exact (zaa (by decide)).trans got1_5
        have got2_8:ot2.tmps.getD 8 undef=(.int .i64 (p:Nat)):=by rw[qot2];exact (zaa (by decide)).trans got1_8
        have got2_26:ot2.tmps.getD 26 undef=(.func (.func 72) #[] (capt B bc bn)):=by rw[qot2];exact (zaa (by decide)).trans got1_26
        have got2_27:ot2.tmps.getD 27 undef=(.int .i64 (p:Nat)):=by rw[qot2];exact (zaa (by decide)).trans got1_27
        have got2_28:ot2.tmps.getD 28 undef=(.int .i64 ((p:Nat)+(1:Int))):=by rw[qot2];exact (zaa (by decide)).trans got1_28
        have got2_29:ot2.tmps.getD 29 undef=(.bool true):=by rw[qot2];exact (zaa (by decide)).trans got1_29
        have got2_30:ot2.tmps.getD 30 undef=(.bool false):=by rw[qot2];exact zae (by rw[zot1];decide)
        change wpListIn (Fw none) 0 Try.prog _ _ _ (ot1.put (some 30) (.bool false)) we
        rw[←qot2]
        have R7:RS ot2 f B bc bn:=⟨zot2,dot2,got2_0,got2_1,got2_2,got2_3,got2_4,got2_5⟩
        have h8a:=got2_8
        have h30:=got2_30
        refine zaO (wpIn_cond_false h30 (wpIn_skip ?_))
        change Code.wpIn (Fw none) 0 Try.prog N9 _ ot2 we
        refine wpIn_region_list ?_
        refine zaj rfl (zaN (by intro d h;cases h) (ld76 ot2 we _ (.tmp 1) rfl R7.s1 H3.hl rfl) ?_)
        obtain⟨r1,qr1⟩:∃x,x=ot2.put (some 31) v3:=⟨_,rfl⟩
        have zr1:r1.tmps.size=36:=by rw[qr1,zai];exact R7.size
        have dr1:r1.defers=[]:=by rw[qr1,zag];exact R7.defers
        have gr1_0:r1.tmps.getD 0 undef=(.int .i64 (f:Nat)):=by rw[qr1];exact (zaa (by decide)).trans R7.s0
        have gr1_1:r1.tmps.getD 1 undef=(.pointer (some ⟨(B+1),0,none⟩)):=by rw[qr1];exact (zaa (by decide)).trans R7.s1
        have gr1_2:r1.tmps.getD 2 undef=(.pointer (some ⟨bc,0,none⟩)):=by rw[qr1];exact (zaa (by decide)).trans R7.s2
        have gr1_3:r1.tmps.getD 3 undef=(.pointer (some ⟨B,0,none⟩)):=by rw[qr1];exact (zaa (by decide)).trans R7.s3
        have gr1_4:r1.tmps.getD 4 undef=(.pointer (some ⟨bn,0,none⟩)):=by rw[qr1];exact (zaa (by decide)).trans R7.s4
        have gr1_5:r1.tmps.getD 5 undef=(.pointer (some ⟨(B+2),0,none⟩)):=by rw[qr1];exact (zaa (by decide)).trans R7.s5
        have gr1_8:r1.tmps.getD 8 undef=(.int .i64 (p:Nat)):=by rw[qr1];exact (zaa (by decide)).trans h8a
        have gr1_31:r1.tmps.getD 31 undef=v3:=by rw[qr1];exact zae (by rw[R7.size];decide)
        change wpListIn (Fw none) 0 Try.prog _ _ _ (ot2.put (some 31) v3) we
        rw[←qr1]
        refine zaj rfl (zaN (by intro d h;cases h) (ld76 r1 we _ (.tmp 1) rfl gr1_1 H3.hl rfl) ?_)
        obtain⟨r2,qr2⟩:∃x,x=r1.put (some 32) v3:=⟨_,rfl⟩
        have zr2:r2.tmps.size=36:=by rw[qr2,zai];exact zr1
        have dr2:r2.defers=[]:=by rw[qr2,zag];exact dr1
        have gr2_0:r2.tmps.getD 0 undef=(.int .i64 (f:Nat)):=by rw[qr2];exact (zaa (by decide)).trans gr1_0
        have gr2_1:r2.tmps.getD 1 undef=(.pointer (some ⟨(B+1),0,none⟩)):=by rw[qr2];exact (zaa (by decide)).trans gr1_1
        have gr2_2:r2.tmps.getD 2 undef=(.pointer (some ⟨bc,0,none⟩)):=by rw[qr2];exact (zaa (by decide)).trans gr1_2
        have gr2_3:r2.tmps.getD 3 undef=(.pointer (some ⟨B,0,none⟩)):=by rw[qr2];exact (zaa (by decide)).trans gr1_3
        have gr2_4:r2.tmps.getD 4 undef=(.pointer (some ⟨bn,0,none⟩)):=by rw[qr2];exact (zaa (by decide)).trans gr1_4
        have gr2_5:r2.tmps.getD 5 undef=(.pointer (some ⟨(B+2),0,none⟩)):=by rw[qr2];exact (zaa (by decide)).trans gr1_5
        have gr2_8:r2.tmps.getD 8 undef=(.int .i64 (p:Nat)):=by rw[qr2];exact (zaa (by decide)).trans gr1_8
        have gr2_31:r2.tmps.getD 31 undef=v3:=by rw[qr2];exact (zaa (by decide)).trans gr1_31
        have gr2_32:r2.tmps.getD 32 undef=v3:=by rw[qr2];exact zae (by rw[zr1];decide)
        change wpListIn (Fw none) 0 Try.prog _ _ _ (r1.put (some 32) v3) we
        rw[←qr2]
        refine zaj rfl (zaN (by intro d h;cases h) (lnR Try.underlying38 r2 we _ (.tmp 32) rfl (gr2_32.trans hv3)) ?_)
        obtain⟨r3,qr3⟩:∃x,x=r2.put (some 33) (.int .i64 ((xs.length+1:Nat))):=⟨_,rfl⟩
        have zr3:r3.tmps.size=36:=by rw[qr3,zai];exact zr2
        have dr3:r3.defers=[]:=by rw[qr3,zag];exact dr2
        have gr3_0:r3.tmps.getD 0 undef=(.int .i64 (f:Nat)):=by rw[qr3];exact (zaa (by decide)).trans gr2_0
        have gr3_1:r3.tmps.getD 1 undef=(.pointer (some ⟨(B+1),0,none⟩)):=by rw[qr3];exact (zaa (by decide)).trans gr2_1
        have gr3_2:r3.tmps.getD 2 undef=(.pointer (some ⟨bc,0,none⟩)):=by rw[qr3];exact (zaa (by decide)).trans gr2_2
        have gr3_3:r3.tmps.getD 3 undef=(.pointer (some ⟨B,0,none⟩)):=by rw[qr3];exact (zaa (by decide)).trans gr2_3
        have gr3_4:r3.tmps.getD 4 undef=(.pointer (some ⟨bn,0,none⟩)):=by rw[qr3];exact (zaa (by decide)).trans gr2_4
        have gr3_5:r3.tmps.getD 5 undef=(.pointer (some ⟨(B+2),0,none⟩)):=by rw[qr3];exact (zaa (by decide)).trans gr2_5
        have gr3_8:r3.tmps.getD 8 undef=(.int .i64 (p:Nat)):=by rw[qr3];exact (zaa (by decide)).trans gr2_8
        have gr3_31:r3.tmps.getD 31 undef=v3:=by rw[qr3];exact (zaa (by decide)).trans gr2_31
        have gr3_32:r3.tmps.getD 32 undef=v3:=by rw[qr3];exact (zaa (by decide)).trans gr2_32
        have gr3_33:r3.tmps.getD 33 undef=(.int .i64 ((xs.length+1:Nat))):=by rw[qr3];exact zae (by rw[zr2];decide)
        change wpListIn (Fw none) 0 Try.prog _ _ _ (r2.put (some 33) (.int .i64 ((xs.length+1:Nat)))) we
        rw[←qr3]
        refine zaj rfl (zaN (by intro d h;cases h) (suR r3 we _ (.tmp 33) (.const (.int .i64 1)) rfl gr3_33 rfl (by omega)) ?_)
        obtain⟨r4,qr4⟩:∃x,x=r3.put (some 34) (.int .i64 (((xs.length+1:Nat):Int) - 1)):=⟨_,rfl⟩
        have zr4:r4.tmps.size=36:=by rw[qr4,zai];exact zr3
        have dr4:r4.defers=[]:=by rw[qr4,zag];exact dr3
        have gr4_0:r4.tmps.getD 0 undef=(.int .i64 (f:Nat)):=by rw[qr4];exact (zaa (by decide)).trans gr3_0
        have gr4_1:r4.tmps.getD 1 undef=(.pointer (some ⟨(B+1),0,none⟩)):=by rw[qr4];exact (zaa (by decide)).trans gr3_1
        have gr4_2:r4.tmps.getD 2 undef=(.pointer (some ⟨bc,0,none⟩)):=by rw[qr4];exact (zaa (by decide)).trans gr3_2
        have gr4_3:r4.tmps.getD 3 undef=(.pointer (some ⟨B,0,none⟩)):=by rw[qr4];exact (zaa (by decide)).trans gr3_3
        have gr4_4:r4.tmps.getD 4 undef=(.pointer (some ⟨bn,0,none⟩)):=by rw[qr4];exact (zaa (by decide)).trans gr3_4
        have gr4_5:r4.tmps.getD 5 undef=(.pointer (some ⟨(B+2),0,none⟩)):=by rw[qr4];exact (zaa (by decide)).trans gr3_5
        have gr4_8:r4.tmps.getD 8 undef=(.int .i64 (p:Nat)):=by rw[qr4];exact (zaa (by decide)).trans gr3_8
        have gr4_31:r4.tmps.getD 31 undef=v3:=by rw[qr4];exact (zaa (by decide)).trans gr3_31
        have gr4_32:r4.tmps.getD 32 undef=v3:=by rw[qr4];exact (zaa (by decide)).trans gr3_32
        have gr4_33:r4.tmps.getD 33 undef=(.int .i64 ((xs.length+1:Nat))):=by rw[qr4];exact (zaa (by decide)).trans gr3_33
        have gr4_34:r4.tmps.getD 34 undef=(.int .i64 (((xs.length+1:Nat):Int) - 1)):=by rw[qr4];exact zae (by rw[zr3];decide)
        change wpListIn (Fw none) 0 Try.prog _ _ _ (r3.put (some 34) (.int .i64 (((xs.length+1:Nat):Int) - 1))) we
        rw[←qr4]
        refine zaj rfl (zaN (by intro d h;cases h) (slR r4 we _ (.tmp 31) (.tmp 34) rfl (gr4_31.trans hv3) (gr4_34.trans (by rw[show ((xs.length+1:Nat):Int) - 1=(xs.length:Nat) by omega])) hlc3) ?_)
        obtain⟨r5,qr5⟩:∃x,x=r4.put (some 35) (.slice (some ⟨ls,0,none⟩) xs.length c):=⟨_,rfl⟩
        have zr5:r5.tmps.size=36:=by rw[qr5,zai];exact zr4
        have dr5:r5.defers=[]:=by rw[qr5,zag];exact dr4
        have gr5_0:r5.tmps.getD 0 undef=(.int .i64 (f:Nat)):=by rw[qr5];exact (zaa (by decide)).trans gr4_0
        have gr5_1:r5.tmps.getD 1 undef=(.pointer (some ⟨(B+1),0,none⟩)):=by rw[qr5];exact (zaa (by decide)).trans gr4_1
        have gr5_2:r5.tmps.getD 2 undef=(.pointer (some ⟨bc,0,none⟩)):=by rw[qr5];exact (zaa (by decide)).trans gr4_2
        have gr5_3:r5.tmps.getD 3 undef=(.pointer (some ⟨B,0,none⟩)):=by rw[qr5];exact (zaa (by decide)).trans gr4_3
        have gr5_4:r5.tmps.getD 4 undef=(.pointer (some ⟨bn,0,none⟩)):=by rw[qr5];exact (zaa (by decide)).trans gr4_4
        have gr5_5:r5.tmps.getD 5 undef=(.pointer (some ⟨(B+2),0,none⟩)):=by rw[qr5];exact (zaa (by decide)).trans gr4_5
        have gr5_8:r5.tmps.getD 8 undef=(.int .i64 (p:Nat)):=by rw[qr5];exact (zaa (by decide)).trans gr4_8
        have gr5_31:r5.tmps.getD 31 undef=v3:=by rw[qr5];exact (zaa (by decide)).trans gr4_31
        have gr5_32:r5.tmps.getD 32 undef=v3:=by rw[qr5];exact (zaa (by decide)).trans gr4_32
        have gr5_33:r5.tmps.getD 33 undef=(.int .i64 ((xs.length+1:Nat))):=by rw[qr5];exact (zaa (by decide)).trans gr4_33
        have gr5_34:r5.tmps.getD 34 undef=(.int .i64 (((xs.length+1:Nat):Int) - 1)):=by rw[qr5];exact (zaa (by decide)).trans gr4_34
        have gr5_35:r5.tmps.getD 35 undef=(.slice (some ⟨ls,0,none⟩) xs.length c):=by rw[qr5];exact zae (by rw[zr4];decide)
        change wpListIn (Fw none) 0 Try.prog _ _ _ (r4.put (some 35) (.slice (some ⟨ls,0,none⟩) xs.length c)) we
        rw[←qr5]
        refine zaj rfl (zih (by intro d h;cases h) (st76 r5 we _ (.tmp 1) (.tmp 35) rfl gr5_1 gr5_35 H3.hl Nat.zero_lt_one) ?_)
        obtain⟨wf,hwf⟩:∃x,x=we.setRow (B+1) ((#[v3]:Array Value).set! 0 (.slice (some ⟨ls,0,none⟩) xs.length c)):=⟨_,rfl⟩
        change wpListIn (Fw none) 0 Try.prog _ _ _ r5 (we.setRow (B+1) ((#[v3]:Array Value).set! 0 (.slice (some ⟨ls,0,none⟩) xs.length c)))
        rw[←hwf]
        refine zaO ?_
        have R9:RS r5 f B bc bn:=⟨zr5,dr5,gr5_0,gr5_1,gr5_2,gr5_3,gr5_4,gr5_5⟩
        have h8b:=gr5_8
        change Code.wpIn (Fw none) 0 Try.prog N5 _ r5 wf
        refine wpIn_region_list ?_
        refine zaj rfl (zaN (by intro d h;cases h) (mvR r5 wf _ (.tmp 8) rfl h8b) ?_)
        obtain⟨s1,qs1⟩:∃x,x=r5.put (some 20) (.int .i64 (p:Nat)):=⟨_,rfl⟩
        have zs1:s1.tmps.size=36:=by rw[qs1,zai];exact R9.size
        have ds1:s1.defers=[]:=by rw[qs1,zag];exact R9.defers
        have gs1_0:s1.tmps.getD 0 undef=(.int .i64 (f:Nat)):=by rw[qs1];exact (zaa (by decide)).trans R9.s0
        have gs1_1:s1.tmps.getD 1 undef=(.pointer (some ⟨(B+1),0,none⟩)):=by rw[qs1];exact (zaa (by decide)).trans R9.s1
        have gs1_2:s1.tmps.getD 2 undef=(.pointer (some ⟨bc,0,none⟩)):=by rw[qs1];exact (zaa (by decide)).trans R9.s2
        have gs1_3:s1.tmps.getD 3 undef=(.pointer (some ⟨B,0,none⟩)):=by rw[qs1];exact (zaa (by decide)).trans R9.s3
        have gs1_4:s1.tmps.getD 4 undef=(.pointer (some ⟨bn,0,none⟩)):=by rw[qs1];exact (zaa (by decide)).trans R9.s4
        have gs1_5:s1.tmps.getD 5 undef=(.pointer (some ⟨(B+2),0,none⟩)):=by rw[qs1];exact (zaa (by decide)).trans R9.s5
        have gs1_8:s1.tmps.getD 8 undef=(.int .i64 (p:Nat)):=by rw[qs1];exact (zaa (by decide)).trans h8b
        have gs1_20:s1.tmps.getD 20 undef=(.int .i64 (p:Nat)):=by rw[qs1];exact zae (by rw[R9.size];decide)
        change wpListIn (Fw none) 0 Try.prog _ _ _ (r5.put (some 20) (.int .i64 (p:Nat))) wf
        rw[←qs1]
        refine zaj rfl (zaN (by intro d h;cases h) (adN s1 wf _ (.tmp 20) (.const (.int .i64 1)) rfl gs1_20 rfl (by omega)) ?_)
        obtain⟨s2,qs2⟩:∃x,x=s1.put (some 21) (.int .i64 ((p+1:Nat))):=⟨_,rfl⟩
        have zs2:s2.tmps.size=36:=by rw[qs2,zai];exact zs1
        have ds2:s2.defers=[]:=by rw[qs2,zag];exact ds1
        have gs2_0:s2.tmps.getD 0 undef=(.int .i64 (f:Nat)):=by rw[qs2];exact (zaa (by decide)).trans gs1_0
        have gs2_1:s2.tmps.getD 1 undef=(.pointer (some ⟨(B+1),0,none⟩)):=by rw[qs2];exact (zaa (by decide)).trans gs1_1
        have gs2_2:s2.tmps.getD 2 undef=(.pointer (some ⟨bc,0,none⟩)):=by rw[qs2];exact (zaa (by decide)).trans gs1_2
        have gs2_3:s2.tmps.getD 3 undef=(.pointer (some ⟨B,0,none⟩)):=by rw[qs2];exact (zaa (by decide)).trans gs1_3
        have gs2_4:s2.tmps.getD 4 undef=(.pointer (some ⟨bn,0,none⟩)):=by rw[qs2];exact (zaa (by decide)).trans gs1_4
        have gs2_5:s2.tmps.getD 5 undef=(.pointer (some ⟨(B+2),0,none⟩)):=by rw[qs2];exact (zaa (by decide)).trans gs1_5
        have gs2_8:s2.tmps.getD 8 undef=(.int .i64 (p:Nat)):=by rw[qs2];exact (zaa (by decide)).trans gs1_8
        have gs2_20:s2.tmps.getD 20 undef=(.int .i64 (p:Nat)):=by rw[qs2];exact (zaa (by decide)).trans gs1_20
        have gs2_21:s2.tmps.getD 21 undef=(.int .i64 ((p+1:Nat))):=by rw[qs2];exact zae (by rw[zs1];decide)
        change wpListIn (Fw none) 0 Try.prog _ _ _ (s1.put (some 21) (.int .i64 ((p+1:Nat)))) wf
        rw[←qs2]
        refine zaj rfl (zaN (by intro d h;cases h) (asR s2 wf _ (.tmp 21) rfl gs2_21) ?_)
        obtain⟨s3,qs3⟩:∃x,x=s2.put (some 8) (.int .i64 ((p+1:Nat))):=⟨_,rfl⟩
        have zs3:s3.tmps.size=36:=by rw[qs3,zai];exact zs2
        have ds3:s3.defers=[]:=by rw[qs3,zag];exact ds2
        have gs3_0:s3.tmps.getD 0 undef=(.int .i64 (f:Nat)):=by rw[qs3];exact (zaa (by decide)).trans gs2_0
        have gs3_1:s3.tmps.getD 1 undef=(.pointer (some ⟨(B+1),0,none⟩)):=by rw[qs3];exact (zaa (by decide)).trans gs2_1
        have gs3_2:s3.tmps.getD 2 undef=(.pointer (some ⟨bc,0,none⟩)):=by rw[qs3];exact (zaa (by decide)).trans gs2_2
        have gs3_3:s3.tmps.getD 3 undef=(.pointer (some ⟨B,0,none⟩)):=by rw[qs3];exact (zaa (by decide)).trans gs2_3
        have gs3_4:s3.tmps.getD 4 undef=(.pointer (some ⟨bn,0,none⟩)):=by rw[qs3];exact (zaa (by decide)).trans gs2_4
        have gs3_5:s3.tmps.getD 5 undef=(.pointer (some ⟨(B+2),0,none⟩)):=by rw[qs3];exact (zaa (by decide)).trans gs2_5
        have gs3_20:s3.tmps.getD 20 undef=(.int .i64 (p:Nat)):=by rw[qs3];exact (zaa (by decide)).trans gs2_20
        have gs3_21:s3.tmps.getD 21 undef=(.int .i64 ((p+1:Nat))):=by rw[qs3];exact (zaa (by decide)).trans gs2_21
        have gs3_8:s3.tmps.getD 8 undef=(.int .i64 ((p+1:Nat))):=by rw[qs3];exact zae (by rw[zs2];decide)
        change wpListIn (Fw none) 0 Try.prog _ _ _ (s2.put (some 8) (.int .i64 ((p+1:Nat)))) wf
        rw[←qs3]
        have R10:RS s3 f B bc bn:=⟨zs3,ds3,gs3_0,gs3_1,gs3_2,gs3_3,gs3_4,gs3_5⟩
        have h8c:=gs3_8
        refine zaO ?_
        have H4:HC B bc bn yv wf (.slice (some ⟨ls,0,none⟩) xs.length c) xs:=by
          rw[hwf]
          exact⟨(setRow_other we (B+1) B _ (by omega)).trans H3.hy,setRow_heap we (B+1) _ _ 38 (0,0) H3.hl,(setRow_other we (B+1) (B+2) _ (by omega)).trans H3.hm,zki hld3 fun b hb hs=>setRow_other we (B+1) b _ (by omega)⟩
        exact⟨s',Nat.lt_succ_self s',p+1,s',_,by omega,rfl,R10,h8c,H4,hY.below _ _ _ hJ3 (by rw[hwf];exact zec (by omega))⟩
      · refine⟨.bool false,rfl,?_⟩
        obtain⟨of1,qof1⟩:∃x,x=o3.put (some 29) (.bool false):=⟨_,rfl⟩
        have zof1:of1.tmps.size=36:=by rw[qof1,zai];exact zo3
        have dof1:of1.defers=[]:=by rw[qof1,zag];exact do3
        have gof1_0:of1.tmps.getD 0 undef=(.int .i64 (f:Nat)):=by rw[qof1];exact (zaa (by decide)).trans go3_0
        have gof1_1:of1.tmps.getD 1 undef=(.pointer (some ⟨(B+1),0,none⟩)):=by rw[qof1];exact (zaa (by decide)).trans go3_1
        have gof1_2:of1.tmps.getD 2 undef=(.pointer (some ⟨bc,0,none⟩)):=by rw[qof1];exact (zaa (by decide)).trans go3_2
        have gof1_3:of1.tmps.getD 3 undef=(.pointer (some ⟨B,0,none⟩)):=by rw[qof1];exact (zaa (by decide)).trans go3_3
        have gof1_4:of1.tmps.getD 4 undef=(.pointer (some ⟨bn,0,none⟩)):=by rw[qof1];exact (zaa (by decide)).trans go3_4
        have gof1_5:of1.tmps.getD 5 undef=(.pointer (some ⟨(B+2),0,none⟩)):=by rw[qof1];exact (zaa (by decide)).trans go3_5
        have gof1_8:of1.tmps.getD 8 undef=(.int .i64 (p:Nat)):=by rw[qof1];exact (zaa (by decide)).trans go3_8
        have gof1_26:of1.tmps.getD 26 undef=(.func (.func 72) #[] (capt B bc bn)):=by rw[qof1];exact (zaa (by decide)).trans go3_26
        have gof1_27:of1.tmps.getD 27 undef=(.int .i64 (p:Nat)):=by rw[qof1];exact (zaa (by decide)).trans go3_27
        have gof1_28:of1.tmps.getD 28 undef=(.int .i64 ((p:Nat)+(1:Int))):=by rw[qof1];exact (zaa (by decide)).trans go3_28
        have gof1_29:of1.tmps.getD 29 undef=(.bool false):=by rw[qof1];exact zae (by rw[zo3];decide)
        change wpListIn (Fw none) 0 Try.prog _ _ _ (o3.put (some 29) (.bool false)) we
        rw[←qof1]
        refine zaj rfl (zaN (by intro d h;cases h) (ntR of1 we _ (.tmp 29) rfl gof1_29) ?_)
        obtain⟨of2,qof2⟩:∃x,x=of1.put (some 30) (.bool true):=⟨_,rfl⟩
        have zof2:of2.tmps.size=36:=by rw[qof2,zai];exact zof1
        have dof2:of2.defers=[]:=by rw[qof2,zag];exact dof1
        have gof2_0:of2.tmps.getD 0 undef=(.int .i64 (f:Nat)):=by rw[qof2];exact (zaa (by decide)).trans gof1_0
        have gof2_1:of2.tmps.getD 1 undef=(.pointer (some ⟨(B+1),0,none⟩)):=by rw[qof2];exact (zaa (by decide)).trans gof1_1
        have gof2_2:of2.tmps.getD 2 undef=(.pointer (some ⟨bc,0,none⟩)):=by rw[qof2];exact (zaa (by decide)).trans gof1_2
        have gof2_3:of2.tmps.getD 3 undef=(.pointer (some ⟨B,0,none⟩)):=by rw[qof2];exact (zaa (by decide)).trans gof1_3
        have gof2_4:of2.tmps.getD 4 undef=(.pointer (some ⟨bn,0,none⟩)):=by rw[qof2];exact (zaa (by decide)).trans gof1_4
        have gof2_5:of2.tmps.getD 5 undef=(.pointer (some ⟨(B+2),0,none⟩)):=by rw[qof2];exact (zaa (by decide)).trans gof1_5
        have gof2_8:of2.tmps.getD 8 undef=(.int .i64 (p:Nat)):=by rw[qof2];exact (zaa (by decide)).trans gof1_8
        have gof2_26:of2.tmps.getD 26 undef=(.func (.func 72) #[] (capt B bc bn)):=by rw[qof2];exact (zaa (by decide)).trans gof1_26
        have gof2_27:of2.tmps.getD 27 undef=(.int .i64 (p:Nat)):=by rw[qof2];exact (zaa (by decide)).trans gof1_27
        have gof2_28:of2.tmps.getD 28 undef=(.int .i64 ((p:Nat)+(1:Int))):=by rw[qof2];exact (zaa (by decide)).trans gof1_28
        have gof2_29:of2.tmps.getD 29 undef=(.bool false):=by rw[qof2];exact (zaa (by decide)).trans gof1_29
        have gof2_30:of2.tmps.getD 30 undef=(.bool true):=by rw[qof2];exact zae (by rw[zof1];decide)
        change wpListIn (Fw none) 0 Try.prog _ _ _ (of1.put (some 30) (.bool true)) we
        rw[←qof2]
        have R7:RS of2 f B bc bn:=⟨zof2,dof2,gof2_0,gof2_1,gof2_2,gof2_3,gof2_4,gof2_5⟩
        have h8a:=gof2_8
        have h30:=gof2_30
        refine zaO (wpIn_cond_true h30 (wpIn_seq ?_))
        change Code.wpIn (Fw none) 0 Try.prog N8 _ of2 we
        refine wpIn_region_list ?_
        refine zaj rfl (zaN (by intro d h;cases h) (asR of2 we _ (.const (.bool false)) rfl rfl) ?_)
        obtain⟨e1,qe1⟩:∃x,x=of2.put (some 7) (.bool false):=⟨_,rfl⟩
        have ze1:e1.tmps.size=36:=by rw[qe1,zai];exact R7.size
        have de1:e1.defers=[]:=by rw[qe1,zag];exact R7.defers
        have ge1_0:e1.tmps.getD 0 undef=(.int .i64 (f:Nat)):=by rw[qe1];exact (zaa (by decide)).trans R7.s0
        have ge1_1:e1.tmps.getD 1 undef=(.pointer (some ⟨(B+1),0,none⟩)):=by rw[qe1];exact (zaa (by decide)).trans R7.s1
        have ge1_2:e1.tmps.getD 2 undef=(.pointer (some ⟨bc,0,none⟩)):=by rw[qe1];exact (zaa (by decide)).trans R7.s2
        have ge1_3:e1.tmps.getD 3 undef=(.pointer (some ⟨B,0,none⟩)):=by rw[qe1];exact (zaa (by decide)).trans R7.s3
        have ge1_4:e1.tmps.getD 4 undef=(.pointer (some ⟨bn,0,none⟩)):=by rw[qe1];exact (zaa (by decide)).trans R7.s4
        have ge1_5:e1.tmps.getD 5 undef=(.pointer (some ⟨(B+2),0,none⟩)):=by rw[qe1];exact (zaa (by decide)).trans R7.s5
        have ge1_7:e1.tmps.getD 7 undef=(.bool false):=by rw[qe1];exact zae (by rw[R7.size];decide)
        change wpListIn (Fw none) 0 Try.prog _ _ _ (of2.put (some 7) (.bool false)) we
        rw[←qe1]
        refine zaO (wpIn_ret ?_)
        refine (show bodyPost Try.prog Try.f72 (fun e W'=>(e=.returned (.bool true)∧J rest W'∧∃v',HC B bc bn (.func (.yield l) #[] #[]) W' v' xs)∨(e=.returned (.bool false)∧Jx W')) .ret e1 we from ?_)
        exact ret1 de1 ge1_7 (.inr ⟨rfl,hJx⟩)
    · have h19:l3.eval (.tmp 19)=.bool false:=h19.trans (by rw[decide_eq_false (by omega)])
      refine wpIn_cond_false h19 (wpIn_exit ?_)
      change Code.wpIn (Fw none) 0 Try.prog (.seq N10 .ret) _ l3 w
      refine wpIn_seq (wpIn_region_list ?_)
      refine zaj rfl (zaN (by intro d h;cases h) (asR l3 w _ (.const (.bool true)) rfl rfl) ?_)
      obtain⟨x1,qx1⟩:∃x,x=l3.put (some 7) (.bool true):=⟨_,rfl⟩
      have zx1:x1.tmps.size=36:=by rw[qx1,zai];exact R4.size
      have dx1:x1.defers=[]:=by rw[qx1,zag];exact R4.defers
      have gx1_0:x1.tmps.getD 0 undef=(.int .i64 (f:Nat)):=by rw[qx1];exact (zaa (by decide)).trans R4.s0
      have gx1_1:x1.tmps.getD 1 undef=(.pointer (some ⟨(B+1),0,none⟩)):=by rw[qx1];exact (zaa (by decide)).trans R4.s1
      have gx1_2:x1.tmps.getD 2 undef=(.pointer (some ⟨bc,0,none⟩)):=by rw[qx1];exact (zaa (by decide)).trans R4.s2
      have gx1_3:x1.tmps.getD 3 undef=(.pointer (some ⟨B,0,none⟩)):=by rw[qx1];exact (zaa (by decide)).trans R4.s3
      have gx1_4:x1.tmps.getD 4 undef=(.pointer (some ⟨bn,0,none⟩)):=by rw[qx1];exact (zaa (by decide)).trans R4.s4
      have gx1_5:x1.tmps.getD 5 undef=(.pointer (some ⟨(B+2),0,none⟩)):=by rw[qx1];exact (zaa (by decide)).trans R4.s5
      have gx1_7:x1.tmps.getD 7 undef=(.bool true):=by rw[qx1];exact zae (by rw[R4.size];decide)
      change wpListIn (Fw none) 0 Try.prog _ _ _ (l3.put (some 7) (.bool true)) w
      rw[←qx1]
      refine zaO (wpIn_ret ?_)
      refine (show bodyPost Try.prog Try.f72 (fun e W'=>(e=.returned (.bool true)∧J rest W'∧∃v',HC B bc bn (.func (.yield l) #[] #[]) W' v' xs)∨(e=.returned (.bool false)∧Jx W')) .ret x1 w from ?_)
      refine ret1 dx1 gx1_7 (.inl ⟨rfl,?_,v,by rw[←hyv];exact H⟩)
      have e:s=0:=by omega
      subst e
      simpa [zbU] using hJ
theorem znm:Try.prog.info? 114=some Try.t114:=by kernel_rfl
theorem zqi:Try.t114.size=1:=by kernel_rfl
theorem zp8:Try.t114.zero=some .nilFunc:=by kernel_rfl
theorem zqM:Try.prog.info? 133=some Try.t133:=by kernel_rfl
theorem zqh:Try.t133.size=1:=by kernel_rfl
theorem ztU (a:Act) (w:World) (o:Oper) (x:Operand) (ho:o.op=.box 133 x) {fn:Fn} {p q:Array Value} (hx:a.eval x=.func fn p q):(execOp a.eval o).run Try.prog w=.ok (.value (.pointer (some ⟨w.heap.size,0,none⟩))) (w.alloc (.cells #[.func fn p q] 133 (0,0))):=by
  simp[execOp,ho,hx,Instr.box,sizeOf,typeInfo,zqM,zqh,newVar,zp7,newRow,Value.cells]
theorem al76 (a:Act) (w:World) (o:Oper) (ho:o.op=.alloc 38):(execOp a.eval o).run Try.prog w=.ok (.value (.pointer (some ⟨w.heap.size,0,none⟩))) (w.alloc (.cells #[.slice none 0 0] 38 (0,0))):=by
  have hz:=zcm zmA w
  simp[execOp,ho,hz,newRow,Value.cells]
  try rfl
theorem ztV (a:Act) (w:World) (o:Oper) (ho:o.op=.alloc 114):(execOp a.eval o).run Try.prog w=.ok (.value (.pointer (some ⟨w.heap.size,0,none⟩))) (w.alloc (.cells #[.nilFunc] 114 (0,0))):=by
  simp[execOp,ho,Instr.alloc,newRow,Value.cells,zeroValue,typeInfo,znm,zp8,newVar,zn8]
theorem mfR (a:Act) (w:World) (o:Oper) (ho:o.op=.makeFunc (.func 72) #[] #[.tmp 4,.tmp 1,.tmp 3,.tmp 2,.tmp 5]) {v1 v2 v3 v4 v5:Value} (h4:a.eval (.tmp 4)=v1) (h1:a.eval (.tmp 1)=v2) (h3:a.eval (.tmp 3)=v3) (h2:a.eval (.tmp 2)=v4) (h5:a.eval (.tmp 5)=v5) :
    (execOp a.eval o).run Try.prog w=.ok (.value (.func (.func 72) #[] #[v1,v2,v3,v4,v5])) w:=by
  simp[execOp,ho,h1,h2,h3,h4,h5,Instr.makeFunc]
theorem zsX (a:Act) (w:World) (o:Oper) (x y:Operand) (ho:o.op=.store 114 x y) {b el:Nat} {u:Value} {fn:Fn} {p q:Array Value} (hx:a.eval x=.pointer (some ⟨b,0,none⟩)) (hy:a.eval y=.func fn p q) (hb:w.heap[b]?=some (.cells #[u] el (0,0))) :
    (execOp a.eval o).run Try.prog w=.ok .skip (w.setRow b #[.func fn p q]):=by
  have h1:=run_storeCells_at Try.prog b 0 el [.func fn p q] 0 #[u] w hb (by simp) (by simp[Value.oneCell'])
  have hst:(storeVar 114 ⟨b,0,none⟩ (.func fn p q)).run Try.prog w=.ok () (w.setRow b #[.func fn p q]):=by
    simp only[storeVar,Value.cells]
    simp[sizeOf,typeInfo,znm,zqi]
    rw[h1];simp
  simp[execOp,ho,hx,hy,Instr.storeAt,Instr.sureAddr,hst]
noncomputable def b178:Code:=zeo Try.f71
noncomputable def C0:Code:=match b178 with | .seq x _=>x|c=>c
noncomputable def C1:Code:=match b178 with | .seq _ (.seq x _)=>x|c=>c
noncomputable def C2:Code:=match b178 with | .seq _ (.seq _ (.seq x _))=>x|c=>c
noncomputable def C3:Code:=match b178 with | .seq _ (.seq _ (.seq _ (.seq x _)))=>x|c=>c
noncomputable def C4:Code:=match b178 with | .seq _ (.seq _ (.seq _ (.seq _ x)))=>x|c=>c
theorem zq2:(Try.f71.body:Option Code)=some (.seq C0 (.seq C1 (.seq C2 (.seq C3 C4)))):=rfl
theorem zqL {n:Nat} (hn:n=9) {x0 x1 x2:Value} {a0:Act} (ha:a0 = {tmps:=(#[x0] ++ #[x1,x2])++Array.replicate (n - (#[x0] ++ #[x1,x2]).size) undef,defers:=[]}):a0.tmps.size=9∧a0.defers=[]∧a0.tmps.getD 0 undef=x0∧a0.tmps.getD 1 undef=x1∧a0.tmps.getD 2 undef=x2:=by
  subst hn
  have e:(#[x0] ++ #[x1,x2])++Array.replicate (9 - (#[x0] ++ #[x1,x2]).size) undef = #[x0,x1,x2]++Array.replicate 6 undef:=rfl
  rw[e] at ha
  rw[ha]
  refine⟨by simp,rfl,?_,?_,?_⟩<;>simp
theorem zdq {w:World} {o:Obj} {B:Nat} (h:B=w.heap.size):(w.alloc o).heap[B]?=some o:=by
  subst h;show (w.heap.push o)[w.heap.size]?=_;simp
theorem zcp {w:World} {o p:Obj} {b:Nat} (h:w.heap[b]?=some p):(w.alloc o).heap[b]?=some p:=by
  show (w.heap.push o)[b]?=_
  rw[Array.getElem?_push,if_neg (Nat.ne_of_lt (zah h))];exact h
theorem zcK {w:World} {o:Obj}:(w.alloc o).heap.size=w.heap.size+1:=by
  show (w.heap.push o).size=_
  rw[Array.size_push]
theorem zlP {l B bc bn count numbers:Nat} {J:List (List Int)→World→Prop} {Jx:World→Prop} (hY:Yld l B bc bn count numbers J Jx) (hcn:count≤100∧0<count) (hnn:numbers≤100) (hbc:bc<B∧bn<B) (W:World) (hB:B=W.heap.size) (hJ:J (zbU count 0 numbers) W) :
    CallsIn (Fw none) 0 Try.prog 71 (#[Value.func (.yield l) #[] #[]] ++ #[Value.pointer (some ⟨bc,0,none⟩),Value.pointer (some ⟨bn,0,none⟩)]) W fun e W'=>(∃v,e=.returned v)∧(J [] W'∨Jx W'):=by
  refine callsIn_of_wp (F:=Fw none) (n:=0) (fn:=Try.f71) Try.func71 zq2 trivial ?_
  obtain⟨a0,ha0⟩:∃a0:Act,a0 = {tmps:=(#[Value.func (.yield l) #[] #[]] ++ #[Value.pointer (some ⟨bc,0,none⟩),Value.pointer (some ⟨bn,0,none⟩)])++Array.replicate (Try.f71.ntmps - (#[Value.func (.yield l) #[] #[]] ++ #[Value.pointer (some ⟨bc,0,none⟩),Value.pointer (some ⟨bn,0,none⟩)]).size) undef,defers:=[]}:=⟨_,rfl⟩
  rw[←ha0]
  obtain⟨za0,da0,g0,g1,g2⟩:=zqL rfl ha0
  clear ha0
  refine wpIn_seq (wpIn_region_list ?_)
  obtain⟨W1,hW1⟩:∃x,x=W.alloc (.cells #[.func (.yield l) #[] #[]] 133 (0,0)):=⟨_,rfl⟩
  refine zaj rfl (zoH (by intro d h;cases h) (ztU a0 W _ (.tmp 0) rfl g0) ?_)
  rw[←hW1]
  obtain⟨a1,qa1⟩:∃x,x=a0.put (some 3) (.pointer (some ⟨W.heap.size,0,none⟩)):=⟨_,rfl⟩
  have za1:a1.tmps.size=9:=by rw[qa1,zai];exact za0
  have da1:a1.defers=[]:=by rw[qa1,zag];exact da0
  have ga1_0:a1.tmps.getD 0 undef=(.func (.yield l) #[] #[]):=by rw[qa1];exact (zaa (by decide)).trans g0
  have ga1_1:a1.tmps.getD 1 undef=(.pointer (some ⟨bc,0,none⟩)):=by rw[qa1];exact (zaa (by decide)).trans g1
  have ga1_2:a1.tmps.getD 2 undef=(.pointer (some ⟨bn,0,none⟩)):=by rw[qa1];exact (zaa (by decide)).trans g2
  have ga1_3:a1.tmps.getD 3 undef=(.pointer (some ⟨W.heap.size,0,none⟩)):=by rw[qa1];exact zae (by rw[za0];decide)
  change wpListIn (Fw none) 0 Try.prog _ _ _ (a0.put (some 3) (.pointer (some ⟨W.heap.size,0,none⟩))) W1
  rw[←qa1]
  have eW1:W.heap.size=B:=by exact hB.symm
  rw[eW1] at ga1_3
  refine zaO (wpIn_seq (wpIn_region_list ?_))
  obtain⟨W2,hW2⟩:∃x,x=W1.alloc (.cells #[.slice none 0 0] 38 (0,0)):=⟨_,rfl⟩
  refine zaj rfl (zoH (by intro d h;cases h) (al76 a1 W1 _ rfl) ?_)
  rw[←hW2]
  obtain⟨a2,qa2⟩:∃x,x=a1.put (some 4) (.pointer (some ⟨W1.heap.size,0,none⟩)):=⟨_,rfl⟩
  have za2:a2.tmps.size=9:=by rw[qa2,zai];exact za1
  have da2:a2.defers=[]:=by rw[qa2,zag];exact da1
  have ga2_0:a2.tmps.getD 0 undef=(.func (.yield l) #[] #[]):=by rw[qa2];exact (zaa (by decide)).trans ga1_0
  have ga2_1:a2.tmps.getD 1 undef=(.pointer (some ⟨bc,0,none⟩)):=by rw[qa2];exact (zaa (by decide)).trans ga1_1
  have ga2_2:a2.tmps.getD 2 undef=(.pointer (some ⟨bn,0,none⟩)):=by rw[qa2];exact (zaa (by decide)).trans ga1_2
  have ga2_3:a2.tmps.getD 3 undef=(.pointer (some ⟨B,0,none⟩)):=by rw[qa2];exact (zaa (by decide)).trans ga1_3
  have ga2_4:a2.tmps.getD 4 undef=(.pointer (some ⟨W1.heap.size,0,none⟩)):=by rw[qa2];exact zae (by rw[za1];decide)
  change wpListIn (Fw none) 0 Try.prog _ _ _ (a1.put (some 4) (.pointer (some ⟨W1.heap.size,0,none⟩))) W2
  rw[←qa2]
  have eW2:W1.heap.size=(B+1):=by rw[hW1,zcK,eW1]
  rw[eW2] at ga2_4
  refine zaO (wpIn_seq (wpIn_region_list ?_))
  obtain⟨W3,hW3⟩:∃x,x=W2.alloc (.cells #[.nilFunc] 114 (0,0)):=⟨_,rfl⟩
  refine zaj rfl (zoH (by intro d h;cases h) (ztV a2 W2 _ rfl) ?_)
  rw[←hW3]
  obtain⟨a3,qa3⟩:∃x,x=a2.put (some 5) (.pointer (some ⟨W2.heap.size,0,none⟩)):=⟨_,rfl⟩
  have za3:a3.tmps.size=9:=by rw[qa3,zai];exact za2
  have da3:a3.defers=[]:=by rw[qa3,zag];exact da2
  have ga3_0:a3.tmps.getD 0 undef=(.func (.yield l) #[] #[]):=by rw[qa3];exact (zaa (by decide)).trans ga2_0
  have ga3_1:a3.tmps.getD 1 undef=(.pointer (some ⟨bc,0,none⟩)):=by rw[qa3];exact (zaa (by decide)).trans ga2_1
  have ga3_2:a3.tmps.getD 2 undef=(.pointer (some ⟨bn,0,none⟩)):=by rw[qa3];exact (zaa (by decide)).trans ga2_2
  have ga3_3:a3.tmps.getD 3 undef=(.pointer (some ⟨B,0,none⟩)):=by rw[qa3];exact (zaa (by decide)).trans ga2_3
  have ga3_4:a3.tmps.getD 4 undef=(.pointer (some ⟨(B+1),0,none⟩)):=by rw[qa3];exact (zaa (by decide)).trans ga2_4
  have ga3_5:a3.tmps.getD 5 undef=(.pointer (some ⟨W2.heap.size,0,none⟩)):=by rw[qa3];exact zae (by rw[za2];decide)
  change wpListIn (Fw none) 0 Try.prog _ _ _ (a2.put (some 5) (.pointer (some ⟨W2.heap.size,0,none⟩))) W3
  rw[←qa3]
  have eW3:W2.heap.size=(B+2):=by rw[hW2,zcK,eW2]
  rw[eW3] at ga3_5
  refine zaO (wpIn_seq (wpIn_region_list ?_))
  refine zaj rfl (zaN (by intro d h;cases h) (mfR a3 W3 _ rfl ga3_4 ga3_1 ga3_3 ga3_2 ga3_5) ?_)
  obtain⟨a4,qa4⟩:∃x,x=a3.put (some 6) (.func (.func 72) #[] (capt B bc bn)):=⟨_,rfl⟩
  have za4:a4.tmps.size=9:=by rw[qa4,zai];exact za3
  have da4:a4.defers=[]:=by rw[qa4,zag];exact da3
  have ga4_0:a4.tmps.getD 0 undef=(.func (.yield l) #[] #[]):=by rw[qa4];exact (zaa (by decide)).trans ga3_0
  have ga4_1:a4.tmps.getD 1 undef=(.pointer (some ⟨bc,0,none⟩)):=by rw[qa4];exact (zaa (by decide)).trans ga3_1
  have ga4_2:a4.tmps.getD 2 undef=(.pointer (some ⟨bn,0,none⟩)):=by rw[qa4];exact (zaa (by decide)).trans ga3_2
  have ga4_3:a4.tmps.getD 3 undef=(.pointer (some ⟨B,0,none⟩)):=by rw[qa4];exact (zaa (by decide)).trans ga3_3
  have ga4_4:a4.tmps.getD 4 undef=(.pointer (some ⟨(B+1),0,none⟩)):=by rw[qa4];exact (zaa (by decide)).trans ga3_4
  have ga4_5:a4.tmps.getD 5 undef=(.pointer (some ⟨(B+2),0,none⟩)):=by rw[qa4];exact (zaa (by decide)).trans ga3_5
  have ga4_6:a4.tmps.getD 6 undef=(.func (.func 72) #[] (capt B bc bn)):=by rw[qa4];exact zae (by rw[za3];decide)
  change wpListIn (Fw none) 0 Try.prog _ _ _ (a3.put (some 6) (.func (.func 72) #[] (capt B bc bn))) W3
  rw[←qa4]
  have x1:W1.heap[B]?=some (.cells #[.func (.yield l) #[] #[]] 133 (0,0)):=by rw[hW1];exact zdq eW1.symm
  have x2:W2.heap[B+1]?=some (.cells #[.slice none 0 0] 38 (0,0)):=by rw[hW2];exact zdq eW2.symm
  have x3:W3.heap[B+2]?=some (.cells #[.nilFunc] 114 (0,0)):=by rw[hW3];exact zdq eW3.symm
  have x13:W3.heap[B]?=some (.cells #[.func (.yield l) #[] #[]] 133 (0,0)):=by rw[hW3];exact zcp (by rw[hW2];exact zcp x1)
  have x23:W3.heap[B+1]?=some (.cells #[.slice none 0 0] 38 (0,0)):=by rw[hW3];exact zcp x2
  refine zaj rfl (zih (by intro d h;cases h) (zsX a4 W3 _ (.tmp 5) (.tmp 6) rfl ga4_5 ga4_6 x3) ?_)
  obtain⟨W4,hW4⟩:∃x,x=W3.setRow (B+2) #[.func (.func 72) #[] (capt B bc bn)]:=⟨_,rfl⟩
  change wpListIn (Fw none) 0 Try.prog _ _ _ a4 (W3.setRow (B+2) #[.func (.func 72) #[] (capt B bc bn)])
  rw[←hW4]
  have H:HC B bc bn (.func (.yield l) #[] #[]) W4 (.slice none 0 0) []:=by
    rw[hW4]
    exact⟨(setRow_other W3 (B+2) B _ (by omega)).trans x13,(setRow_other W3 (B+2) (B+1) _ (by omega)).trans x23,setRow_heap W3 (B+2) _ _ 114 (0,0) x3,.inl ⟨rfl,rfl⟩⟩
  have hbel:Bel B W W4:=by
    rw[hW4,hW3,hW2,hW1]
    exact ((ze5.trans ze5).trans ze5).trans (zec (by omega))
  have hJ4:J ((zbU count 0 numbers).map ([] ++ ·)++[]) W4:=by simpa using hY.below _ _ _ hJ hbel
  refine zaO ?_
  change Code.wpIn (Fw none) 0 Try.prog C4 _ a4 W4
  refine wpIn_region_list ?_
  refine zaj rfl (zaN (by intro d h;cases h) (ldF zn8 a4 W4 _ (.tmp 5) rfl ga4_5 H.hm rfl) ?_)
  obtain⟨a5,qa5⟩:∃x,x=a4.put (some 7) (.func (.func 72) #[] (capt B bc bn)):=⟨_,rfl⟩
  have za5:a5.tmps.size=9:=by rw[qa5,zai];exact za4
  have da5:a5.defers=[]:=by rw[qa5,zag];exact da4
  have ga5_0:a5.tmps.getD 0 undef=(.func (.yield l) #[] #[]):=by rw[qa5];exact (zaa (by decide)).trans ga4_0
  have ga5_1:a5.tmps.getD 1 undef=(.pointer (some ⟨bc,0,none⟩)):=by rw[qa5];exact (zaa (by decide)).trans ga4_1
  have ga5_2:a5.tmps.getD 2 undef=(.pointer (some ⟨bn,0,none⟩)):=by rw[qa5];exact (zaa (by decide)).trans ga4_2
  have ga5_3:a5.tmps.getD 3 undef=(.pointer (some ⟨B,0,none⟩)):=by rw[qa5];exact (zaa (by decide)).trans ga4_3
  have ga5_4:a5.tmps.getD 4 undef=(.pointer (some ⟨(B+1),0,none⟩)):=by rw[qa5];exact (zaa (by decide)).trans ga4_4
  have ga5_5:a5.tmps.getD 5 undef=(.pointer (some ⟨(B+2),0,none⟩)):=by rw[qa5];exact (zaa (by decide)).trans ga4_5
  have ga5_6:a5.tmps.getD 6 undef=(.func (.func 72) #[] (capt B bc bn)):=by rw[qa5];exact (zaa (by decide)).trans ga4_6
  have ga5_7:a5.tmps.getD 7 undef=(.func (.func 72) #[] (capt B bc bn)):=by rw[qa5];exact zae (by rw[za4];decide)
  change wpListIn (Fw none) 0 Try.prog _ _ _ (a4.put (some 7) (.func (.func 72) #[] (capt B bc bn))) W4
  rw[←qa5]
  have hc:=zqy hY hcn hnn hbc count 0 numbers [] [] W4 (.slice none 0 0) (by rw[List.length_nil];omega) (by omega) H hJ4
  obtain⟨args,hargs⟩:∃x,x=(#[.int .i64 ((0:Nat):Int)]++capt B bc bn:Array Value):=⟨_,rfl⟩
  rw[←hargs] at hc
  refine zaj rfl ?_
  refine zhr (f:=72) (args:=args) ?_ ?_ (hc.mono ?_)
  · intro d h;cases h
  · obtain⟨fn,e1,e2,e3⟩:zda Try.prog 72:=⟨Try.f72,Try.func72,by kernel_rfl,by kernel_rfl⟩
    have e2':¬fn.name = "runtime.NumGoroutine" := by simpa using e2
    have e3':¬fn.body=none:=by intro hn;rw[hn] at e3;cases e3
    rw[hargs]
    have evc:∀(a:Act) (v:Value),a.eval (.const v)=v:=fun a v=>rfl
    simp[execOp,resolve,Deferred.ofValue,ev,evc,ga5_7,invoke,callFunc,e1,e2',e3',capt]
  have fin:∀(v:Value) (W':World),(J [] W'∨Jx W')→bodyPost Try.prog Try.f71 (fun e W'=>(∃v,e=.returned v)∧(J [] W'∨Jx W')) .normal (a5.put (some 8) v) W':=by
    intro v W' h
    refine⟨by rw[zag];exact da5,.tuple #[],zdg (P:=Try.prog) (fn:=Try.f71) (vs:=[]) rfl,⟨_,rfl⟩,h⟩
  rintro e we (⟨rfl,hJ3,_⟩|⟨rfl,hJx⟩)
  · exact⟨.bool true,rfl,zaO (fin _ _ (.inl hJ3))⟩
  · exact⟨.bool false,rfl,zaO (fin _ _ (.inr hJx))⟩
theorem zjG (c n:Int) (w:World):Calls Try.prog 63 #[.int .i64 c,.int .i64 n] w fun e w'=>e=.returned (.func (.func 71) #[] #[.pointer (some ⟨w.heap.size,0,none⟩),.pointer (some ⟨w.heap.size+1,0,none⟩)])∧w'=(w.alloc (.cells #[.int .i64 c] 3 (0,0))).alloc (.cells #[.int .i64 n] 3 (0,0)):=by
  have zed:=zed
  have t3:=Try.underlying3
  have hn:Try.f63.ntmps=6:=rfl
  go_enter Try.func63,hn
  go_wp2
  go_ret
  exact⟨rfl,rfl⟩
def zfW (b:List BndD):List (List Int)→Option zck
  | []=>none
  | c::r=>if (atR b c).2.1=true then some (atR b c).1 else zfW b r
def zjL (b:List BndD) (n:Nat):Option zck:=zfW b (zbU (n+1) 0 b.length)
noncomputable def b143:Code:=zeo Try.f46
noncomputable def B0:Code:=match b143 with | .seq x _=>x|c=>c
noncomputable def B1:Code:=match b143 with | .seq _ (.seq (.seq x _) _)=>x|c=>c
noncomputable def B2:Code:=match b143 with | .seq _ (.seq (.seq _ (.block _ (.rangeFunc _ _ x _))) _)=>x|c=>c
noncomputable def BB:Code:=match b143 with | .seq _ (.seq (.seq _ (.block _ (.rangeFunc _ _ _ x))) _)=>x|c=>c
noncomputable def BT:Code:=match b143 with | .seq _ (.seq _ x)=>x|c=>c
noncomputable def zkf:List Oper:=match B1 with | .region _ x _=>x.toList | _=>[]
theorem zq3:(Try.f46.body:Option Code)=some (.seq B0 (.seq (.seq B1 (.block 0 (.rangeFunc (.tmp 12) #[13] B2 BB))) BT)):=rfl
abbrev cAt:List (Nat×Spec):=[(64,sAt)]
theorem zsK:All cAt:=⟨h164,trivial⟩
@[reducible] def cfB:Cfg:=cfg {} cAt 23
theorem zlT:CfgOk Try.prog OB cfB:=znW (X:={}) trivial zsK
abbrev zhj:Type:=ziP.Den
@[reducible] def zj4:Spec:={pats:=[.dat ziP],res:=[{t:=zkF}],pre:=fun x=>∃n:Nat,x.1.2.1=(n:Int)∧n≤3∧(zjL x.1.2.2.1 n).isSome=true∧(List.length (α:=BndD) x.1.2.2.1≤100)∧∀c∈zbU (n+1) 0 (List.length (α:=BndD) x.1.2.2.1),goodA x.1.2.2.1 c,f:=fun x=>((zjL x.1.2.2.1 x.1.2.1.toNat).getD zfV,())}
@[reducible] def stB0 (p:zhj):St:=[.slot 1 (.one (.p 1 0)),.cell 1 0 (.d I64 p.1),.cell 1 1 (.d I64 p.2.1),.cell 1 2 (.d (.sl zhY) p.2.2.1),.slot 2 (.one (.p 2 0)),.cell 2 0 (.v (.slice none 0 0)),.cell 2 1 (.d I64 0),.cell 2 2 (.v (.slice none 0 0)),.cell 2 3 (.d I64 0)]
theorem vB0 (p:zhj):vc cfB (par cfB) [] B0 0 [.slot 0 (.one (.d ziP p))] (fun e st=>match e with | .normal=>Goal (∃_:Unit,ent st (stB0 p)∧True) | .ret=>False | _=>False):=by
  repeat' (intro hzz;(try (rename Two=>hq;cases hq));(try dsimp only at hzz);(try simp only[zad,zac,eqD,inR,big,zab,zB] at hzz);(try (revert hzz;intro _)))
  all_goals try (rename Unit=>hq;clear hq)
  all_goals try ((with_reducible refine Held.mk ?_);(with_reducible (first|refine Frz.mk ?_|refine And.intro (Frz.mk ?_) ?_|refine And.intro ?_ (Frz.mk ?_)));repeat' first|exact True.intro|(change _=_;with_reducible rfl)|refine And.intro ?_ ?_|(with_reducible refine Frz.mk ?_))
  all_goals try (refine Held.mk ?_;(try dsimp only at *);(try simp only[zad,zac,eqD,inR,big,zab,zB] at *))
  all_goals try omega
  ·
    refine zaq.mk ?_
    refine Exists.intro () ?_
    refine And.intro (Leaf.mk ?_) ?_
    · repeat' first|exact True.intro|refine And.intro ?_ ?_
      all_goals try ((change _=_<;>try dsimp only)<;>try with_reducible rfl)
      all_goals try omega
      all_goals (rfl)
    trivial
theorem vB1 (p:zhj) (n:Nat) (hn:p.2.1=(n:Int)) (hn3:n≤3):zdD cfB zkf.toArray (zkf.take 6) (stB0 p) (fun st=>Goal (∃_:Unit,ent st (sI 8 ((n+1:Nat):Int)::sI 11 ((List.length (α:=BndD) p.2.2.1:Nat):Int)::stB0 p)∧True)):=by
  have e:p.2.1+1=((n+1:Nat):Int):=by rw[hn];rfl
  repeat' (intro hzz;(try (rename Two=>hq;cases hq));(try dsimp only at hzz);(try simp only[zad,zac,eqD,inR,big,zab,zB] at hzz);(try (revert hzz;intro _)))
  all_goals try (rename Unit=>hq;clear hq)
  all_goals try ((with_reducible refine Held.mk ?_);(with_reducible (first|refine Frz.mk ?_|refine And.intro (Frz.mk ?_) ?_|refine And.intro ?_ (Frz.mk ?_)));repeat' first|exact True.intro|(change _=_;with_reducible rfl)|refine And.intro ?_ ?_|(with_reducible refine Frz.mk ?_))
  all_goals try (refine Held.mk ?_;(try dsimp only at *);(try simp only[zad,zac,eqD,inR,big,zab,zB] at *))
  · have hn:p.2.1=(n:Int):=hn
    rw[hn];omega
  ·
    refine zaq.mk ?_
    refine Exists.intro () ?_
    refine And.intro (Leaf.mk ?_) ?_
    · repeat' first|exact True.intro|refine And.intro ?_ ?_
      all_goals try ((change _=_<;>try dsimp only)<;>try with_reducible rfl)
      all_goals try omega
      all_goals (first|rfl|exact e)
    trivial
@[reducible] def stR (p:zhj) (c:List Int):St:=[.slot 1 (.one (.pd ziP p)),.slot 3 (.one (.d (.sl I64) c)),.slot 2 (.one (.p 2 0)),.cell 2 0 .u,.cell 2 1 .u,.cell 2 2 .u,.cell 2 3 .u]
@[reducible] def stC (x:zck):St:=[.slot 2 (.one (.p 2 0)),.cell 2 0 (.d (.sl I64) x.1),.cell 2 1 (.d I64 x.2.1),.cell 2 2 (.d (.sl I64) x.2.2.1),.cell 2 3 (.d I64 x.2.2.2.1)]
@[reducible] def stUp:St:=[.slot 2 (.one (.p 2 0)),.cell 2 0 .u,.cell 2 1 .u,.cell 2 2 .u,.cell 2 3 .u]
theorem vBB (p:zhj) (c:List Int) (hg:goodA p.2.2.1 c):vc cfB (par cfB) [] BB 0 (stR p c) (fun e st=>match e with | .normal=>Goal (∃_:Unit,ent st stUp∧(atR p.2.2.1 c).2.1=false) | .ret=>Goal (∃_:Unit,ent st (stC (atR p.2.2.1 c).1)∧(atR p.2.2.1 c).2.1=true) | _=>False):=by
  repeat' (intro hzz;(try (rename Two=>hq;cases hq));(try dsimp only at hzz);(try simp only[zad,zac,eqD,inR,big,zab,zB] at hzz);(try (revert hzz;intro _)))
  all_goals try (rename Unit=>hq;clear hq)
  all_goals try ((with_reducible refine Held.mk ?_);(with_reducible (first|refine Frz.mk ?_|refine And.intro (Frz.mk ?_) ?_|refine And.intro ?_ (Frz.mk ?_)));repeat' first|exact True.intro|(change _=_;with_reducible rfl)|refine And.intro ?_ ?_|(with_reducible refine Frz.mk ?_))
  all_goals try (refine Held.mk ?_;(try dsimp only at *);(try simp only[zad,zac,eqD,inR,big,zab,zB] at *))
  · exact hg
  · rename_i h
    refine zaq.mk ?_
    refine Exists.intro () ?_
    refine And.intro (Leaf.mk ?_) ?_
    · repeat' first|exact True.intro|refine And.intro ?_ ?_
      all_goals try ((change _=_<;>try dsimp only)<;>try with_reducible rfl)
      all_goals try omega
      all_goals (rfl)
    exact h
  · rename_i h
    refine zaq.mk ?_
    refine Exists.intro () ?_
    refine And.intro (Leaf.mk ?_) ?_
    · repeat' first|exact True.intro|refine And.intro ?_ ?_
      all_goals try ((change _=_<;>try dsimp only)<;>try with_reducible rfl)
      all_goals try omega
      all_goals (rfl)
    exact h
theorem zmE {E:Env} {nt:Nat} {st:St} {a:Act} {w:World} {t:Nat} {s:SV} (hR:RelS E nt st a w) (h:Fact.slot t s∈st) (ht:t<1000000):∃η,(∀f∈st,Fact.holds E η a w f)∧zam (vw E η w) η s (a.tmps.getD t undef):=by
  obtain⟨η,g,H⟩:=hR
  have h1:=H _ h
  simp only[Fact.holds] at h1
  rw[zbh ht] at h1
  exact⟨η,H,h1⟩
structure RawB (M:Nat→Prop) (w:World) (p:zhj) (b1 b2:Nat) (cur1:Array Value) (e1:Nat) (f1:Nat×Nat) (cur2:Array Value) (V:View):Prop where
  h1:w.heap[b1]?=some (.cells cur1 e1 f1)
  h2:∃e2,w.heap[b2]?=some (.cells cur2 e2 (0,0))
  v1:¬M b1
  n12:b1≠b2
  z1:3≤cur1.size
  rep:Rep V ziP p (cur1.toList.take 3)
  hV:∀b c,V b c→¬M b∧b≠b2∧∃el f,w.heap[b]?=some (.cells c el f)
  one:∀j,j<4→∃v,cur2[j]?=some v∧v.oneCell'=true
theorem ztp {M:Nat→Prop} {bs:List Nat} {w0 w:World} {a:Act} {p:zhj} {st:St} (hR:RelS (EH M bs w0 true) 23 (st++stB0 p) a w):∃b1 b2 cur1 e1 f1 cur2 V,RawB M w p b1 b2 cur1 e1 f1 cur2 V∧a.tmps.getD 1 undef=.pointer (some ⟨b1,0,none⟩)∧a.tmps.getD 2 undef=.pointer (some ⟨b2,0,none⟩)∧w0.heap.size≤b2:=by
  obtain⟨η,g,H⟩:=hR
  have m:∀f,f∈stB0 p→f∈st++stB0 p:=fun f h=>List.mem_append.2 (.inr h)
  have s1:=H (.slot 1 (.one (.p 1 0))) (m _ (by simp))
  have s2:=H (.slot 2 (.one (.p 2 0))) (m _ (by simp))
  have k10:=H (.cell 1 0 (.d I64 p.1)) (m _ (by simp))
  have k11:=H (.cell 1 1 (.d I64 p.2.1)) (m _ (by simp))
  have k12:=H (.cell 1 2 (.d (.sl zhY) p.2.2.1)) (m _ (by simp))
  have k20:=H (.cell 2 0 (.v (.slice none 0 0))) (m _ (by simp))
  have k21:=H (.cell 2 1 (.d I64 0)) (m _ (by simp))
  have k22:=H (.cell 2 2 (.v (.slice none 0 0))) (m _ (by simp))
  have k23:=H (.cell 2 3 (.d I64 0)) (m _ (by simp))
  simp only[Fact.holds,zam,zaF] at s1 s2 k10 k11 k12 k20 k21 k22 k23
  rw[zbh (by decide)] at s1 s2
  obtain⟨b1,c1,y1,s1⟩:=s1
  obtain⟨b2,c2,y2,s2⟩:=s2
  obtain⟨q1,q2,cur1,e1,v10,l1,q3,h1,g10,o10,r10⟩:=k10
  rw[y1] at q3;cases q3
  obtain⟨q1,q2,cur1',e1',v11,_,q3,h1',g11,o11,r11⟩:=k11
  rw[y1] at q3;cases q3
  rw[h1] at h1';cases h1'
  obtain⟨q1,q2,cur1',e1',v12,_,q3,h1',g12,o12,r12⟩:=k12
  rw[y1] at q3;cases q3
  rw[h1] at h1';cases h1'
  obtain⟨q1,q2,cur2,e2,v20,l2,q3,h2,g20,o20,_⟩:=k20
  rw[y2] at q3;cases q3
  obtain⟨q1,q2,cur2',e2',v21,_,q3,h2',g21,o21,_⟩:=k21
  rw[y2] at q3;cases q3
  rw[h2] at h2';cases h2'
  obtain⟨q1,q2,cur2',e2',v22,_,q3,h2',g22,o22,_⟩:=k22
  rw[y2] at q3;cases q3
  rw[h2] at h2';cases h2'
  obtain⟨q1,q2,cur2',e2',v23,_,q3,h2',g23,o23,_⟩:=k23
  rw[y2] at q3;cases q3
  rw[h2] at h2';cases h2'
  have hlow:∀b,(EH M bs w0 true).low b→w0.heap.size≤b:=fun b h=>h.elim id (fun h=>h.elim)
  have hne:b1≠b2:=fun e=>by
    subst e
    have:=g.inj _ _ _ _ _ y1 y2
    cases this
  have hM:∀b,M b→¬w0.heap.size≤b:=fun b hb h=>g.old b hb (.inl h)
  have hsz:3≤cur1.size:=by
    have:=(Array.getElem?_eq_some_iff.1 g12).1;omega
  have e10:v10=.int .i64 p.1:=zh0 r10
  have e11:v11=.int .i64 p.2.1:=zh0 r11
  refine⟨b1,b2,cur1,e1,(0,0),cur2,vw (EH M bs w0 true) η w,⟨h1,⟨e2,h2⟩,fun h=>hM b1 h (hlow b1 l1),hne,hsz,?_,?_,?_⟩,s1,s2,hlow b2 l2⟩
  · obtain ⟨l,hl,⟨hf,_⟩|⟨_,hv⟩⟩:=r12
    · cases hf
    subst hv
    have ht:cur1.toList.take 3=[v10,v11,v12]:=by
      have hl3:(cur1.toList.take 3).length=3:=by rw[List.length_take];simp;omega
      obtain⟨x,y,z,h3⟩:=len3 hl3
      have f:∀j,j<3→(cur1.toList.take 3)[j]?=cur1[j]?:=fun j hj=>by simp[List.getElem?_take,hj]
      have f0:=f 0 (by decide);have f1:=f 1 (by decide);have f2:=f 2 (by decide)
      rw[h3,g10] at f0;rw[h3,g11] at f1;rw[h3,g12] at f2
      simp at f0 f1 f2
      rw[h3,f0,f1,f2]
    rw[ht,e10,e11]
    exact⟨[_],_,rfl,rfl,[_],_,rfl,rfl,[_],[],rfl,hl,rfl⟩
  · intro b c ⟨h3,h4,h5⟩
    exact⟨fun h=>h3 (.inl h),fun e=>h4 2 c2 (by rw[e];exact y2),h5⟩
  · intro j hj
    have:j=0∨j=1∨j=2∨j=3:=by omega
    rcases this with rfl|rfl|rfl|rfl
    · exact⟨_,g20,o20⟩
    · exact⟨_,g21,o21⟩
    · exact⟨_,g22,o22⟩
    · exact⟨_,g23,o23⟩
@[reducible] noncomputable def ER (M:Nat→Prop) (b2:Nat) (w:World):Env:={P:=Try.prog,M:=M,mu:=fun _=>False,w0:=w,OB:=OB,x:={mw:=fun b=>b=b2,nd:=true}}
theorem zmB {M:Nat→Prop} {w:World} {p:zhj} {b1 b2:Nat} {cur1:Array Value} {e1:Nat} {f1:Nat×Nat} {cur2:Array Value} {V:View} (r:RawB M w p b1 b2 cur1 e1 f1 cur2 V) (hM:∀b,M b→b<w.heap.size) (hM2:¬M b2) {a:Act} (hsz:a.tmps.size=23) (hd:a.defers=[]) (s1:a.tmps.getD 1 undef=.pointer (some ⟨b1,0,none⟩)) (s2:a.tmps.getD 2 undef=.pointer (some ⟨b2,0,none⟩))
    {c:List Int} {ls cap:Nat} {cur:Array Value} (s3:a.tmps.getD 3 undef=.slice (some ⟨ls,0,none⟩) c.length cap) (hls:w.heap[ls]?=some (.cells cur 3 (0,0))) (hrow:rowI c cap cur) (hl2:ls≠b2) (hlM:¬M ls):RelS (ER M b2 w) 23 (stR p c) a w:=by
  obtain⟨e2,h2⟩:=r.h2
  refine ⟨fun k=>if k=2 then some (b2,4) else none,{
    size:=hsz,lim:=by decide,defers:=⟨⟨[],hd,List.nodup_nil,fun _ h=>by cases h⟩,fun _ h=>by cases h⟩,os:=rfl,tape:=rfl,output:=rfl,grow:=Nat.le_refl _,keep:=fun _ _ _ _=>rfl,
    own:=fun k b n hk=>?_,dis:=fun b hb=>hb.elim,inj:=fun k k' b n n' hk hk'=>?_,old:=fun b hb h=>?_,obkeep:=fun b i o _ h=>h.elim,nd:=fun _=>hd},fun f hf=>?_⟩
  · split at hk
    · cases hk;exact⟨zah h2,.inl (.inr rfl)⟩
    · cases hk
  · split at hk
    · split at hk'
      · omega
      · cases hk'
    · cases hk
  · rcases h with h|h
    · exact absurd (hM b hb) (Nat.not_lt_of_le h)
    · have h:b=b2:=h
      subst h;exact hM2 hb
  · have hv:∀b c el f,¬M b→b≠b2→w.heap[b]?=some (.cells c el f)→vw (ER M b2 w) (fun k=>if k=2 then some (b2,4) else none) w b c:=fun b c el f hm hn hb=>⟨fun h=>h.elim hm (fun⟨_,h⟩=>(by cases h)),(fun k n hk=>by
      have hk:(if k=2 then some (b2,4) else none)=some (b,n):=hk
      split at hk
      · cases hk;exact hn rfl
      · cases hk),el,f,hb⟩
    have hcell:∀j,j<4→Fact.holds (ER M b2 w) (fun k=>if k=2 then some (b2,4) else none) a w (.cell 2 j .u):=fun j hj=>by
      obtain⟨v,hv1,hv2⟩:=r.one j hj
      exact⟨b2,4,cur2,e2,v,.inr rfl,rfl,h2,hv1,hv2,trivial⟩
    simp only[stR,List.mem_cons,List.not_mem_nil,or_false] at hf
    rcases hf with rfl|rfl|rfl|rfl|rfl|rfl|rfl
    · simp only[Fact.holds,zam,zaF];rw[zbh (by decide),s1]
      refine⟨⟨b1,0,none⟩,cur1,rfl,rfl,hv b1 cur1 e1 f1 r.v1 r.n12 r.h1,by show 0+3≤cur1.size;have:=r.z1;omega,?_⟩
      show Rep _ ziP p ((cur1.toList.drop 0).take 3)
      rw[List.drop_zero]
      exact Rep.mono (fun b c h=>by obtain⟨q1,q2,el,f,q3⟩:=r.hV b c h;exact hv b c el f q1 q2 q3) _ _ _ r.rep
    · simp only[Fact.holds,zam,zaF];rw[zbh (by decide),s3]
      refine⟨_,⟨some ⟨ls,0,none⟩,cap,rfl,hrow.2.1,hrow.2.2.1,(fun h=>(by cases h)),fun ad had hne=>?_⟩,.inr ⟨rfl,rfl⟩⟩
      cases had
      have hin:=zmz (V:=vw (ER M b2 w) (fun k=>if k=2 then some (b2,4) else none) w) hrow
      refine⟨rfl,cur,hv ls cur 3 (0,0) hlM hl2 hls,by show 0+c.length*1≤cur.size;have h1:=hrow.1;have h2:=hrow.2.1;omega,fun i x hx=>?_⟩
      have:=hin.2.2.2 i x hx
      show Rep _ I64 x ((cur.toList.drop (0+i*1)).take 1)
      rw[Nat.zero_add];exact this
    · simp only[Fact.holds,zam,zaF];rw[zbh (by decide),s2]
      exact⟨b2,4,rfl,rfl⟩
    · exact hcell 0 (by decide)
    · exact hcell 1 (by decide)
    · exact hcell 2 (by decide)
    · exact hcell 3 (by decide)
theorem zsb {b:Code} {st0 target:St} {a:Act} {M:Nat→Prop} {bs:List Nat} {w0 w:World} {Q:Exit→Act→World→Prop} (hR:RelS (EH M bs w0 true) 23 st0 a w) (hd:zc4 23 b=true) (hnr:zaX b=true)
    (hvc:vc cfB (par cfB) [] b 0 st0 (fun e st=>match e with | .normal=>Goal (∃s:Unit,ent st target∧True) | .ret=>False | _=>False))
    (hQ:∀a' w',RelS (EH M bs w0 true) 23 target a' w'→Q .normal a' w'):b.wpIn (Fw none) 0 Try.prog Q a w:=by
  refine wpIn_mono (za9 zlT (zcB zed zlT) b 0 st0 _ a w (EH M bs w0 true) none rfl rfl (.inr hnr) hd hvc hR) ?_
  rintro e a' w' ⟨⟨xe,st',h1,h2,h3⟩,hag⟩
  subst h1
  cases xe with
  | normal=>
    obtain⟨_,h4,h5⟩:=h2.out
    exact hQ a' w' (zbz h4 h3)
  | exit id=>exact h2.elim
  | ret=>exact h2.elim
theorem zqC {ops:Array Oper} {l:List Oper} {st0 target:St} {a:Act} {M:Nat→Prop} {bs:List Nat} {w0 w:World} {Q:Exit→Act→World→Prop} (hR:RelS (EH M bs w0 true) 23 st0 a w)
    (hsub:∀o∈l,o∈ops.toList) (hdst:∀o∈ops.toList,∀t,o.dst=some t→t<23)
    (hvc:zdD cfB ops l st0 (fun st=>Goal (∃s:Unit,ent st target∧True)))
    (hQ:∀a' w',RelS (EH M bs w0 true) 23 target a' w'→Q .normal a' w'):wpListIn (Fw none) 0 Try.prog ops Q l a w:=by
  refine zdR ?_ l a w (zb9 (E:=EH M bs w0 true) (c:=cfB) (ro:=none) (q:=0) zlT (ops:=ops) (Q:=fun e a' w'=>e=.normal∧RelS (EH M bs w0 true) 23 target a' w') hdst l hsub st0 _ a w hvc hR ?_)
  · rintro e a' w' ⟨rfl,h1⟩
    exact hQ a' w' h1
  · intro st' a' w' h1 h2
    obtain⟨_,h4,_⟩:=h1.out
    exact⟨rfl,zbz h4 h2⟩
theorem zsT (x:zck):vc cfB (par cfB) [] .ret 0 (stC x) (fun e st=>match e with | .ret | .normal=>zfT cfB Try.f46.results.toList zj4.res (x,()) st | _=>False):=by
  repeat' (intro hzz;(try (rename Two=>hq;cases hq));(try dsimp only at hzz);(try simp only[zad,zac,eqD,inR,big,zab,zB] at hzz);(try (revert hzz;intro _)))
  all_goals try (rename Unit=>hq;clear hq)
  all_goals try ((with_reducible refine Held.mk ?_);(with_reducible (first|refine Frz.mk ?_|refine And.intro (Frz.mk ?_) ?_|refine And.intro ?_ (Frz.mk ?_)));repeat' first|exact True.intro|(change _=_;with_reducible rfl)|refine And.intro ?_ ?_|(with_reducible refine Frz.mk ?_))
  all_goals try (refine Held.mk ?_;(try dsimp only at *);(try simp only[zad,zac,eqD,inR,big,zab,zB] at *))
  all_goals first|exact⟨rfl,rfl,rfl,rfl⟩|trace_state
theorem vRet (x:zck):zfT cfB Try.f46.results.toList zj4.res (x,()) (stC x):=zsT x
def CB (M:Nat→Prop) (b2:Nat) (x:zck) (w:World):Prop:=
  ∃ cur el v0 v2,w.heap[b2]?=some (.cells cur el (0,0))∧cur[0]?=some v0∧RepV (fun b c=>¬M b∧b≠b2∧∃el f,w.heap[b]?=some (.cells c el f)) (.sl I64) x.1 v0∧cur[1]?=some (.int .i64 x.2.1)∧
    cur[2]?=some v2∧RepV (fun b c=>¬M b∧b≠b2∧∃el f,w.heap[b]?=some (.cells c el f)) (.sl I64) x.2.2.1 v2∧cur[3]?=some (.int .i64 x.2.2.2.1)
theorem ztT {M:Nat→Prop} {b2:Nat} {w w':World} {a:Act} {x:zck} (hR:RelS (ER M b2 w) 23 (stC x) a w') (h2:a.tmps.getD 2 undef=.pointer (some ⟨b2,0,none⟩)):CB M b2 x w':=by
  obtain⟨η,g,H⟩:=hR
  have s2:=H (.slot 2 (.one (.p 2 0))) (by simp)
  have k0:=H (.cell 2 0 (.d (.sl I64) x.1)) (by simp)
  have k1:=H (.cell 2 1 (.d I64 x.2.1)) (by simp)
  have k2:=H (.cell 2 2 (.d (.sl I64) x.2.2.1)) (by simp)
  have k3:=H (.cell 2 3 (.d I64 x.2.2.2.1)) (by simp)
  simp only[Fact.holds,zam,zaF] at s2 k0 k1 k2 k3
  rw[zbh (by decide),h2] at s2
  obtain⟨b,c,y,s2⟩:=s2
  have hb:b2=b:=by
    have:=s2;simp at this;exact this
  subst hb
  obtain⟨q1,q2,cur,el,v0,_,q3,h,g0,_,r0⟩:=k0
  rw[y] at q3;cases q3
  obtain⟨q1,q2,cur',el',v1,_,q3,h',g1,_,r1⟩:=k1
  rw[y] at q3;cases q3
  rw[h] at h';cases h'
  obtain⟨q1,q2,cur',el',v2,_,q3,h',g2,_,r2⟩:=k2
  rw[y] at q3;cases q3
  rw[h] at h';cases h'
  obtain⟨q1,q2,cur',el',v3,_,q3,h',g3,_,r3⟩:=k3
  rw[y] at q3;cases q3
  rw[h] at h';cases h'
  have hv:∀b' c',vw (ER M b2 w) η w' b' c'→¬M b'∧b'≠b2∧∃el f,w'.heap[b']?=some (.cells c' el f):=fun b' c' ⟨h1,h2,h3⟩=>⟨fun hm=>h1 (.inl hm),fun e=>h2 2 c (by rw[e];exact y),h3⟩
  rw[zh0 r1] at g1
  rw[zh0 r3] at g3
  exact⟨cur,el,v0,v2,h,g0,r0.mono hv,g1,g2,r2.mono hv,g3⟩
theorem ztN {M:Nat→Prop} {b2:Nat} {w w':World} {a:Act} (hR:RelS (ER M b2 w) 23 stUp a w') (h2:a.tmps.getD 2 undef=.pointer (some ⟨b2,0,none⟩)):∃cur el,w'.heap[b2]?=some (.cells cur el (0,0))∧∀j,j<4→∃v,cur[j]?=some v∧v.oneCell'=true:=by
  obtain⟨η,g,H⟩:=hR
  have s2:=H (.slot 2 (.one (.p 2 0))) (by simp)
  have k0:=H (.cell 2 0 .u) (by simp)
  have k1:=H (.cell 2 1 .u) (by simp)
  have k2:=H (.cell 2 2 .u) (by simp)
  have k3:=H (.cell 2 3 .u) (by simp)
  simp only[Fact.holds,zam,zaF] at s2 k0 k1 k2 k3
  rw[zbh (by decide),h2] at s2
  obtain⟨b,c,y,s2⟩:=s2
  have hb:b2=b:=by
    have:=s2;simp at this;exact this
  subst hb
  obtain⟨q1,q2,cur,el,v0,_,q3,h,g0,r0,_⟩:=k0
  rw[y] at q3;cases q3
  obtain⟨q1,q2,cur',el',v1,_,q3,h',g1,r1,_⟩:=k1
  rw[y] at q3;cases q3
  rw[h] at h';cases h'
  obtain⟨q1,q2,cur',el',v2,_,q3,h',g2,r2,_⟩:=k2
  rw[y] at q3;cases q3
  rw[h] at h';cases h'
  obtain⟨q1,q2,cur',el',v3,_,q3,h',g3,r3,_⟩:=k3
  rw[y] at q3;cases q3
  rw[h] at h';cases h'
  refine⟨cur,el,h,fun j hj=>?_⟩
  have:j=0∨j=1∨j=2∨j=3:=by omega
  rcases this with rfl|rfl|rfl|rfl
  · exact⟨_,g0,r0⟩
  · exact⟨_,g1,r1⟩
  · exact⟨_,g2,r2⟩
  · exact⟨_,g3,r3⟩
theorem zp3 {M:Nat→Prop} {b2 l:Nat} {x:zck} {w:World} {o:Obj} {r:Loop} (h:CB M b2 x w) (hl:w.heap[l]?=some (.loop r)):CB M b2 x (w.putObj l o):=by
  obtain⟨cur,el,v0,v2,h1,h2,h3,h4,h5,h6,h7⟩:=h
  have hne:∀b c el f,w.heap[b]?=some (.cells c el f)→b≠l:=fun b c el f hb e=>by subst e;rw[hl] at hb;cases hb
  have hv:∀b c,(¬M b∧b≠b2∧∃el f,w.heap[b]?=some (.cells c el f))→¬M b∧b≠b2∧∃el f,(w.putObj l o).heap[b]?=some (.cells c el f):=fun b c ⟨q1,q2,el,f,q3⟩=>⟨q1,q2,el,f,(World.putObj_heap_other (hne b c el f q3)).trans q3⟩
  exact⟨cur,el,v0,v2,(World.putObj_heap_other (hne b2 cur el _ h1)).trans h1,h2,h3.mono hv,h4,h5,h6.mono hv,h7⟩
theorem znz {M:Nat→Prop} {bs:List Nat} {w0 w:World} {b2 D:Nat} {x:zck} {a:Act} (hM:∀b,M b→b<w0.heap.size) (hbs:∀b,b∈bs→b<w0.heap.size) (hobk:∀b i o,b<w0.heap.size→b∈bs→w0.heap[b]?=some o→OB i o→∃o',w.heap[b]?=some o'∧OB i o') (hsz:a.tmps.size=23) (hd:a.defers=[mkD D]) (s2:a.tmps.getD 2 undef=.pointer (some ⟨b2,0,none⟩)) (hb2:w0.heap.size≤b2) (hD:w0.heap.size≤D) (hDo:w.heap[D]?=some (.deferred (some [])))
    (hos:w.os=w0.os) (htape:w.tape=w0.tape) (hout:w.output=w0.output) (hsize:w0.heap.size≤w.heap.size) (hkeep:∀b,b<w0.heap.size→b ∉ bs→w.heap[b]?=w0.heap[b]?) (hc:CB M b2 x w):RelS (EH M bs w0 false) 23 (stC x) a w:=by
  obtain⟨cur,el,v0,v2,h1,h2,h3,h4,h5,h6,h7⟩:=hc
  have hDb:D≠b2:=fun e=>by subst e;rw[h1] at hDo;cases hDo
  refine ⟨fun k=>if k=2 then some (b2,4) else none,{
    size:=hsz,lim:=by decide,defers:=⟨⟨[D],hd,by simp,fun D' hD'=>?_⟩,fun _ h=>by cases h⟩,os:=hos,tape:=htape,output:=hout,grow:=hsize,keep:=fun b hb hm _=>hkeep b hb hm,
    own:=fun k b n hk=>?_,dis:=fun b hb h=>?_,inj:=fun k k' b n n' hk hk'=>?_,old:=fun b hb h=>?_,obkeep:=fun b i o hb hm h1 h2=>hobk b i o hb hm h1 h2,nd:=fun h=>by cases h},fun f hf=>?_⟩
  · have e:D'=D:=List.mem_singleton.1 hD'
    subst e
    refine⟨hD,hDo,fun k c hk=>?_⟩
    have hk:(if k=2 then some (b2,4) else none)=some (D',c):=hk
    split at hk
    · cases hk;exact hDb rfl
    · cases hk
  · have hk:(if k=2 then some (b2,4) else none)=some (b,n):=hk
    split at hk
    · cases hk;exact⟨zah h1,.inl (.inl hb2)⟩
    · cases hk
  · exact h.elim (fun h=>absurd (hbs b hb) (Nat.not_lt_of_le h)) (fun h=>h)
  · have hk:(if k=2 then some (b2,4) else none)=some (b,n):=hk
    have hk':(if k'=2 then some (b2,4) else none)=some (b,n'):=hk'
    split at hk
    · split at hk'
      · omega
      · cases hk'
    · cases hk
  · exact h.elim (fun h=>absurd (hM b hb) (Nat.not_lt_of_le h)) (fun h=>h)
  · have hv:∀b c,(¬M b∧b≠b2∧∃el f,w.heap[b]?=some (.cells c el f))→vw (EH M bs w0 false) (fun k=>if k=2 then some (b2,4) else none) w b c:=fun b c ⟨q1,q2,q3⟩=>⟨fun h=>h.elim q1 (fun⟨_,h⟩=>(by cases h)),(fun k n hk=>by
      have hk:(if k=2 then some (b2,4) else none)=some (b,n):=hk
      split at hk
      · cases hk;exact q2 rfl
      · cases hk),q3⟩
    have hone:∀(t:Ty) (y:t.Den) (v:Value) (V:View),t.agg=false→RepV V t y v→v.oneCell'=true:=fun t y v V ht ⟨l,q1,q2⟩=>by
      rcases q2 with ⟨h,_⟩|⟨_,h⟩
      · rw[ht] at h;cases h
      · subst h;exact Rep.oneCell _ _ _ q1 v (by simp)
    simp only[stC,List.mem_cons,List.not_mem_nil,or_false] at hf
    rcases hf with rfl|rfl|rfl|rfl|rfl
    · simp only[Fact.holds,zam,zaF];rw[zbh (by decide),s2]
      exact⟨b2,4,rfl,rfl⟩
    · exact⟨b2,4,cur,el,v0,.inl hb2,rfl,h1,h2,hone _ _ _ _ rfl h3,h3.mono hv⟩
    · exact⟨b2,4,cur,el,_,.inl hb2,rfl,h1,h4,rfl,RepV.mk1 rfl rfl⟩
    · exact⟨b2,4,cur,el,v2,.inl hb2,rfl,h1,h5,hone _ _ _ _ rfl h6,h6.mono hv⟩
    · exact⟨b2,4,cur,el,_,.inl hb2,rfl,h1,h7,rfl,RepV.mk1 rfl rfl⟩
structure JB (w1:World) (base l b2:Nat) (o:Obj) (W:World):Prop where
  os:W.os=w1.os
  tape:W.tape=w1.tape
  output:W.output=w1.output
  size:base≤W.heap.size
  keep:∀b,b<base→b≠l→b≠b2→W.heap[b]?=w1.heap[b]?
  loop:W.heap[l]?=some o
  two:∃cur el,W.heap[b2]?=some (.cells cur el (0,0))∧∀j,j<4→∃v,cur[j]?=some v∧v.oneCell'=true
structure JX (M:Nat→Prop) (w1:World) (base l b2:Nat) (o:Obj) (x:zck) (W:World):Prop where
  os:W.os=w1.os
  tape:W.tape=w1.tape
  output:W.output=w1.output
  size:base≤W.heap.size
  keep:∀b,b<base→b≠l→b≠b2→W.heap[b]?=w1.heap[b]?
  loop:W.heap[l]?=some o
  cb:CB M b2 x W
theorem zoc {M:Nat→Prop} {w0s:Nat} {w1:World} {p:zhj} {b1 b2:Nat} {cur1:Array Value} {e1:Nat} {f1:Nat×Nat} {cur2:Array Value} {V:View} (rb:RawB M w1 p b1 b2 cur1 e1 f1 cur2 V) (hM:∀b,M b→b<w0s) (hb2:w0s≤b2) {base l D:Nat} (hl:l<base) (hlb:l≠b1∧l≠b2) (hw0:w0s≤base) (hbase:base=w1.heap.size)
    {fn:FuncId} {a3:Act} (hsz:a3.tmps.size=23) (s1:a3.tmps.getD 1 undef=.pointer (some ⟨b1,0,none⟩)) (s2:a3.tmps.getD 2 undef=.pointer (some ⟨b2,0,none⟩)) (rc:LoopState→Option Code→Loop) (hrc:rc=fun st pe=>{state:=st,pending:=pe,fn,tmps:=a3.tmps,params:=#[13],assign:=B2,body:=BB,defers:=D})
    (hl1:∃o,w1.heap[l]?=some (.loop o)) {x:zck}
    {c:List Int} {rest:List (List Int)} {W:World} {ls cap:Nat} {cur:Array Value} (hJ:JB w1 base l b2 (.loop (rc .ready none)) W) (hx:zfW p.2.2.1 (c::rest)=some x) (hg:goodA p.2.2.1 c) (hls:base≤ls) (hcur:W.heap[ls]?=some (.cells cur 3 (0,0))) (hrow:rowI c cap cur) :
    YieldAt (Fw none) 0 Try.prog l #[.slice (some ⟨ls,0,none⟩) c.length cap] W fun e w'=>(∀b,base≤b→b<W.heap.size→w'.heap[b]?=W.heap[b]?)∧((e=.returned (.bool true)∧(JB w1 base l b2 (.loop (rc .ready none)) w'∧zfW p.2.2.1 rest=some x))∨(e=.returned (.bool false)∧JX M w1 base l b2 (.loop (rc .done (some .ret))) x w')):=by
  obtain⟨sl,hsl⟩:∃sl,sl=Value.slice (some ⟨ls,0,none⟩) c.length cap:=⟨_,rfl⟩
  have hloop:=hJ.loop
  have hy:=run_yield (P:=Try.prog) (args:=#[sl]) hloop (by rw[hrc];rfl)
  have htm:((rc .ready none).params.zip #[sl]).foldl (fun tmps (t,a)=>tmps.setIfInBounds t a) (rc .ready none).tmps=a3.tmps.setIfInBounds 13 sl:=by rw[hrc];simp
  rw[htm] at hy
  rw[←hsl]
  have e1':(rc .ready none).fn=fn:=by rw[hrc]
  have e2':(rc .ready none).assign=B2:=by rw[hrc]
  have e3':(rc .ready none).body=BB:=by rw[hrc]
  rw[e1',e2',e3'] at hy
  refine⟨fn,_,B2,BB,hy,roundIn_of_wpIn trivial ?_⟩
  obtain⟨a4,ha4⟩:∃a4:Act,a4 = {tmps:=a3.tmps.setIfInBounds 13 sl,defers:=[]}:=⟨_,rfl⟩
  rw[←ha4]
  have hap:a4=({tmps:=a3.tmps,defers:=[]}:Act).put (some 13) sl:=ha4
  have z4:a4.tmps.size=23:=by rw[hap,zai];exact hsz
  have g13:a4.tmps.getD 13 undef=sl:=by rw[hap];exact zae (by show 13<a3.tmps.size;omega)
  have g1:a4.tmps.getD 1 undef=.pointer (some ⟨b1,0,none⟩):=by rw[hap];exact (zaa (by decide)).trans s1
  have g2:a4.tmps.getD 2 undef=.pointer (some ⟨b2,0,none⟩):=by rw[hap];exact (zaa (by decide)).trans s2
  have d4:a4.defers=[]:=by rw[ha4]
  clear ha4 hap
  refine wpIn_region_list ?_
  have hstep:∀ {o:Oper} {ops:Array Oper} {rest:List Oper} {Q:Exit→Act→World→Prop},o.guard=none→o.wpIn (Fw (some l)) 0 Try.prog a4 W (wpListIn (Fw (some l)) 0 Try.prog ops Q rest) Q→wpListIn (Fw (some l)) 0 Try.prog ops Q (o::rest) a4 W:=by
    intro o ops rest Q hg h
    have hw:Region.wanted o (yielded ops a4.tmps)=true:=by simp[Region.wanted,hg]
    simp only[wpListIn,hw,if_true]
    exact h
  refine hstep rfl (zas (r:=.ok (.value sl) W) (by intro d h;cases h) (asR a4 W _ (.tmp 13) rfl g13) ?_)
  obtain⟨a5,ha5⟩:∃a5,a5=a4.put (some 3) sl:=⟨_,rfl⟩
  have z5:a5.tmps.size=23:=by rw[ha5,zai];exact z4
  have d5:a5.defers=[]:=by rw[ha5,zag];exact d4
  have k1:a5.tmps.getD 1 undef=.pointer (some ⟨b1,0,none⟩):=by rw[ha5];exact (zaa (by decide)).trans g1
  have k2:a5.tmps.getD 2 undef=.pointer (some ⟨b2,0,none⟩):=by rw[ha5];exact (zaa (by decide)).trans g2
  have k3:a5.tmps.getD 3 undef=sl:=by rw[ha5];exact zae (by rw[z4];decide)
  refine (show Exit.then (fun a₁ w₁=>∃w₂,(Instr.beginRound l).run Try.prog w₁=.ok () w₂∧BB.wpIn (Fw (some l)) 0 Try.prog (roundPost Try.prog l _) a₁ w₂) (fun _ _ _=>False) .normal (a4.put (some 3) sl) W from ?_)
  rw[←ha5]
  refine⟨_,run_beginRound hloop (by rw[hrc]),?_⟩
  obtain⟨W2,hW2⟩:∃W2,W2=W.putObj l (.loop {rc .ready none with state:=.busy}):=⟨_,rfl⟩
  rw[←hW2]
  have s2z:W2.heap.size=W.heap.size:=by rw[hW2];exact World.putObj_size
  have o2:∀b,b≠l→W2.heap[b]?=W.heap[b]?:=fun b h=>by rw[hW2];exact World.putObj_heap_other h
  have l2:W2.heap[l]?=some (.loop {rc .ready none with state:=.busy}):=by rw[hW2];exact World.putObj_heap_same (zah hloop)
  have old:∀b,b<base→b≠l→b≠b2→W2.heap[b]?=w1.heap[b]?:=fun b h1 h2 h3=>(o2 b h2).trans (hJ.keep b h1 h2 h3)
  have notl:∀b c el f,w1.heap[b]?=some (.cells c el f)→b≠l:=fun b c el f h e=>by
    obtain⟨o,ho⟩:=hl1
    subst e;rw[ho] at h;cases h
  obtain⟨e2,hb2h⟩:=rb.h2
  have b2b:b2<base:=by rw[hbase];exact zah hb2h
  obtain⟨curU,elU,hU,hU4⟩:=hJ.two
  have rb2:RawB M W2 p b1 b2 cur1 e1 f1 curU V:=⟨(old b1 (by rw[hbase];exact zah rb.h1) hlb.1.symm rb.n12).trans rb.h1,⟨elU,(o2 b2 hlb.2.symm).trans hU⟩,rb.v1,rb.n12,rb.z1,rb.rep,fun b c h=>by
    obtain⟨q1,q2,el,f,q3⟩:=rb.hV b c h
    exact⟨q1,q2,el,f,(old b (by rw[hbase];exact zah q3) (notl b c el f q3) q2).trans q3⟩,hU4⟩
  have hrel:=zmB rb2 (fun b hb=>by have:=hM b hb;have:=hJ.size;omega) (fun h=>by have:=hM b2 h;omega) z5 d5 k1 k2 (c:=c) (ls:=ls) (cap:=cap) (cur:=cur) (k3.trans hsl) ((o2 ls (by omega)).trans hcur) hrow (by omega) (fun h=>by have:=hM ls h;omega)
  refine wpIn_mono (za9 zlT (zcB zed zlT) BB 0 (stR p c) _ a5 W2 (ER M b2 W2) (some l) rfl rfl (.inr (by kernel_rfl)) (by kernel_rfl) (vBB p c hg) hrel) ?_
  rintro e a6 W3 ⟨⟨xe,st',q1,q2,q3⟩,hag⟩
  subst q1
  have hkeep:∀b,b<W2.heap.size→b≠b2→W3.heap[b]?=W2.heap[b]?:=fun b h1 h2=>by
    obtain⟨η,g,_⟩:=q3
    exact g.keep b h1 (fun h=>h) h2
  have hs3:W2.heap.size≤W3.heap.size:=by obtain⟨η,g,_⟩:=q3;exact g.grow
  have hst:W3.os=W2.os∧W3.tape=W2.tape∧W3.output=W2.output:=by obtain⟨η,g,_⟩:=q3;exact⟨g.os,g.tape,g.output⟩
  have hw2:W2.os=W.os∧W2.tape=W.tape∧W2.output=W.output:=by rw[hW2];exact⟨rfl,rfl,rfl⟩
  have l3:W3.heap[l]?=some (.loop {rc .ready none with state:=.busy}):=(hkeep l (by rw[s2z];have:=hJ.size;omega) hlb.2).trans l2
  have hJs:=hJ.size
  have up:∀(o:Obj) b,base≤b→b<W.heap.size→(W3.putObj l o).heap[b]?=W.heap[b]?:=fun o b h1 h2=>(World.putObj_heap_other (by omega)).trans ((hkeep b (by omega) (by omega)).trans (o2 b (by omega)))
  cases xe with
  | normal=>
    obtain⟨_,hent,hat⟩:=q2.out
    obtain⟨curN,elN,hN,hN4⟩:=ztN (zbz hent q3) ((hag (by intro h;cases h) 2 (by decide)).trans k2)
    refine⟨_,_,run_endRound none l3,up _,.inl ⟨rfl,?_,?_⟩⟩
    · have e4:(Obj.loop {({rc .ready none with state:=.busy}:Loop) with state:=if (none:Option Code).isNone=true then .ready else .done,pending:=none})=.loop (rc .ready none):=by rw[hrc];rfl
      refine⟨hst.1.trans (hw2.1.trans hJ.os),hst.2.1.trans (hw2.2.1.trans hJ.tape),hst.2.2.trans (hw2.2.2.trans hJ.output),?_,fun b h1 h2 h3=>?_,?_,curN,elN,(World.putObj_heap_other hlb.2.symm).trans hN,hN4⟩
      · rw[World.putObj_size];omega
      · exact (World.putObj_heap_other h2).trans ((hkeep b (by omega) h3).trans (old b h1 h2 h3))
      · refine (World.putObj_heap_same (zah l3)).trans ?_
        exact congrArg some e4
    · simp only[zfW,hat] at hx
      simpa using hx
  | exit id=>exact q2.elim
  | ret=>
    obtain⟨_,hent,hat⟩:=q2.out
    have hcb:=ztT (zbz hent q3) ((hag (by intro h;cases h) 2 (by decide)).trans k2)
    refine⟨_,_,run_endRound (some .ret) l3,up _,.inr ⟨rfl,?_⟩⟩
    have hx:(atR p.2.2.1 c).1=x:=by
      simp only[zfW,hat,if_true] at hx
      exact Option.some.inj hx
    rw[hx] at hcb
    have e4:(Obj.loop {({rc .ready none with state:=.busy}:Loop) with state:=if (some Code.ret).isNone=true then .ready else .done,pending:=some .ret})=.loop (rc .done (some .ret)):=by rw[hrc];rfl
    refine⟨hst.1.trans (hw2.1.trans hJ.os),hst.2.1.trans (hw2.2.1.trans hJ.tape),hst.2.2.trans (hw2.2.2.trans hJ.output),?_,fun b h1 h2 h3=>?_,?_,?_⟩
    · rw[World.putObj_size];omega
    · exact (World.putObj_heap_other h2).trans ((hkeep b (by omega) h3).trans (old b h1 h2 h3))
    · exact (World.putObj_heap_same (zah l3)).trans (congrArg some e4)
    · exact zp3 hcb l3
theorem znD:zda Try.prog 71:=⟨Try.f71,Try.func71,by kernel_rfl,by kernel_rfl⟩
theorem znE:zda Try.prog 63:=⟨Try.f63,Try.func63,by kernel_rfl,by kernel_rfl⟩
theorem ztA:Ok 46 zj4:=by
  refine⟨zny (c:=cfB) zlT Try.func46 zq3 rfl (by decide) (by decide) (by decide) rfl ?_,Try.f46,Try.func46,by kernel_rfl,by kernel_rfl⟩
  rintro⟨(p:zhj),_⟩ ⟨n,(hn:p.2.1=(n:Int)),hn3,(hsome:(zjL p.2.2.1 n).isSome=true),(hbl:List.length (α:=BndD) p.2.2.1≤100),(hgood:∀c∈zbU (n+1) 0 (List.length (α:=BndD) p.2.2.1),goodA p.2.2.1 c)⟩ M bs w0 a hd hR
  obtain⟨x,hx⟩:=Option.isSome_iff_exists.1 hsome
  have hfin:zj4.f (p,())=(x,()):=by
    show ((zjL p.2.2.1 p.2.1.toNat).getD zfV,())=(x,())
    rw[hn,show ((n:Int)).toNat=n from rfl,hx];rfl
  have hR0:=hR
  have hMlt:∀b,M b→b<w0.heap.size:=fun b hb=>by
    obtain⟨η,g,_⟩:=hR0
    exact Nat.lt_of_not_le fun h=>g.old b hb (.inl h)
  have hbslt:∀b,b∈bs→b<w0.heap.size:=fun b hb=>by
    obtain⟨η,g,_⟩:=hR0
    exact Nat.lt_of_not_le fun h=>g.dis b hb (.inl h)
  have hR:RelS (EH M bs w0 true) 23 [.slot 0 (.one (.d ziP p))] a w0:=zsl hR hd
  have evt:∀(a:Act) (t:Nat),a.eval (.tmp t)=a.tmps.getD t undef:=fun a t=>rfl
  refine wpIn_seq (zsb hR (by kernel_rfl) (by kernel_rfl) (vB0 p) fun a1 w1 hR1=>?_)
  refine wpIn_seq (wpIn_seq (wpIn_region_list ?_))
  change wpListIn (Fw none) 0 Try.prog _ _ (zkf.take 6++zkf.drop 6) a1 w1
  refine zf2 _ _ _ (zqC hR1 ?_ ?_ (vB1 p n hn hn3) fun a2 w2 hR2=>?_)
  · exact fun o ho=>by
      change o∈zkf
      exact List.mem_of_mem_take ho
  · intro o ho t ht
    change o∈zkf at ho
    have hall:(zkf.all fun o=>match o.dst with|some t=>Nat.blt t 23|none=>true)=true:=by kernel_rfl
    have:=List.all_eq_true.1 hall o ho
    rw[ht] at this
    exact Nat.le_of_ble_eq_true this
  have hR2':RelS (EH M bs w0 true) 23 ([sI 8 ((n+1:Nat):Int),sI 11 ((List.length (α:=BndD) p.2.2.1:Nat):Int)]++stB0 p) a2 w2:=hR2
  obtain⟨b1,b2,cur1,e1,f1,cur2,V,rb,s1,s2,hb2⟩:=ztp hR2'
  have z2:a2.tmps.size=23:=by obtain⟨η,g,_⟩:=hR2;exact g.size
  have d2:a2.defers=[]:=(zm4 hR2).2
  have g8:a2.tmps.getD 8 undef=.int .i64 ((n+1:Nat):Int):=by
    obtain⟨η,H,h⟩:=zmE hR2 (t:=8) (s:=.one (.d I64 ((n+1:Nat):Int))) (by simp) (by decide)
    exact zh0 h
  have g11:a2.tmps.getD 11 undef=.int .i64 ((List.length (α:=BndD) p.2.2.1:Nat):Int):=by
    obtain⟨η,H,h⟩:=zmE hR2 (t:=11) (s:=.one (.d I64 ((List.length (α:=BndD) p.2.2.1:Nat):Int))) (by simp) (by decide)
    exact zh0 h
  obtain ⟨gos,gtape,gout,ggrow,gkeep,gobk⟩:w2.os=w0.os∧w2.tape=w0.tape∧w2.output=w0.output∧w0.heap.size≤w2.heap.size∧(∀b,b<w0.heap.size→b ∉ bs→w2.heap[b]?=w0.heap[b]?)∧(∀b i o,b<w0.heap.size→b∈bs→w0.heap[b]?=some o→OB i o→∃o',w2.heap[b]?=some o'∧OB i o'):=by
    obtain⟨η,g,_⟩:=hR2
    exact⟨g.os,g.tape,g.output,g.grow,fun b h1 h2=>g.keep b h1 h2 (fun h=>h),fun b i o h1 h2 h3 h4=>g.obkeep b i o h1 h2 h3 h4⟩
  -- the call of chosen
  refine zaj rfl (zoG (f:=63) (args:=#[.int .i64 ((n+1:Nat):Int),.int .i64 ((List.length (α:=BndD) p.2.2.1:Nat):Int)]) (by intro d h;cases h) ?_ ?_)
  · obtain⟨fn,e1,e2,e3⟩:=znE
    have e2':¬fn.name = "runtime.NumGoroutine" := by simpa using e2
    have e3':¬fn.body=none:=by intro hn;rw[hn] at e3;cases e3
    have evf:∀(a:Act) (t:Nat),a.eval (.func t)=.func (.func t) #[] #[]:=fun a t=>rfl
    simp[execOp,resolve,Deferred.ofValue,evt,evf,g8,g11,invoke,callFunc,e1,e2',e3']
  refine (zjG _ _ w2).mono ?_
  rintro e w3 ⟨rfl,hw3⟩
  refine⟨_,rfl,zaO ?_⟩
  obtain⟨bc,hbc⟩:∃bc,bc=w2.heap.size:=⟨_,rfl⟩
  rw[←hbc]
  obtain⟨cv,hcv⟩:∃cv:Array Value,cv = #[Value.pointer (some ⟨bc,0,none⟩),Value.pointer (some ⟨bc+1,0,none⟩)]:=⟨_,rfl⟩
  rw[←hcv]
  obtain⟨a3,ha3⟩:∃a3,a3=a2.put (some 12) (.func (.func 71) #[] cv):=⟨_,rfl⟩
  have z3:a3.tmps.size=23:=by rw[ha3,zai];exact z2
  have d3:a3.defers=[]:=by rw[ha3,zag];exact d2
  have t1:a3.tmps.getD 1 undef=.pointer (some ⟨b1,0,none⟩):=by rw[ha3];exact (zaa (by decide)).trans s1
  have t2:a3.tmps.getD 2 undef=.pointer (some ⟨b2,0,none⟩):=by rw[ha3];exact (zaa (by decide)).trans s2
  have t12:a3.tmps.getD 12 undef=.func (.func 71) #[] cv:=by rw[ha3];exact zae (by rw[z2];decide)
  change Code.wpIn (Fw none) 0 Try.prog (.block 0 (.rangeFunc (.tmp 12) #[13] B2 BB)) _ (a2.put (some 12) (.func (.func 71) #[] cv)) w3
  rw[←ha3]
  have z3w:w3.heap.size=bc+2:=by rw[hw3,zcK,zcK,hbc]
  have c1:w3.heap[bc]?=some (.cells #[.int .i64 ((n+1:Nat):Int)] 3 (0,0)):=by rw[hw3];exact zcp (zdq hbc)
  have c2:w3.heap[bc+1]?=some (.cells #[.int .i64 ((List.length (α:=BndD) p.2.2.1:Nat):Int)] 3 (0,0)):=by rw[hw3];exact zdq (by rw[zcK,hbc])
  have o3:∀b,b<w2.heap.size→w3.heap[b]?=w2.heap[b]?:=fun b hb=>by
    obtain⟨o,ho⟩:∃o,w2.heap[b]?=some o:=⟨_,Array.getElem?_eq_getElem hb⟩
    rw[ho,hw3];exact zcp (zcp ho)
  have st3:w3.os=w2.os∧w3.tape=w2.tape∧w3.output=w2.output:=by rw[hw3];exact⟨rfl,rfl,rfl⟩
  refine wpIn_block (wpIn_rangeFunc fun fn hfn=>?_)
  obtain⟨D,hD⟩:∃D,D=w3.heap.size:=⟨_,rfl⟩
  obtain⟨rc,hrc⟩:∃rc:LoopState→Option Code→Loop,rc=fun st pe=>{state:=st,pending:=pe,fn,tmps:=a3.tmps,params:=#[13],assign:=B2,body:=BB,defers:=D}:=⟨_,rfl⟩
  obtain⟨W1,hW1⟩:∃W1,W1=(w3.alloc (.deferred (some []))).alloc (.loop (rc .ready none)):=⟨_,rfl⟩
  have zW1:W1.heap.size=D+2:=by rw[hW1,zcK,zcK,hD]
  have oW1:∀b,b<D→W1.heap[b]?=w3.heap[b]?:=fun b hb=>by
    obtain⟨o,ho⟩:∃o,w3.heap[b]?=some o:=⟨_,Array.getElem?_eq_getElem (by omega)⟩
    rw[ho,hW1];exact zcp (zcp ho)
  have hDo:W1.heap[D]?=some (.deferred (some [])):=by rw[hW1];exact zcp (zdq hD)
  have hlo:W1.heap[D+1]?=some (.loop (rc .ready none)):=by rw[hW1];exact zdq (by rw[zcK,hD])
  have stW1:W1.os=w2.os∧W1.tape=w2.tape∧W1.output=w2.output:=by rw[hW1];exact st3
  have hfe:a3.eval (.tmp 12)=.func (.func 71) #[] cv:=t12
  obtain⟨e2',h2h⟩:=rb.h2
  have lt1:b1<bc:=by rw[hbc];exact zah rb.h1
  have lt2:b2<bc:=by rw[hbc];exact zah h2h
  have down:∀b,b<bc→W1.heap[b]?=w2.heap[b]?:=fun b hb=>(oW1 b (by omega)).trans (o3 b (by omega))
  have rb1:RawB M W1 p b1 b2 cur1 e1 f1 cur2 V:=⟨(down b1 lt1).trans rb.h1,⟨e2',(down b2 lt2).trans h2h⟩,rb.v1,rb.n12,rb.z1,rb.rep,fun b c h=>by
    obtain⟨q1,q2,el,f,q3⟩:=rb.hV b c h
    exact⟨q1,q2,el,f,(down b (by rw[hbc];exact zah q3)).trans q3⟩,rb.one⟩
  refine⟨D+1,[mkD D],W1,{target:=.fn (.func 71) cv,args:=#[] ++ #[.func (.yield (D+1)) #[] #[]]},W1,71,#[] ++ #[.func (.yield (D+1)) #[] #[]]++cv,W1,?_,?_,?_,?_,fun h=>(by cases h),?_⟩
  · rw[hW1,hrc,hD];exact run_enterLoop_outer _ _ _ _ _
  · simp only[resolve,hfe]
    simp[go_sem,Deferred.ofValue]
  · intro f' _;trivial
  · obtain⟨fn',e1,e2,e3⟩:=znD
    have e2':¬fn'.name = "runtime.NumGoroutine" := by simpa using e2
    have e3':¬fn'.body=none:=by intro hn;rw[hn] at e3;cases e3
    simp[invoke,callFunc,e1,e2',e3']
  · have hY:Yld (D+1) (D+2) bc (bc+1) (n+1) (List.length (α:=BndD) p.2.2.1) (fun rest W=>(JB W1 (D+2) (D+1) b2 (.loop (rc .ready none)) W∧zfW p.2.2.1 rest=some x)∧∀c∈rest,goodA p.2.2.1 c) (JX M W1 (D+2) (D+1) b2 (.loop (rc .done (some .ret))) x):=by
      refine⟨?_,?_,?_,?_⟩
      · rintro rest w w' ⟨⟨h,h2⟩,h3⟩ hb
        have hk:∀b,b<D+2→w'.heap[b]?=w.heap[b]?:=fun b h1=>hb.keep b h1 (Nat.lt_of_lt_of_le h1 h.size)
        obtain⟨cu,el,q1,q2⟩:=h.two
        exact⟨⟨⟨hb.os.trans h.os,hb.tape.trans h.tape,hb.output.trans h.output,Nat.le_trans h.size hb.size,fun b h1 h2 h3=>(hk b h1).trans (h.keep b h1 h2 h3),(hk _ (by omega)).trans h.loop,cu,el,(hk b2 (by omega)).trans q1,q2⟩,h2⟩,h3⟩
      · rintro rest w ⟨⟨h,_⟩,_⟩
        exact h.size
      · rintro rest w ⟨⟨h,_⟩,_⟩
        exact⟨(h.keep bc (by omega) (by omega) (by omega)).trans ((oW1 bc (by omega)).trans c1),(h.keep (bc+1) (by omega) (by omega) (by omega)).trans ((oW1 (bc+1) (by omega)).trans c2)⟩
      · rintro c rest w ls cap cur ⟨⟨h,h2⟩,h3⟩ hls hcur hrow
        have hy:=zoc (w0s:=w0.heap.size) rb1 hMlt hb2 (base:=D+2) (l:=D+1) (D:=D) (by omega) ⟨by omega,by omega⟩ (by omega) zW1.symm (fn:=fn) (a3:=a3) z3 t1 t2 rc hrc ⟨_,hlo⟩ (x:=x) h h2 (h3 c List.mem_cons_self) hls hcur hrow
        obtain⟨q1,q2,q3,q4,q5,q6⟩:=hy
        refine⟨q1,q2,q3,q4,q5,RoundIn.mono q6 ?_⟩
        rintro e w' ⟨k1,⟨k2,k3⟩|⟨k2,k3⟩⟩
        · exact⟨k1,.inl ⟨k2,k3,fun c hc=>h3 c (List.mem_cons_of_mem _ hc)⟩⟩
        · exact⟨k1,.inr ⟨k2,k3⟩⟩
    have hJ0:(JB W1 (D+2) (D+1) b2 (.loop (rc .ready none)) W1∧zfW p.2.2.1 (zbU (n+1) 0 (List.length (α:=BndD) p.2.2.1))=some x)∧∀c∈zbU (n+1) 0 (List.length (α:=BndD) p.2.2.1),goodA p.2.2.1 c:=by
      refine⟨⟨⟨rfl,rfl,rfl,by omega,fun _ _ _ _=>rfl,hlo,cur2,e2',(down b2 lt2).trans h2h,rb.one⟩,hx⟩,hgood⟩
    have hc:=zlP hY ⟨by omega,by omega⟩ hbl ⟨by omega,by omega⟩ W1 zW1.symm hJ0
    rw[←hcv] at hc
    have hargs:(#[] ++ #[Value.func (.yield (D+1)) #[] #[]]++cv:Array Value) = #[Value.func (.yield (D+1)) #[] #[]]++cv:=by simp
    rw[hargs]
    refine hc.mono ?_
    rintro e W2 ⟨⟨v,rfl⟩,⟨⟨_,h2⟩,_⟩|h⟩
    · cases h2
    · refine ⟨_,_,run_endLoop h.loop (by rw[hrc];simp),?_⟩
      have hpd:(rc .done (some .ret)).pending=some .ret:=by rw[hrc]
      rw[hpd]
      refine wpIn_ret ⟨.ret,stC x,rfl,?_,?_⟩
      · show zfT cfB Try.f46.results.toList zj4.res (zj4.f (p,())) (stC x)
        rw[hfin];exact vRet x
      · have keepW:∀b,b<bc→b≠b2→W2.heap[b]?=w2.heap[b]?:=fun b h1 h2=>(h.keep b (by omega) (by omega) h2).trans (down b h1)
        have nl:∀(o:Obj) b,b≠D+1→(W2.putObj (D+1) o).heap[b]?=W2.heap[b]?:=fun o b hb=>World.putObj_heap_other hb
        refine znz (D:=D) (b2:=b2) hMlt hbslt (fun b i o h1 h2 h3 h4=>?_) z3 (by show mkD D::a3.defers=_;rw[d3]) t2 hb2 (by omega) ((nl _ D (by omega)).trans ((h.keep D (by omega) (by omega) (by omega)).trans hDo)) (h.os.trans (stW1.1.trans gos)) (h.tape.trans (stW1.2.1.trans gtape)) (h.output.trans (stW1.2.2.trans gout)) (by rw[World.putObj_size];have:=h.size;omega) (fun b h1 h2=>?_) (zp3 h.cb h.loop)
        · obtain⟨o',q1,q2⟩:=gobk b i o h1 h2 h3 h4
          exact⟨o',(nl _ b (by omega)).trans ((keepW b (by omega) (by omega)).trans q1),q2⟩
        · exact (nl _ b (by omega)).trans ((keepW b (by omega) (by omega)).trans (gkeep b h1 h2))
end Go.Eng.Ar
namespace Go.Eng.Ar
open Go.Eng Go.Proofs
set_option linter.all false
set_option maxRecDepth 100000
set_option maxHeartbeats 8000000
theorem zc6:∀(k f r:Nat) (c:List Int),c∈zbU k f r→c.length=k∧∀x∈c,(f:Int)≤x∧x<(f:Int)+r
  | 0,f,r,c,h=>by
    simp only[zbU,List.mem_singleton] at h
    subst h;exact⟨rfl,fun x hx=>by cases hx⟩
  | k+1,f,0,c,h=>by simp[zbU] at h
  | k + 1,f,r+1,c,h=>by
    simp only[zbU,List.mem_append,List.mem_map] at h
    rcases h with ⟨d,hd,rfl⟩|h
    · obtain⟨h1,h2⟩:=zc6 k (f+1) r d hd
      refine⟨by simp[h1],fun x hx=>?_⟩
      rcases List.mem_cons.1 hx with rfl|hx
      · omega
      · have:=h2 x hx;omega
    · obtain⟨h1,h2⟩:=zc6 (k+1) (f+1) r c h
      exact⟨h1,fun x hx=>by have:=h2 x hx;omega⟩
def okBd (N:Nat) (d:BndD):Prop:=d.1.length=N∧(∀x∈d.1,(-1000:Int)≤x∧x≤(1000:Int))∧(0:Int)≤d.2.1∧d.2.1≤(1000:Int)
theorem ze4 {t:List (List Int)} {cap:Int} {k:Nat}:(zc9 t cap k).length=t.length+t.length+ncol t+k:=by
  simp only[zc9,zcM,zc3,zjm,List.length_append,zak]
theorem zkH {n:Nat} {k:Nat} {v x:Int} (h:x∈zbu (n:Int) (k:Int) v):x=v∨x=0:=by
  unfold zbu at h
  rcases List.mem_or_eq_of_mem_set h with h|h
  · rw[zeu] at h
    exact .inr (List.eq_of_mem_replicate h)
  · exact .inl h
theorem okI {x:Int} (h : -1000≤x∧x≤1000):((-1000:Int)≤x∧x≤(1000:Int)):=h
theorem ziJ {t:List (List Int)} {cap:Int} (h:goodT t cap):∀d∈zc9 t cap (ncol t),okBd (ncol t+1) d:=by
  intro d hd
  have hr:∀i,i<t.length→∀x∈rowN t i,0≤x∧x≤100:=fun i hi x hx=>by
    obtain⟨j,hj,rfl⟩:=zk3 hx
    exact h.vals i j hi (by rw[←h.rows i hi];exact hj)
  simp only[zc9,zcM,zc3,zjm,List.mem_append] at hd
  rcases hd with ((hd|hd)|hd)|hd
  · obtain ⟨i,hi,rfl⟩:=zbR hd
    refine⟨by show (tab (fun j=>-vI (rowN t i) j) (rowN t i).length++[1]).length=_;rw[List.length_append,zak,h.rows i hi];rfl,fun x hx=>?_,Int.le_refl _,by show (0:Int)≤1000;decide⟩
    have hx:x∈tab (fun j=>-vI (rowN t i) j) (rowN t i).length++[1]:=hx
    rcases List.mem_append.1 hx with hx|hx
    · obtain⟨j,hj,rfl⟩:=zbR hx
      exact okI (by have:=hr i hi _ (zhl hj);omega)
    · rw[List.mem_singleton.1 hx];exact⟨by decide,by decide⟩
  · obtain⟨i,hi,rfl⟩:=zbR hd
    refine⟨by show (rowN t i++[0]).length=_;rw[List.length_append,h.rows i hi];rfl,fun x hx=>?_,h.cap0.1,h.cap0.2⟩
    have hx:x∈rowN t i++[0]:=hx
    rcases List.mem_append.1 hx with hx|hx
    · exact okI (by have:=hr i hi _ hx;omega)
    · rw[List.mem_singleton.1 hx];exact⟨by decide,by decide⟩
  · obtain⟨j,hj,rfl⟩:=zbR hd
    refine⟨by show (zbu ((ncol t:Int)+1) (j:Int) 1).length=_;rw[zh2];omega,fun x hx=>?_,by show (0:Int)≤1;decide,by show (1:Int)≤1000;decide⟩
    rcases zkH (n:=ncol t+1) (show x∈zbu ((ncol t+1:Nat):Int) (j:Int) 1 from hx) with rfl|rfl<;>decide
  · obtain⟨j,hj,rfl⟩:=zbR hd
    refine⟨by show (zbu ((ncol t:Int)+1) (j:Int) (-1)).length=_;rw[zh2];omega,fun x hx=>?_,Int.le_refl _,by show (0:Int)≤1000;decide⟩
    rcases zkH (n:=ncol t+1) (show x∈zbu ((ncol t+1:Nat):Int) (j:Int) (-1) from hx) with rfl|rfl<;>decide
theorem zlj {b:List BndD} {k:Nat} (h:k<b.length):bdN b k∈b:=by
  have:bdN b k=b[k]:=by simp[bdN,List.getD,List.getElem?_eq_getElem h]
  rw[this];exact List.getElem_mem h
theorem zeV {t:List (List Int)} {cap:Int} (h:goodT t cap):∀c∈zbU (ncol t+1) 0 (zc9 t cap (ncol t)).length,goodA (zc9 t cap (ncol t)) c:=by
  intro c hc
  obtain⟨h1,h2⟩:=zc6 _ _ _ c hc
  have hl:=@ze4 t cap (ncol t)
  have g1:=h.le
  have g2:=h.cle
  refine⟨by omega,by omega,by omega,fun i hi=>?_,fun k hk=>?_,fun k j hk hj=>?_,fun k hk=>?_⟩
  · have:=h2 _ (zhl hi);omega
  · rw[h1];exact (ziJ h _ (zlj hk)).1
  · have hb:=ziJ h _ (zlj hk)
    exact hb.2.1 _ (zhl (by rw[hb.1,←h1];exact hj))
  · exact (ziJ h _ (zlj hk)).2.2
structure cornOK (n s:Nat) (x:zck):Prop where
  l1:List.length (α:=Int) x.1=n
  v1:∀i,i<n→(vI x.1 i).natAbs≤400000000000000
  d1:(0:Int)<x.2.1∧x.2.1≤(400000000000000:Int)
  l2:List.length (α:=Int) x.2.2.1=s
  v2:∀i,i<s→(vI x.2.2.1 i).natAbs≤400000000000000
  d2:(0:Int)<x.2.2.2.1∧x.2.2.2.1≤(400000000000000:Int)
theorem zro {b:Nat} {l y:List Int} {m:Nat} (hy:∀i,i<m→(vI y i).natAbs≤400000000000000):∀k,k≤m→∀x∈wsP b l y k,x.natAbs≤400000000000000
  | 0,_,x,hx=>by
    simp only[wsP,zeu] at hx
    rw[List.eq_of_mem_replicate hx];decide
  | k+1,hk,x,hx=>by
    simp only[wsP] at hx
    rcases List.mem_or_eq_of_mem_set hx with hx|rfl
    · exact zro hy k (by omega) x hx
    · exact hy k (by omega)
theorem zpi {b:List BndD} {c:List Int} (hg:goodA b c) (h:(atR b c).2.1=true):cornOK c.length b.length (atR b c).1:=by
  have hx:(atX b c).2.2.1=true:=by
    cases e:(atX b c).2.2.1 with
    | true=>rfl
    | false=>rw[at_1 e] at h;cases h
  have ho:zdM b (atX b c).1 (atX b c).2.1 b.length=true:=by
    cases e:zdM b (atX b c).1 (atX b c).2.1 b.length with
    | true=>rfl
    | false=>rw[at_2 hx e] at h;cases h
  by_cases hm:mn (atY b c).1 (c.length - 1)<0
  · rw[at_3 hx ho hm] at h;cases h
  · rw [at_4 hx ho hm]
    have b1:=fun i hi=>zh5 (pX hg) (zjR hx) (i:=i) (by rw[zaJ];exact hi)
    have b2:=fun i hi=>zh5 (pY hg) (zof hg hx) (i:=i) (by rw[zf9,zaJ];exact hi)
    refine⟨zp9 hx,fun i hi=>?_,zgh (pX hg) (zjR hx),zdC _,fun i hi=>?_,zgh (pY hg) (zof hg hx)⟩
    · have:=b1 i hi
      show (vI (zay (zaz b c c.length) (rhsP b c c.length)).1 i).natAbs≤_
      omega
    · refine zro (m:=c.length) (fun i hi=>?_) c.length (Nat.le_refl _) _ (zhl (by rw[zdC];exact hi))
      have:=b2 i hi
      show (vI (zay (trM (zaz b c c.length)) (zbu (c.length:Int) ((c.length:Int) - 1) 1)).1 i).natAbs≤_
      omega
theorem zgY {b:List BndD} {x:zck}:∀ {l:List (List Int)},zfW b l=some x→∃c∈l,(atR b c).2.1=true∧(atR b c).1=x
  | [],h=>by cases h
  | c :: r,h=>by
    simp only[zfW] at h
    split at h
    · exact⟨c,List.mem_cons_self,by assumption,Option.some.inj h⟩
    · obtain⟨d,h1,h2⟩:=zgY h
      exact⟨d,List.mem_cons_of_mem _ h1,h2⟩
def zgZ (t:List (List Int)) (cap:Int):Option zck:=zjL (zc9 t cap (ncol t)) (ncol t)
theorem zq4 {t:List (List Int)} {cap:Int} {x:zck} (h:goodT t cap) (hx:zgZ t cap=some x):cornOK (ncol t+1) (t.length+t.length+ncol t+ncol t) x:=by
  obtain⟨c,hc,h1,rfl⟩:=zgY hx
  have hg:=zeV h c hc
  have:=zpi hg h1
  rw[(zc6 _ _ _ c hc).1,ze4] at this
  exact this
abbrev zre:Type:=zlZ.Den
abbrev WgtD:Type:=zdB.Den
def bO (x:zck) (n:Nat):zre:=((redL (List.take n x.1) x.2.1).2,(redL (List.take n x.1) x.2.1).1,())
def bWl (x:zck) (s n:Nat):List Int:=(redL (List.take (2*s+n) x.2.2.1) x.2.2.2.1).1
def bW (x:zck) (s n:Nat):WgtD:=((redL (List.take (2*s+n) x.2.2.1) x.2.2.2.1).2,(bWl x s n).take s,((bWl x s n).take (2*s)).drop s,(bWl x s n).drop (2*s),())
def bV (x:zck) (n:Nat):zcJ.Den:=(Int.tdiv (vI x.1 n) (gcd2 (vI x.1 n) x.2.1),Int.tdiv x.2.1 (gcd2 (vI x.1 n) x.2.1),())
def pBO (t:List (List Int)) (cap:Int):Prop:=goodT t cap∧(zgZ t cap).isSome=true
abbrev bX (t:List (List Int)) (cap:Int):zck:=(zgZ t cap).getD zfV
@[reducible] def zrB:Spec:={sRed with res:=[{t:=.sl I64},{t:=I64}]}
theorem ztC:Ok 47 zrB:=by
  refine mk (ctr:=[(48,zfI),(51,sDiv)]) ⟨h145,h148,trivial⟩ (nt:=33) Try.func47 rfl rfl rfl rfl (by kernel_rfl) (by kernel_rfl) (fun x=>[fun _=>zrX x.1 x.2.1]) ?_
  rintro⟨(l:List Int),(d:Int),_⟩ ⟨(h1:l.length≤1000),(h2:∀i,i<l.length→(vI l i).natAbs≤9000000000000000000),(h3:d.natAbs≤9000000000000000000),(h4:d≠0)⟩
  have e:(gf (l++[d]) (l++[d]).length:Int)=redG l d:=rfl
  have g1:vI (l++[d]) l.length=d:=by simp[vI]
  have g2:(l++[d]).length=l.length+1:=by simp
  have e2:redG l d≠0:=by
    have:=znr (xs:=l++[d]) (k:=l.length) (by rw[g1];exact h4)
    rw[←e,g2];exact this
  have hd:pDiv (l++[d]):=⟨by show ((l++[d]).length:Int)≤4611686018427387904;rw[g2];omega,fun i hi=>by
    by_cases hl:i<l.length
    · have:vI (l++[d]) i=vI l i:=by simp[vI,List.getElem?_append_left hl]
      rw[this];exact h2 i hl
    · have:i=l.length:=by omega
      subst this
      rw[g1];exact h3⟩
  repeat' (intro hzz;(try (rename Two=>hq;cases hq));(try dsimp only at hzz);(try simp only[zad,zac,eqD,inR,big,zab,zB] at hzz);(try simp only[zad,zac,eqD,inR,big,zab,zB,zaP,zak,e] at hzz);(try (revert hzz;intro _)))
  all_goals try (rename Unit=>hq;clear hq)
  all_goals try ((with_reducible refine Held.mk ?_);(with_reducible (first|refine Frz.mk ?_|refine And.intro (Frz.mk ?_) ?_|refine And.intro ?_ (Frz.mk ?_)));repeat' first|exact True.intro|(change _=_;with_reducible rfl)|refine And.intro ?_ ?_|(with_reducible refine Frz.mk ?_))
  all_goals try (refine Held.mk ?_;(try dsimp only at *);(try simp only[zad,zac,eqD,inR,big,zab,zB] at *);(try simp only[zad,zac,eqD,inR,big,zab,zB,zaP,zak,e] at *))
  · show l.length≤2000000000;omega
  · show l.length+1≤2147483648;omega
  · exact hd
  ·
    refine zaq.mk ?_
    refine Exists.intro 0 ?_
    refine And.intro (Leaf.mk ?_) ?_
    · repeat' first|exact True.intro|refine And.intro ?_ ?_
      all_goals try ((change _=_<;>try dsimp only)<;>try with_reducible rfl)
      all_goals try omega
      all_goals (rfl)
    exact Nat.zero_le _
  · omega
  · rename_i k hk hg
    exact⟨e2,zoo (h2 k (by omega))⟩
  · rename_i k hk hg
    show k+1≤2147483648;omega
  · omega
  · rename_i k hk hg
    refine zaq.mk ?_
    refine Exists.intro (k+1) ?_
    refine And.intro (Leaf.mk ?_) ?_
    · repeat' first|exact True.intro|refine And.intro ?_ ?_
      all_goals try ((change _=_<;>try dsimp only)<;>try with_reducible rfl)
      all_goals try omega
      all_goals (rfl)
    exact⟨by show k+1≤l.length;omega,by show l.length - (k+1)<l.length - k;omega⟩
  · exact⟨e2,zoo h3⟩
  · rename_i k hk hg
    rw[show k=l.length by omega];exact⟨rfl,rfl⟩
theorem natA {n:Int} (h1:0<n) (h2:n≤400000000000000):n.natAbs≤9000000000000000000∧n≠0:=by omega
@[reducible] def zj3:Spec:={pats:=[.dat zhh],res:=[{t:=zlZ},{t:=zdB},{t:=zcJ}],pre:=fun x=>pBO x.1.1 x.1.2.1,f:=fun x=>(bO (bX x.1.1 x.1.2.1) (ncol x.1.1),bW (bX x.1.1 x.1.2.1) (List.length (α:=List Int) x.1.1) (ncol x.1.1),bV (bX x.1.1 x.1.2.1) (ncol x.1.1),())}
theorem h102:Ok 27 zj3:=by
  refine mk (ctr:=[(33,sLow),(45,zrC),(46,zj4),(47,zrB),(48,zfI)]) ⟨h107,h142,ztA,ztC,h145,trivial⟩ (nt:=76) Try.func27 rfl rfl rfl rfl (by kernel_rfl) (by kernel_rfl) (fun _=>[]) ?_
  rintro⟨⟨(t:List (List Int)),(cap:Int),_⟩,_⟩ h
  have h':goodT t cap∧(zgZ t cap).isSome=true:=h
  obtain⟨hg,hs⟩:=h'
  obtain⟨x,hx⟩:=Option.isSome_iff_exists.1 hs
  have eX:(zjL (zc9 t cap (ncol t)) (ncol t)).getD zfV=x:=by
    rw[show zjL (zc9 t cap (ncol t)) (ncol t)=some x from hx];rfl
  have hc:=zq4 hg hx
  obtain⟨l1,v1,d1,l2,v2,d2⟩:=hc
  have g1:=hg.le
  have g2:=hg.cle
  have e2:(2*(t.length:Int)).toNat=2*t.length:=by omega
  have e3:(2*(t.length:Int)+(ncol t:Int)).toNat=2*t.length+ncol t:=by omega
  have r1:(redL (List.take (ncol t) x.1) x.2.1).1.length=ncol t:=by
    show (tab _ (List.take (ncol t) x.1).length).length=_
    rw[zak,List.length_take,l1];exact Nat.min_eq_left (Nat.le_succ _)
  have r2:(redL (List.take (2*t.length+ncol t) x.2.2.1) x.2.2.2.1).1.length=2*t.length+ncol t:=by
    show (tab _ (List.take (2*t.length+ncol t) x.2.2.1).length).length=_
    rw[zak,List.length_take,l2];exact Nat.min_eq_left (by omega)
  have w1:∀i,i<ncol t→vI (List.take (ncol t) x.1) i=vI x.1 i:=fun i hi=>by simp[vI,List.getD,List.getElem?_take,hi]
  have w2:∀i,i<2*t.length+ncol t→vI (List.take (2*t.length+ncol t) x.2.2.1) i=vI x.2.2.1 i:=fun i hi=>by simp[vI,List.getD,List.getElem?_take,hi]
  have p1:pRed (List.take (ncol t) x.1) x.2.1:=by
    refine⟨by rw[List.length_take];omega,fun i hi=>?_,(natA d1.1 d1.2).1,(natA d1.1 d1.2).2⟩
    have hi':i<ncol t:=by rw[List.length_take] at hi;omega
    rw[w1 i hi'];have:=v1 i (by omega);omega
  have p2:pRed (List.take (2*t.length+ncol t) x.2.2.1) x.2.2.2.1:=by
    refine⟨by rw[List.length_take];omega,fun i hi=>?_,(natA d2.1 d2.2).1,(natA d2.1 d2.2).2⟩
    have hi':i<2*t.length+ncol t:=by rw[List.length_take] at hi;omega
    rw[w2 i hi'];have:=v2 i (by omega);omega
  have p3:pLow (vI x.1 (ncol t)) x.2.1:=⟨by have:=v1 (ncol t) (by omega);omega,(natA d1.1 d1.2).1,(natA d1.1 d1.2).2⟩
  have eb:bX t cap=x:=by show (zgZ t cap).getD zfV=x;rw[hx];rfl
  repeat' (intro hzz;(try (rename Two=>hq;cases hq));(try dsimp only at hzz);(try simp only[zad,zac,eqD,inR,big,zab,zB] at hzz);(try simp only[zad,zac,eqD,inR,big,zab,zB,zbO,zaP,zcl,zdS,zdT,Int.toNat_natCast,eX,e2,e3] at hzz);(try (revert hzz;intro _)))
  all_goals try (rename Unit=>hq;clear hq)
  all_goals try ((with_reducible refine Held.mk ?_);(with_reducible (first|refine Frz.mk ?_|refine And.intro (Frz.mk ?_) ?_|refine And.intro ?_ (Frz.mk ?_)));repeat' first|exact True.intro|(change _=_;with_reducible rfl)|refine And.intro ?_ ?_|(with_reducible refine Frz.mk ?_))
  all_goals try (refine Held.mk ?_;(try dsimp only at *);(try simp only[zad,zac,eqD,inR,big,zab,zB] at *);(try simp only[zad,zac,eqD,inR,big,zab,zB,zbO,zaP,zcl,zdS,zdT,Int.toNat_natCast,eX,e2,e3] at *))
  · exact hg
  · exact⟨ncol t,rfl,g2,hs,by rw[ze4];omega,zeV hg⟩
  all_goals try (first|exact p1|exact p2|exact p3)
  · rw[l1];omega
  · omega
  · omega
  · rw[l2];omega
  · rw[r2];omega
  · rw[List.length_take];omega
  · omega
  · rw[r2];omega
  · rw[List.length_drop,List.length_take];omega
  · omega
  · rw[r2];omega
  · rw[List.length_drop];omega
  · rw[l1];omega
  · rw[eb];exact⟨⟨rfl,rfl⟩,⟨rfl,rfl,rfl,rfl⟩,rfl,rfl⟩
abbrev zpN (t:List (List Int)) (cap:Int):Prop:=chkT t cap=0→(zgZ t cap).isSome=true
def zjM (t:List (List Int)) (cap:Int):zre×WgtD×zcJ.Den×Int×Unit:=
  if chkT t cap=0 then (bO (bX t cap) (ncol t),bW (bX t cap) t.length (ncol t),bV (bX t cap) (ncol t),0,()) else ((0,[],()),(0,[],[],[],()),(0,0,()),chkT t cap,())
@[reducible] def zi3:Spec:={pats:=[.dat zhh],res:=[{t:=zlZ},{t:=zdB},{t:=zcJ},{t:=I64}],pre:=fun x=>zpN x.1.1 x.1.2.1,f:=fun x=>zjM x.1.1 x.1.2.1}
theorem h41:Ok 9 zi3:=by
  refine mk (ctr:=[(26,zlp),(27,zj3)]) ⟨h65,h102,trivial⟩ (nt:=27) Try.func9 rfl rfl rfl rfl (by kernel_rfl) (by kernel_rfl) (fun _=>[]) ?_
  rintro⟨⟨(t:List (List Int)),(cap:Int),_⟩,_⟩ h
  have h':chkT t cap=0→(zgZ t cap).isSome=true:=h
  repeat' (intro hzz;(try (rename Two=>hq;cases hq));(try dsimp only at hzz);(try simp only[zad,zac,eqD,inR,big,zab,zB] at hzz);(try (revert hzz;intro _)))
  all_goals try (rename Unit=>hq;clear hq)
  all_goals try ((with_reducible refine Held.mk ?_);(with_reducible (first|refine Frz.mk ?_|refine And.intro (Frz.mk ?_) ?_|refine And.intro ?_ (Frz.mk ?_)));repeat' first|exact True.intro|(change _=_;with_reducible rfl)|refine And.intro ?_ ?_|(with_reducible refine Frz.mk ?_))
  all_goals try (refine Held.mk ?_;(try dsimp only at *);(try simp only[zad,zac,eqD,inR,big,zab,zB] at *))
  · rename_i hc
    have e:zjM t cap=((0,[],()),(0,[],[],[],()),(0,0,()),chkT t cap,()):=if_neg hc
    rw[e];exact⟨⟨rfl,rfl⟩,⟨rfl,rfl,rfl,rfl⟩,⟨rfl,rfl⟩,rfl⟩
  · rename_i hc
    exact⟨zds hc,h' hc⟩
  · rename_i hc
    have e:zjM t cap=(bO (bX t cap) (ncol t),bW (bX t cap) t.length (ncol t),bV (bX t cap) (ncol t),0,()):=if_pos hc
    rw[e];exact⟨⟨rfl,rfl⟩,⟨rfl,rfl,rfl,rfl⟩,⟨rfl,rfl⟩,rfl⟩
theorem zsx:zfl 34000 34000 [((0,0,0,()),1000,0,()),((0,0,100,()),500,400,())] (0,0,500,())=0:=by decide +kernel
theorem ztK:reT (zff 34000 34000 [((0,0,0,()),1000,0,()),((0,0,100,()),500,400,())] (0,0,500,()) 2) 2=3250000:=by decide +kernel
theorem ztJ:imT (zff 34000 34000 [((0,0,0,()),1000,0,()),((0,0,100,()),500,400,())] (0,0,500,()) 2) 2=0:=by decide +kernel
theorem ztI:prC (zaY 34000 34000 [((0,0,0,()),1000,0,()),((0,0,100,()),500,400,())] (0,0,500,()))=cpxI 3250000 0:=by
  unfold zaY
  rw[if_pos zsx]
  unfold prC
  rw[if_pos rfl]
  show cpxI (reT (zff 34000 34000 _ _ 2) 2) (imT (zff 34000 34000 _ _ 2) 2)=_
  rw[ztK,ztJ]
abbrev pTen (n:Nat):Prop:=n≤1000
@[reducible] def zrK:Spec:={pats:=[.dat ArrT],res:=[{t:=ArrT}],pre:=fun x=>pTen (List.length (α:=SpkD) x.1.2.2.1),f:=fun x=>(x.1,())}
theorem h26:Ok 7 zrK:=by
  refine mk (ctr:=[]) trivial (nt:=9) Try.func7 rfl rfl rfl rfl (by kernel_rfl) (by kernel_rfl) (fun _=>[]) ?_
  rintro⟨⟨(r:Int),(v:Int),(xs:List SpkD),_⟩,_⟩ (hp:xs.length≤1000)
  repeat' (intro hzz;(try (rename Two=>hq;cases hq));(try dsimp only at hzz);(try simp only[zad,zac,eqD,inR,big,zab,zB] at hzz);(try (revert hzz;intro _)))
  all_goals try (rename Unit=>hq;clear hq)
  all_goals try ((with_reducible refine Held.mk ?_);(with_reducible (first|refine Frz.mk ?_|refine And.intro (Frz.mk ?_) ?_|refine And.intro ?_ (Frz.mk ?_)));repeat' first|exact True.intro|(change _=_;with_reducible rfl)|refine And.intro ?_ ?_|(with_reducible refine Frz.mk ?_))
  all_goals try (refine Held.mk ?_;(try dsimp only at *);(try simp only[zad,zac,eqD,inR,big,zab,zB] at *))
  · show 0+xs.length≤2147483648;omega
  · rfl
abbrev minI (a b:Int):Int:=if b<a then b else a
abbrev maxI (a b:Int):Int:=if a<b then b else a
def mnG (f:Nat→Int):Nat→Int
  | 0=>f 0
  | k+1=>minI (mnG f k) (f (k+1))
def mxG (f:Nat→Int):Nat→Int
  | 0=>f 0
  | k+1=>maxI (mxG f k) (f (k+1))
@[irreducible] def mnS (f:Nat→Int) (k:Nat):Int:=match k with|0=>0|k+1=>mnG f k
@[irreducible] def mxS (f:Nat→Int) (k:Nat):Int:=match k with|0=>0|k+1=>mxG f k
def rv (x:RayD) (j:Nat):Int×Int:=shr (x.2.2.1.1+((j / 2:Nat):Int)+x.1.2.2.1) (x.1.2.1*if j % 2=0 then x.2.1.1 else x.2.1.2.1)
def rvR (x:RayD) (j:Nat):Int:=(rv x j).1
def rvI (x:RayD) (j:Nat):Int:=(rv x j).2
def nEn (x:RayD):Nat:=Int.toNat ((x.2.2.1.2.1:Int) - x.2.2.1.1+1)
abbrev EndD:Type:=ztX.Den
def endR (x:RayD):EndD:=((mnS (rvR x) (2*nEn x),mxS (rvR x) (2*nEn x),()),(mnS (rvI x) (2*nEn x),mxS (rvI x) (2*nEn x),()),())
def Hid (p:Prop):Prop:=p
end Go.Eng.Ar
namespace Go.Eng.Ar
open Go.Eng Go.Proofs Go.ChangeShapes Go.WideShapes Go.ChangeAt Go.RowKit
set_option linter.all false
set_option maxRecDepth 100000
@[reducible] def zkk (tys:List Ty):Spec:={pats:=datP tys,res:=[{t:=.bool}],pre:=zkq tys,f:=fun _=>(true,())}
theorem own:ownKnob Try.prog.godebug=none:=by kernel_rfl
theorem zqF:laidOutB Try.prog=true:=by kernel_rfl
theorem znh {H:Type} {enc:TypeId×Value→H} {F:Nat} {tys:List Ty} (h:Ok F (zkk tys)) {W:World} {args:Array Value} {ds:List (DataW H)} {ps:List MemPlace} {ts:List TypeId} {base:Nat} (hbr:zph tt ts tys)
    (hA:DataW.TrodAll enc Try.prog W 0 (fun _=>true) true ts args.toList ds ps) (hval:∀(j:Nat) t v,ts[j]?=some t→args.toList[j]?=some v→Value.okWide Try.prog W .any base t v) :
    Calls Try.prog F args W fun e W'=>e=.returned (.bool true)∧Below W.heap.size W W':=by
  obtain⟨x,hx,hf⟩:=zn3 tbl (OB:=OB) hbr hA hval
  have:=h.1 W (fun _=>False) x args.toList [] (fun _ h=>h.elim) hx hf
  refine this.mono fun e W' ⟨rs,g,h1,h2,h3⟩=>?_
  subst h1
  obtain⟨v,vs',rfl,⟨l,r1,⟨r2,_⟩|⟨_,r2⟩⟩,rfl,rfl⟩:=h3
  · cases r2
  · have r1:l=[.bool true]:=r1
    rw[r1] at r2
    simp at r2
    subst r2
    exact⟨rfl,h2.os,h2.tape,h2.output,h2.size,fun k hk=>h2.keep k hk (by simp)⟩
theorem zqJ {W W':World} (h:Below W.heap.size W W') (may:MemPlace→Prop):W.keptBut W' may:=by
  refine⟨h.os,h.output,fun i hi=>?_⟩
  rw[h.block i hi]
  split
  · rename_i h1 h2
    rw[h1] at h2
    simp only[Option.some.injEq,Obj.cells.injEq] at h2
    obtain⟨rfl,rfl,rfl⟩:=h2
    exact⟨rfl,rfl,rfl,fun _ _=>rfl⟩
  · rename_i h1 h2
    rw[h1] at h2
    simp only[Option.some.injEq,Obj.map.injEq] at h2
    obtain⟨rfl,rfl⟩:=h2
    exact .inr ⟨rfl,rfl⟩
  · rfl
def zgp (P:Program):List TypeId→Bool
  | []=>true
  | t::r=>P.readableRec t&&decide (t<P.types.size)&&zgp P r
theorem zeF {P:Program} (hl:laidOutB P=true) {H:Type} {enc:TypeId×Value→H} {W W':World} (hb:Below W.heap.size W W'):∀ {ts:List TypeId} {vs:List Value} {ds:List (DataW H)} {ps:List MemPlace},zgp P ts=true→
    DataW.TrodAll enc P W 0 (fun _=>true) true ts vs ds ps→DataW.TrodAll enc P W' 0 (fun b=>decide (b<W.heap.size)) true ts vs ds ps
  | [],[],[],_,_,h=>h
  | t::ts,v::vs,d::ds,ps,hr,⟨p,q,h1,h2,h3⟩=>by
    simp only[zgp,Bool.and_eq_true,decide_eq_true_eq] at hr
    have hlt:=DataW.TrodAll.lt (show DataW.TrodAll enc P W 0 (fun _=>true) true (t::ts) (v::vs) (d::ds) ps from ⟨p,q,h1,h2,h3⟩)
    subst h3
    exact⟨p,q,Below.trod hl hr.1.1 hr.1.2 h1 hb (fun x hx=>hlt x (List.mem_append.2 (.inl hx))),zeF hl hb hr.2 h2,rfl⟩
theorem zoS {H:Type} {enc:TypeId×Value→H} {f:Func} {s:ChangeSpec} {W W':World} {args:Array Value} {ds gs:List (DataW H)} {before:List MemPlace}
    (hW:DataW.Whole enc Try.prog f.params.toList s.vars false W args.toList ds gs before) (hv:s.vars=[]) (hr:f.resultTypes.toList=[4]) (hs:f.resultTypes.size=1) (hfn:s.fn H (ds++gs) = {results:=[.lit (.bool true)],args:=ds}) (hread:zgp Try.prog f.params.toList=true)
    (hb:Below W.heap.size W W'):s.post enc Try.prog f false true false false W args (.bool true) W':=by
  have hW0:=hW
  obtain⟨p,q,hA,hV,rfl,_,_⟩:=hW
  rw[hv] at hV
  obtain⟨rfl,rfl⟩:=trodVars_none hV
  refine⟨ds,[],p++[],[],p,[],hW0,?_,?_,?_,zqJ hb _,fun h=>by cases h⟩
  · rw[hfn,hr,hs]
    exact trodAll_cons_mk (shut_bool Try.underlying4 true) trodAll_mk0
  · rw[hfn]
    exact zeF zqF hb hread hA
  · rw[hfn,hv]
    rfl
theorem zlB {F:Nat} {fn:Func} {s:ChangeSpec} {tys:List Ty} (h:Ok F (zkk tys)) (hf:Try.prog.funcs[F]?=some fn) (hinit:Try.prog.inits.idxOf? F=none) (hbr:zph tt fn.params.toList tys) (hv:s.vars=[]) (hr:fn.resultTypes.toList=[4]) (hs:fn.resultTypes.size=1)
    (hread:zgp Try.prog fn.params.toList=true) (hfn:∀(H:Type) (ds:List (DataW H)),ds.length=fn.params.size→s.fn H (ds++[]) = {results:=[.lit (.bool true)],args:=ds})
    (os:Os) (started:os.Started) (H:Type) (enc:TypeId×Value→H)
    (wit:∃(w:World) (tape:Tape) (i:Input),w.os=os∧(w.forCall tape i).Shaped Try.checked.prog∧i.vars=[]∧Input.okWide Try.checked.prog (w.forCall tape i) .any w.heap.size F i∧
      s.pre6 enc Try.checked.prog fn [] false (w.forCall tape i).memory i.args∧({modest:=false}:Assume).holds Try.checked.prog (lone (Frame.enter Try.checked.prog F i.args .normal) [] (w.forCall tape i))) :
    ReturnsInHanded {} Try.checked os F .any (s.pre6 enc Try.prog fn [] false) (s.post enc Try.prog fn false true false false):=by
  refine returnsInHanded_of_change (C:=Try.checked) own started hinit hf wit ?_
  intro W base args ds gs before hval hW _ _
  have hW0:=hW
  obtain⟨p,q,hA,hV,rfl,_,_⟩:=hW
  have hV':DataW.TrodVars enc Try.prog W (fun _=>true) [] gs q:=by rw[←hv];exact hV
  obtain⟨rfl,rfl⟩:=trodVars_none hV'
  have hlen:ds.length=fn.params.size:=by
    have:=(Go.trodAll_length hA).2
    simpa using this
  refine (znh h hbr hA (fun j t v h1 h2=>hval j t v (by simpa using h1) (by simpa using h2))).mono fun e W' ⟨he,hb⟩=>?_
  subst he
  exact⟨_,rfl,zoS hW0 hv hr hs (hfn H ds hlen) hread hb⟩
end Go.Eng.Ar
