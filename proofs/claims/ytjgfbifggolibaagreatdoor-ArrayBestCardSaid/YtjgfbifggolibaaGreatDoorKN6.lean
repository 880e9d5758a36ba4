/- Texts X2 A12 A13 A15 B2, as far as they are used. Conditions: each lemma's own. -/
import Derived.Test.YtjgfbifggolibaaGreatDoorKN5
import Derived.Test.YtjgfbifggolibaaGreatDoorRows
import Derived.LaidMore
import Derived.LaidLaws
import Derived.Lay
import Derived.Stop.LaidErr
import Derived.Shelf.Vars
import Derived.OpenShut
import Derived.Stop.Joined
import Derived.Handed
import Derived.WalkKit
import Derived.ChangeCalls
import Derived.ProofKit
namespace Go.Eng.Ar
open Go.Eng Go.Proofs Go.Lib
set_option linter.all false
set_option maxRecDepth 100000
set_option maxHeartbeats 8000000
theorem zjq {l:List UInt8} {k:Nat} (hk:k≤18) (h:zeh l k=true):zeb l=(numV l,false,())∧itoa (numV l)=l∧(trimPrefix l [45]).length≤k∧(-9223372036854775808≤numV l∧numV l≤9223372036854775807):=by
  obtain⟨h1,h2⟩:=zlR h
  have hb:=zth h
  have hp:10 ^ k≤10 ^ 18:=Nat.pow_le_pow_right (by decide) hk
  have hr : -9223372036854775808≤numV l∧numV l≤9223372036854775807:=by omega
  have ha:=zqi hr.1 hr.2
  rw[h1] at ha
  exact⟨by simp only[zeb,ha],h1,h2,hr⟩
theorem zn0 {l:List UInt8} (h:(zeb l).2.1=false) : -9223372036854775808≤(zeb l).1∧(zeb l).1≤9223372036854775807:=by
  simp only[zeb] at h ⊢
  cases ha:atoiAll l with
  | ok v=>have:=atoiAll_bounds ha;simp only;omega
  | _=>rw[ha] at h;cases h
theorem zqQ {p:ByteArray} {n:Int} (h:(itoa n == p.data.toList)=true):decide (((bA (trimPrefix (bL p) (bL ⟨#[45]⟩))).size:Int)≤5)=zeh (bL p) 5:=by
  have h:itoa n=bL p:=beq_iff_eq.1 h
  rw[zhS]
  have e:trimPrefix (bL p) (bL ⟨#[45]⟩)=trimPrefix (bL p) [45]:=rfl
  rw[e]
  cases hn:zeh (bL p) 5 with
  | true=>have ht:=(zjq (by decide) hn).2.2.1;exact decide_eq_true (by omega)
  | false=>
    refine decide_eq_false fun ht=>?_
    have ht:(trimPrefix (bL p) [45]).length≤5:=by omega
    rw[←h] at ht
    have:=(zlK ht).1
    rw[h,hn] at this
    cases this
theorem zqR {p:ByteArray} (h:(itoa (zeb (bL p)).1 == p.data.toList)=false):zeh (bL p) 5=false:=by
  cases hn:zeh (bL p) 5 with
  | false=>rfl
  | true=>
    obtain⟨h1,h2,_⟩:=zjq (by decide) hn
    rw[h1] at h
    exact absurd h2 (beq_eq_false_iff_ne.1 h)
theorem zqS {p:ByteArray} (h:(zeb (bL p)).2.1=true):zeh (bL p) 5=false:=by
  cases hn:zeh (bL p) 5 with
  | false=>rfl
  | true=>
    obtain⟨h1,_⟩:=zjq (by decide) hn
    rw[h1] at h;cases h
@[reducible] def zuK:Spec:={pats:=[.dat .str,.gw 3 .err,.gw 4 .err,.gw 2 PowT],res:=[{t:=I64},{t:=.bool}],pre:=fun x=>x.1.size≤1000000∧x.2.2.2.1=powD,f:=fun x=>((zeb (bL x.1)).1,zeh (bL x.1) 5,())}
theorem h129:Ok 129 zuK:=by
  refine mk (ctr:=[(125,zuO),(159,zoC),(160,zuC)]) ⟨zwZ,zw2,zwX,trivial⟩ (nt:=26) Tryz.func129 rfl rfl rfl rfl (by kernel_rfl) (by kernel_rfl) (fun _=>[]) ?_
  rintro⟨(s:ByteArray),(b0:Bool),(b1:Bool),(pw:PowT.Den),_⟩ ⟨(hs:s.size≤1000000),(hpw:pw=powD)⟩
  repeat' (intro hzz;(try (rename Two=>hq;cases hq));(try dsimp only at hzz);(try simp only[zad,zac,eqD,inR,big,zab,zB] at hzz);(try simp only[zad,zac,eqD,inR,big,zab,zB,zmb] at hzz);(try (revert hzz;intro _)))
  all_goals try (rename Unit=>hq;clear hq)
  all_goals try ((with_reducible refine Held.mk ?_);(with_reducible (first|refine Frz.mk ?_|refine And.intro (Frz.mk ?_) ?_|refine And.intro ?_ (Frz.mk ?_)));repeat' first|exact True.intro|(change _=_;with_reducible rfl)|refine And.intro ?_ ?_|(with_reducible refine Frz.mk ?_))
  all_goals try (refine Held.mk ?_;(try dsimp only at *);(try simp only[zad,zac,eqD,inR,big,zab,zB] at *);(try simp only[zad,zac,eqD,inR,big,zab,zB,zmb] at *))
  · exact hs
  · rename_i h;exact⟨zn0 h,hpw⟩
  · rename_i h1 h2;exact zqQ h2
  · rename_i h1 h2;exact (zqR h2).symm
  · rename_i h1;exact (zqS h1).symm
theorem zlb (s:ByteArray):(cutP s).1.size≤s.size∧(cutP s).2.1.size≤s.size:=by
  unfold cutP Lib.cut
  rw[zhS,zhS]
  split
  · simp only[List.length_take,List.length_drop,znc];omega
  · simp only[List.length_nil,znc];omega
abbrev zrw:Type:=zbY.Den
def gdP (p:ByteArray):zrw:=((zeb (bL (cutP p).1)).1,(zeb (bL (cutP p).2.1)).1,())
def okP (p:ByteArray):Bool:=zeh (bL (cutP p).1) 5&&zeh (bL (cutP p).2.1) 5
abbrev strN (L:List ByteArray) (i:Nat):ByteArray:=L.getD i ByteArray.empty
def gdL (L:List ByteArray) (k:Nat):List zrw:=tab (fun i=>gdP (strN L i)) k
def pgL (L:List ByteArray):List zrw×Int×Unit:=if L.all okP=true then (if L.length≤8 then (if L.all (fun p=>decide (zfA (gdP p).1 (gdP p).2.1=0))=true then (gdL L L.length,0,()) else ([],2,())) else ([],8,())) else ([],7,())
def pgR (s:ByteArray):List zrw×Int×Unit:=pgL (cutB 59 s)
theorem zsB {L:List ByteArray} {p:ByteArray→Bool} {k:Nat} (hk:k<L.length) (h:p (strN L k)=false):L.all p=false:=by
  rw[List.all_eq_false]
  refine⟨L[k],List.getElem_mem hk,?_⟩
  have:strN L k=L[k]:=by simp[strN,List.getD,List.getElem?_eq_getElem hk]
  rw[this] at h;simp[h]
theorem zj4 {L:List ByteArray} {p:ByteArray→Bool} (h:∀i,i<L.length→p (strN L i)=true):L.all p=true:=by
  rw[List.all_eq_true]
  intro x hx
  obtain⟨i,hi,rfl⟩:=List.mem_iff_getElem.1 hx
  have:=h i hi
  have e:strN L i=L[i]:=by simp[strN,List.getD,List.getElem?_eq_getElem hi]
  rwa [e] at this
theorem pg7 {L:List ByteArray} {k:Nat} (hk:k<L.length) (h:okP (strN L k)=false):pgL L=([],7,()):=by
  unfold pgL;rw[zsB hk h];rfl
theorem pg8 {L:List ByteArray} (h:∀i,i<L.length→okP (strN L i)=true) (hl:8<L.length):pgL L=([],8,()):=by
  unfold pgL;rw[zj4 h,if_pos rfl,if_neg (by omega)]
theorem pg2 {L:List ByteArray} {k:Nat} (h:∀i,i<L.length→okP (strN L i)=true) (hl:L.length≤8) (hk:k<L.length) (hg:¬zfA (gdP (strN L k)).1 (gdP (strN L k)).2.1=0):pgL L=([],2,()):=by
  unfold pgL;rw[zj4 h,if_pos rfl,if_pos hl,zsB hk (decide_eq_false hg)];rfl
theorem pg0 {L:List ByteArray} (h:∀i,i<L.length→okP (strN L i)=true) (hl:L.length≤8) (hg:∀i,i<L.length→zfA (gdP (strN L i)).1 (gdP (strN L i)).2.1=0):pgL L=(gdL L L.length,0,()):=by
  unfold pgL;rw[zj4 h,if_pos rfl,if_pos hl,zj4 (fun i hi=>decide_eq_true (hg i hi)),if_pos rfl]
theorem zsm {g d:Int} (h:¬zfA g d=0):zfA g d=2:=by
  unfold zfA at *;split at h
  · exact absurd rfl h
  · rename_i h1;rw[if_neg h1]
theorem ziu (c:UInt8):∀(l:List UInt8),∀p∈zbI c l,p.length≤l.length
  | [],p,hp=>by
    simp only[zbI,List.mem_singleton] at hp
    subst hp;exact Nat.le_refl _
  | b :: l,p,hp=>by
    have ih:=ziu c l
    simp only[zbI] at hp
    split at hp
    · rcases List.mem_cons.1 hp with rfl|h
      · simp
      · have:=ih p h;simp only[List.length_cons];omega
    · split at hp
      · rename_i q r hq
        rcases List.mem_cons.1 hp with rfl|h
        · have:=ih q (by rw[hq];simp);simp only[List.length_cons];omega
        · have:=ih p (by rw[hq];simp[h]);simp only[List.length_cons];omega
      · rw[List.mem_singleton] at hp;subst hp;simp
theorem zp7 (c:UInt8) (s:ByteArray) (i:Nat):((cutB c s).getD i ByteArray.empty).size≤s.size:=by
  rw[List.getD_eq_getElem?_getD]
  cases h:(cutB c s)[i]? with
  | none=>exact Nat.zero_le _
  | some p=>
    have hm:=List.mem_of_getElem? h
    simp only[cutB,List.mem_map] at hm
    obtain⟨q,hq,rfl⟩:=hm
    have:=ziu c (bL s) q hq
    rw[znc] at this
    show (bA q).size≤_
    rw[zhS];exact this
@[reducible] def zow:Spec:={pats:=[.dat .str,.gw 3 .err,.gw 4 .err,.gw 2 PowT,.gw 1 I64],res:=[{t:=.sl zbY},{t:=I64}],pre:=fun x=>x.1.size≤1000000∧x.2.2.2.1=powD,f:=fun x=>pgR x.1}
def zwN (L:List ByteArray):LoopAnn:={σ:=Nat,pat:=fun k=>[sI 20 k,.slot 4 (.one (.o 60004 k)),.row 60004 82 zbY (gdL L k)],inv:=fun k=>k≤L.length∧∀i,i<k→okP (strN L i)=true,meas:=fun k=>L.length - k}
def zvr (L:List ByteArray):LoopAnn:={σ:=Nat,pat:=fun k=>[sI 58 k],inv:=fun k=>k≤L.length∧∀i,i<k→zfA (gdP (strN L i)).1 (gdP (strN L i)).2.1=0,meas:=fun k=>L.length - k}
theorem h67:Ok 67 zow:=by
  refine mk (ctr:=[(86,zks),(127,zrL),(128,sCut),(129,zuK)]) ⟨h86,zvK,hCut,h129,trivial⟩ (nt:=72) Tryz.func67 rfl rfl rfl rfl (by kernel_rfl) (by kernel_rfl) (fun x=>[fun _=>zwN (cutB 59 x.1),fun _=>zvr (cutB 59 x.1)]) ?_
  rintro⟨(s:ByteArray),(b0:Bool),(b1:Bool),(pw:PowT.Den),(m:Int),_⟩ ⟨(hs:s.size≤1000000),(hpw:pw=powD)⟩
  have hc:=zp7 59 s
  have hcl:=zm0 59 s
  have hN:∀k,k<(cutB 59 s).length→(gdL (cutB 59 s) (cutB 59 s).length).getD k zbY.dflt=gdP (strN (cutB 59 s) k):=fun k hk=>zaB _ _ _ _ hk
  have hG:∀k,(gdL (cutB 59 s) k).length=k:=fun k=>zal _ _
  repeat' (intro hzz;(try (rename Two=>hq;cases hq));(try dsimp only at hzz);(try simp only[zad,zac,eqD,inR,big,zab,zB] at hzz);(try simp only[zad,zac,eqD,inR,big,zab,zB,zmb,Int.toNat_natCast] at hzz);(try (revert hzz;intro _)))
  all_goals try (rename Unit=>hq;clear hq)
  all_goals try ((with_reducible refine Held.mk ?_);(with_reducible (first|refine Frz.mk ?_|refine And.intro (Frz.mk ?_) ?_|refine And.intro ?_ (Frz.mk ?_)));repeat' first|exact True.intro|(change _=_;with_reducible rfl)|refine And.intro ?_ ?_|(with_reducible refine Frz.mk ?_))
  all_goals try (refine Held.mk ?_;(try dsimp only at *);(try simp only[zad,zac,eqD,inR,big,zab,zB] at *);(try simp only[zad,zac,eqD,inR,big,zab,zB,zmb,Int.toNat_natCast] at *))
  all_goals try omega
  · exact⟨hs,rfl⟩
  ·
    refine zaj.mk ?_
    refine Exists.intro (0:Nat) ?_
    refine And.intro (Leaf.mk ?_) ?_
    · repeat' first|exact True.intro|refine And.intro ?_ ?_
      all_goals try ((change _=_<;>try dsimp only)<;>try with_reducible rfl)
      all_goals try omega
      all_goals (rfl)
    exact⟨Nat.zero_le _,fun i hi=>absurd hi (Nat.not_lt_zero _)⟩
  · exact⟨Nat.le_trans (hc _) hs,rfl⟩
  · exact⟨Nat.le_trans (zlb _).1 (Nat.le_trans (hc _) hs),hpw⟩
  · exact⟨Nat.le_trans (zlb _).2 (Nat.le_trans (hc _) hs),hpw⟩
  · rename_i k hk hlt h1 h2
    have e:pgR s=([],7,()):=pg7 (k:=k) (by omega) (by show (_&&_)=false;rw[Bool.and_eq_false_iff];exact .inr h2)
    rw[e];exact⟨rfl,rfl⟩
  · rename_i k hk hlt h1 h2
    rw[hG]
    refine⟨rfl,?_⟩
    show k+1≤2147483648;omega
  · rename_i k hk hlt h1 h2
    refine zaj.mk ?_
    refine Exists.intro (k+1) ?_
    refine And.intro (Leaf.mk ?_) ?_
    · repeat' first|exact True.intro|refine And.intro ?_ ?_
      all_goals try ((change _=_<;>try dsimp only)<;>try with_reducible rfl)
      all_goals try omega
      all_goals (first|rfl|exact (hG (k+1)).symm|exact hG (k+1))
    refine⟨⟨by show k+1≤(cutB 59 s).length;omega,fun i hi=>?_⟩,by show (cutB 59 s).length - (k+1)<(cutB 59 s).length - k;omega⟩
    by_cases e:i=k
    · subst e;show (_&&_)=true;rw[Bool.and_eq_true];exact⟨h1,h2⟩
    · exact hk.2 i (by omega)
  · rename_i k hk hlt h1
    have e:pgR s=([],7,()):=pg7 (k:=k) (by omega) (by show (_&&_)=false;rw[Bool.and_eq_false_iff];exact .inl h1)
    rw[e];exact⟨rfl,rfl⟩
  · rename_i k hk hlt h1
    have e:pgR s=([],8,()):=pg8 (fun i hi=>hk.2 i (by omega)) (by omega)
    rw[e];exact⟨rfl,rfl⟩
  ·
    refine zaj.mk ?_
    refine Exists.intro (0:Nat) ?_
    refine And.intro (Leaf.mk ?_) ?_
    · repeat' first|exact True.intro|refine And.intro ?_ ?_
      all_goals try ((change _=_<;>try dsimp only)<;>try with_reducible rfl)
      all_goals try omega
      all_goals (rfl)
    exact⟨Nat.zero_le _,fun i hi=>absurd hi (Nat.not_lt_zero _)⟩
  · rename_i n hn hle h8 k hk hlt
    rw[hG];omega
  · rename_i n hn hle h8 k hk hlt h
    have hn1:=hn.1
    obtain rfl:n=(cutB 59 s).length:=by omega
    rw[hN k (by omega)] at h
    rw[hN k (by omega)]
    have e:pgR s=([],2,()):=pg2 (fun i hi=>hn.2 i (by omega)) (by omega) (by omega) h
    rw[e];exact⟨rfl,zsm h⟩
  · rename_i n hn hle h8 k hk hlt h
    have hn1:=hn.1
    obtain rfl:n=(cutB 59 s).length:=by omega
    rw[hN k (by omega)] at h
    refine zaj.mk ?_
    refine Exists.intro (k+1) ?_
    refine And.intro (Leaf.mk ?_) ?_
    · repeat' first|exact True.intro|refine And.intro ?_ ?_
      all_goals try ((change _=_<;>try dsimp only)<;>try with_reducible rfl)
      all_goals try omega
      all_goals (rfl)
    refine⟨⟨by show k+1≤(cutB 59 s).length;omega,fun i hi=>?_⟩,by show (cutB 59 s).length - (k+1)<(cutB 59 s).length - k;omega⟩
    by_cases e:i=k
    · subst e;exact h
    · exact hk.2 i (by omega)
  all_goals try exact (hG _).symm
  · rename_i n hn hle h8 k hk hlt
    have hn1:=hn.1
    obtain rfl:n=(cutB 59 s).length:=by omega
    have e:pgR s=(gdL (cutB 59 s) (cutB 59 s).length,0,()):=pg0 (fun i hi=>hn.2 i (by omega)) (by omega) (fun i hi=>hk.2 i (by omega))
    rw[e];exact⟨rfl,rfl⟩
end Go.Eng.Ar
namespace Go.Eng.Ar
open Go.Eng Go.Proofs
set_option linter.all false
set_option maxRecDepth 100000
set_option maxHeartbeats 8000000
theorem zvU:zh2 34000 34000 [((0,0,0,()),1000,0,()),((0,0,100,()),500,400,())] (0,0,500,())=0:=by decide +kernel
theorem zw8:reT (zgF 34000 34000 [((0,0,0,()),1000,0,()),((0,0,100,()),500,400,())] (0,0,500,()) 2) 2=3250000:=by decide +kernel
theorem zw7:imT (zgF 34000 34000 [((0,0,0,()),1000,0,()),((0,0,100,()),500,400,())] (0,0,500,()) 2) 2=0:=by decide +kernel
theorem zw6:prC (ze6 34000 34000 [((0,0,0,()),1000,0,()),((0,0,100,()),500,400,())] (0,0,500,()))=cpxI 3250000 0:=by
  unfold ze6
  rw[if_pos zvU]
  unfold prC
  rw[if_pos rfl]
  show cpxI (reT (zgF 34000 34000 _ _ 2) 2) (imT (zgF 34000 34000 _ _ 2) 2)=_
  rw[zw8,zw7]
theorem ex_s:strR (0,0,0,()) (300,400,0,())=((2000,2000,()),0,()):=by decide +kernel
theorem ex_b:zhQ [[2,0],[0,4]] 3=(bO (bX [[2,0],[0,4]] 3) 2,bW (bX [[2,0],[0,4]] 3) 2 2,(2,1,()),0,()):=by
  unfold zhQ
  rw[if_pos ztN.1,←ztN.2.2];rfl
@[reducible] def zrZ:Spec:={pats:=[.gw 3 .err,.gw 4 .err,.gw 2 PowT,.gw 1 I64],res:=[{t:=.bool}],pre:=fun x=>x.2.2.1=powD,f:=fun _=>(true,())}
theorem h14:Ok 14 zrZ:=by
  refine mk (ctr:=[(17,zkp),(34,zrR),(41,zha),(46,zuE),(49,sNum),(67,zow),(72,zuH)]) ⟨h17,h34,h41,h46,h49,h67,h72,trivial⟩ (nt:=78) Tryz.func14 rfl rfl rfl rfl (by kernel_rfl) (by kernel_rfl) (fun _=>[]) ?_
  rintro⟨(b0:Bool),(b1:Bool),(pw:PowT.Den),(m:Int),_⟩ (hpw:pw=powD)
  have e1:zh2 zh0.1 zh0.2.1 zh0.2.2.1 (0,0,500,())=0:=zvU
  have e2:zlY (prC (ze6 zh0.1 zh0.2.1 zh0.2.2.1 (0,0,500,()))) (cpxI 3250000 0)=true:=by
    rw[show ze6 zh0.1 zh0.2.1 zh0.2.2.1 (0,0,500,())=ze6 34000 34000 [((0,0,0,()),1000,0,()),((0,0,100,()),500,400,())] (0,0,500,()) from rfl,zw6]
    simp[zlY]
  have e3:(strR (0,0,0,()) (300,400,0,())).2.1=0:=by rw[ex_s]
  have e4:((I64).cons ((I64).cons Ty.nil)).beq ((strR (0,0,0,()) (300,400,0,())).1.1,(strR (0,0,0,()) (300,400,0,())).1.2.1,()) (2000,2000,())=true:=by rw[ex_s];rfl
  have e5:(zbh (List.replicate 2 (I64))).beq (2,1,()) (2,1,())=true:=rfl
  have e6:(pgR {data:=#[49,48,48,48,32,48,59,53,48,48,32,52,48,48]}).2.1=0:=by decide +kernel
  have e7:(pgR {data:=#[49,48,48,48,32,48,59,53,48,48,32,52,48,48]}).1.length=2:=by decide +kernel
  have e8:(zbh (List.replicate 2 (I64))).beq (List.getD (pgR {data:=#[49,48,48,48,32,48,59,53,48,48,32,52,48,48]}).1 (Int.toNat 1) zbY.dflt) (500,400,())=true:=by decide +kernel
  repeat' (intro hzz;(try (rename Two=>hq;cases hq));(try dsimp only at hzz);(try simp only[zad,zac,eqD,inR,big,zab,zB] at hzz);(try simp only[zad,zac,eqD,inR,big,zab,zB,ex_b] at hzz);(try (revert hzz;intro _)))
  all_goals try (rename Unit=>hq;clear hq)
  all_goals try ((with_reducible refine Held.mk ?_);(with_reducible (first|refine Frz.mk ?_|refine And.intro (Frz.mk ?_) ?_|refine And.intro ?_ (Frz.mk ?_)));repeat' first|exact True.intro|(change _=_;with_reducible rfl)|refine And.intro ?_ ?_|(with_reducible refine Frz.mk ?_))
  all_goals try (refine Held.mk ?_;(try dsimp only at *);(try simp only[zad,zac,eqD,inR,big,zab,zB] at *);(try simp only[zad,zac,eqD,inR,big,zab,zB,ex_b] at *))
  · show ((2:Nat):Int)≤4611686018427387904;decide
  · exact fun _=>ztN.2.1
  · exact⟨by decide,hpw⟩
  · rw[e7];decide
  · exact e8
  · rename_i h;exact absurd (congrArg Int.ofNat e7) h
  · rename_i h;exact absurd e6 h
  · rename_i h;exact absurd (e5.symm.trans h) (by decide)
  · rename_i h;exact absurd trivial h
  · rename_i h;exact absurd (e4.symm.trans h) (by decide)
  · rename_i h;exact absurd e3 h
  · rename_i h;exact absurd (e2.symm.trans h) (by decide)
  · rename_i h;exact absurd e1 h
theorem fs23:Tryz.prog.fieldsOf 23 = #[⟨"X", 3,0,false, "", "", 0⟩,⟨"Y", 3,1,false, "", "", 8⟩,⟨"Z", 3,2,false, "", "", 16⟩]:=by kernel_rfl
theorem eqP (w:World) (d:Nat) (x1 x2 x3 y1 y2 y3:Int):(Op.equalIn (d+2) 23 (.agg #[.int .i64 x1,.int .i64 x2,.int .i64 x3]) (.agg #[.int .i64 y1,.int .i64 y2,.int .i64 y3])).run Tryz.prog w=.ok (decide (x1=y1)&&(decide (x2=y2)&&decide (x3=y3))) w:=by
  rw[run_equalIn_struct w (d+1) 23 _ _ (by rw[Tryz.underlying23,fs23]) Tryz.stoodInHeld23,fs23]
  rw[zfb w d _ _ "X" "" "" 0 0 false _ (by decide) (x:=x1) (y:=y1) rfl rfl,zfb w d _ _ "Y" "" "" 1 8 false _ (by decide) (x:=x2) (y:=y2) rfl rfl,zfb w d _ _ "Z" "" "" 2 16 false _ (by decide) (x:=x3) (y:=y3) rfl rfl]
  simp only[Op.eqFields,Sem.run_pure]
  by_cases e1:x1=y1<;>by_cases e2:x2=y2<;>by_cases e3:x3=y3<;>simp[e1,e2,e3]
theorem fs53:Tryz.prog.fieldsOf 53 = #[⟨"At", 23,0,false, "", "", 0⟩,⟨"Gain", 3,3,false, "", "", 24⟩,⟨"Delay", 3,4,false, "", "", 32⟩]:=by kernel_rfl
theorem eq53:EqOk Tryz.prog 53 SpkT:=by
  refine eqOf Tryz.eqGuardType53 fun w V x y l m hx hy=>?_
  obtain⟨p1,p2,rfl,⟨l1,l2,rfl,h1,l3,l4,rfl,h2,l5,l6,rfl,h3,h4⟩,l7,l8,rfl,h5,l9,l10,rfl,h6,h7⟩:=hx
  obtain⟨q1,q2,rfl,⟨m1,m2,rfl,g1,m3,m4,rfl,g2,m5,m6,rfl,g3,g4⟩,m7,m8,rfl,g5,m9,m10,rfl,g6,g7⟩:=hy
  obtain⟨⟨x1,x2,x3,u⟩,x4,x5,u2⟩:=x
  obtain⟨⟨y1,y2,y3,v⟩,y4,y5,v2⟩:=y
  subst h1 h2 h3 h4 h5 h6 h7 g1 g2 g3 g4 g5 g6 g7
  rw[run_equalIn_struct w 9999 53 _ _ (by rw[Tryz.underlying53,fs53]) Tryz.stoodInHeld53,fs53]
  have pp:∀(z1 z2 z3 z4 z5:Int),(part 23 #[.int .i64 z1,.int .i64 z2,.int .i64 z3,.int .i64 z4,.int .i64 z5] 0).run Tryz.prog w=.ok (.agg #[.int .i64 z1,.int .i64 z2,.int .i64 z3]) w:=fun z1 z2 z3 z4 z5=>by
    obtain⟨i,hi⟩:∃i,TIOk Tryz.prog 23 i∧i.kind.isAgg=true∧i.size=3:=⟨_,zuV,rfl,rfl⟩
    rw[zbO hi.1,if_pos hi.2.1,hi.2.2];rfl
  show (Op.eqFields 9999 #[.int .i64 x1,.int .i64 x2,.int .i64 x3,.int .i64 x4,.int .i64 x5] #[.int .i64 y1,.int .i64 y2,.int .i64 y3,.int .i64 y4,.int .i64 y5] [⟨"At", 23,0,false, "", "", 0⟩,⟨"Gain", 3,3,false, "", "", 24⟩,⟨"Delay", 3,4,false, "", "", 32⟩]).run Tryz.prog w=_
  rw[Op.eqFields]
  rw[if_pos (show "At" ≠ "_" by decide)]
  simp only[Sem.run_bind,pp,Result.andThen_ok]
  rw[show (9999:Nat)=9997+2 from rfl,eqP w 9997 x1 x2 x3 y1 y2 y3]
  simp only[Result.andThen_ok]
  by_cases e:x1=y1∧x2=y2∧x3=y3
  · obtain⟨rfl,rfl,rfl⟩:=e
    simp only[decide_true,Bool.and_self,Bool.not_true,Bool.false_eq_true,if_false]
    rw[zfb w 9998 _ _ "Gain" "" "" 3 24 false _ (by decide) (x:=x4) (y:=y4) rfl rfl,zfb w 9998 _ _ "Delay" "" "" 4 32 false _ (by decide) (x:=x5) (y:=y5) rfl rfl]
    simp only[Ty.beq,Op.eqFields,Sem.run_pure,Bool.and_true]
    by_cases e1:x4=y4<;>by_cases e2:x5=y5<;>simp[e1,e2]
  · have h1:(decide (x1=y1)&&(decide (x2=y2)&&decide (x3=y3)))=false:=by
      by_cases e1:x1=y1<;>by_cases e2:x2=y2<;>by_cases e3:x3=y3<;>simp_all
    rw[h1]
    simp only[Bool.not_false,if_true,Sem.run_pure]
    have:SpkT.beq ((x1,x2,x3,u),x4,x5,u2) ((y1,y2,y3,v),y4,y5,v2)=false:=by
      show ((decide (x1=y1)&&(decide (x2=y2)&&(decide (x3=y3)&&true)))&&(decide (x4=y4)&&(decide (x5=y5)&&true)))=false
      rw[Bool.and_true,h1];rfl
    rw[this]
theorem eqs3:∀t∈([28,82,53]:List Nat),∀ty,tyOf tt 20 t=some ty→EqOk Tryz.prog t ty:=by
  intro t ht ty h
  have h53:tyOf tt 20 53=some SpkT:=by kernel_rfl
  by_cases e:t=53
  · subst e;rw[h53] at h;cases h;exact eq53
  · exact zvV t (by simp only[List.mem_cons,List.not_mem_nil,or_false] at ht ⊢;rcases ht with h|h|h<;>simp_all) ty h
@[reducible] def cfgE (X:Xt) (ctr:List (Nat×Spec)) (nt:Nat):Cfg:={tt:=tt,eqs:=[28,82,53],ctr:=ctr,nt:=nt,ext:=[166],extb:=[(110,.f64)],its:=X.its,clos:=X.clos,fuel:=X.fuel}
theorem zwe {X:Xt} (hX:Its X.its) {ctr:List (Nat×Spec)} {nt:Nat} (h:All ctr):CfgOk Tryz.prog OB (cfgE X ctr nt) where
  tbl:=tbl
  eqs:=eqs3
  ctr:=(zl6 hX h (nt:=nt)).ctr
  ext:=(zl6 hX h (nt:=nt)).ext
  extb:=zvS
  obs:=fun t i hi=>by simp[obOf] at hi
  its:=fun g isp h=>zlQ hX h
theorem mkI {c:Cfg} (hC:∀nt,CfgOk Tryz.prog OB {c with nt:=nt}) {f nt:Nat} {fn:Func} {sp:Spec} (hf:Tryz.prog.funcs[f]?=some fn) (hb:fn.body=some (zdt fn)) (hnt:fn.ntmps=nt) (hps:(Nat.ble sp.pats.length nt&&Nat.ble nt 1000000)=true)
    (hob:Nat.ble (zb6 sp.pats) 1=true) (hd:zdf nt (zdt fn)=true) (hn:(fn.name == "runtime.NumGoroutine")=false) (anns:(zac sp.pats).Den→List (St→LoopAnn))
    (h:∀x,sp.pre x→zm9 {c with nt:=nt} (par {c with nt:=nt}) (anns x) fn.results.toList (zdt fn) sp x):Ok f sp:=
  ⟨zmP (hC nt) (zcm mixed (hC nt)) hf hb hnt (Nat.le_of_ble_eq_true (Bool.and_eq_true _ _▸hps:_∧_).1) (Nat.le_of_ble_eq_true (Bool.and_eq_true _ _▸hps:_∧_).2) (Nat.le_of_ble_eq_true hob) rfl hd anns h,fn,hf,hn,by rw[hb];rfl⟩
@[reducible] def sFew:Spec:={pats:=[.dat ArrT],res:=[{t:=.bool}],pre:=fun _=>True,f:=fun x=>(decide (List.length (α:=SpkD) x.1.2.2.1≤10),())}
theorem h24:Ok 24 sFew:=by
  refine mk (ctr:=[]) trivial (nt:=7) Tryz.func24 rfl rfl rfl rfl (by kernel_rfl) (by kernel_rfl) (fun _=>[]) ?_
  rintro⟨⟨(r:Int),(v:Int),(xs:List SpkD),_⟩,_⟩ _
  repeat' (intro hzz;(try (rename Two=>hq;cases hq));(try dsimp only at hzz);(try simp only[zad,zac,eqD,inR,big,zab,zB] at hzz);(try (revert hzz;intro _)))
  all_goals try (rename Unit=>hq;clear hq)
  all_goals try ((with_reducible refine Held.mk ?_);(with_reducible (first|refine Frz.mk ?_|refine And.intro (Frz.mk ?_) ?_|refine And.intro ?_ (Frz.mk ?_)));repeat' first|exact True.intro|(change _=_;with_reducible rfl)|refine And.intro ?_ ?_|(with_reducible refine Frz.mk ?_))
  all_goals try (refine Held.mk ?_;(try dsimp only at *);(try simp only[zad,zac,eqD,inR,big,zab,zB] at *))
  all_goals (show decide ((xs.length:Int)≤10)=decide (xs.length≤10);congr 1;exact propext ⟨fun h=>by omega,fun h=>by omega⟩)
theorem h91:Ok 91 zfk:=by
  refine mk (ctr:=[]) trivial (nt:=8) Tryz.func91 rfl rfl rfl rfl (by kernel_rfl) (by kernel_rfl) (fun _=>[]) ?_
  rintro⟨⟨(r:Int),(v:Int),(xs:List SpkD),_⟩,_⟩ _
  repeat' (intro hzz;(try (rename Two=>hq;cases hq));(try dsimp only at hzz);(try simp only[zad,zac,eqD,inR,big,zab,zB] at hzz);(try (revert hzz;intro _)))
  all_goals try (rename Unit=>hq;clear hq)
  all_goals try ((with_reducible refine Held.mk ?_);(with_reducible (first|refine Frz.mk ?_|refine And.intro (Frz.mk ?_) ?_|refine And.intro ?_ (Frz.mk ?_)));repeat' first|exact True.intro|(change _=_;with_reducible rfl)|refine And.intro ?_ ?_|(with_reducible refine Frz.mk ?_))
  all_goals try (refine Held.mk ?_;(try dsimp only at *);(try simp only[zad,zac,eqD,inR,big,zab,zB] at *))
  all_goals try omega
theorem zvo {a b c:Int} (h:¬zea a b c=0):zea a b c=2:=by
  unfold zea at *;split at h
  · exact absurd rfl h
  · rename_i h1;rw[if_neg h1]
def ztY (r v:Int) (xs:List SpkD):LoopAnn:={σ:=Nat,pat:=fun k=>[sI 5 k],inv:=fun k=>k≤xs.length∧zle xs (xs.length - k) k=chkA r v xs,meas:=fun k=>xs.length - k}
theorem h28:Ok 28 zoA:=by
  refine mk (ctr:=[(18,zg7),(21,zkq),(91,zfk),(92,zks)]) ⟨h18,h21,h91,h92,trivial⟩ (nt:=46) Tryz.func28 rfl rfl rfl rfl (by kernel_rfl) (by kernel_rfl) (fun x=>[fun _=>ztY x.1.1 x.1.2.1 x.1.2.2.1]) ?_
  rintro⟨⟨(r:Int),(v:Int),(xs:List SpkD),⟨⟩⟩,⟨⟩⟩ (hp:pLen xs.length)
  have hp':=hp.out
  have hh:∀e,zlS r v xs.length=e→e≠0→chkA r v xs=(0,e):=fun e h1 h2=>by
    unfold chkA;rw[if_neg (by rw[h1];exact h2),h1]
  repeat' (intro hzz;(try (rename Two=>hq;cases hq));(try dsimp only at hzz);(try simp only[zad,zac,eqD,inR,big,zab,zB] at hzz);(try simp only[zad,zac,eqD,inR,big,zab,zB,Int.toNat_natCast] at hzz);(try (revert hzz;intro _)))
  all_goals try (rename Unit=>hq;clear hq)
  all_goals try ((with_reducible refine Held.mk ?_);(with_reducible (first|refine Frz.mk ?_|refine And.intro (Frz.mk ?_) ?_|refine And.intro ?_ (Frz.mk ?_)));repeat' first|exact True.intro|(change _=_;with_reducible rfl)|refine And.intro ?_ ?_|(with_reducible refine Frz.mk ?_))
  all_goals try (refine Held.mk ?_;(try dsimp only at *);(try simp only[zad,zac,eqD,inR,big,zab,zB] at *);(try simp only[zad,zac,eqD,inR,big,zab,zB,Int.toNat_natCast] at *))
  all_goals try omega
  · rename_i h
    rw[hh _ (if_neg h) h];exact⟨rfl,rfl⟩
  · rename_i h1 h2
    rw[hh 10 ((if_pos h1).trans (if_pos (by omega))) (by decide)];exact⟨rfl,rfl⟩
  · rename_i h1 h2 h3
    rw[hh 8 ((if_pos h1).trans ((if_neg (by omega)).trans (if_neg (by omega)))) (by decide)];exact⟨rfl,rfl⟩
  · rename_i h1 h2 h3
    refine zaj.mk ?_
    refine Exists.intro (0:Nat) ?_
    refine And.intro (Leaf.mk ?_) ?_
    · repeat' first|exact True.intro|refine And.intro ?_ ?_
      all_goals try ((change _=_<;>try dsimp only)<;>try with_reducible rfl)
      all_goals try omega
      all_goals (rfl)
    have e:zlS r v xs.length=0:=(if_pos h1).trans ((if_neg (by omega)).trans (if_pos (by omega)))
    exact⟨Nat.zero_le _,by unfold chkA;rw[if_pos e];rfl⟩
  · rename_i h1 h2 h3 k hk hlt h4 h5
    have e:=hk.2
    have hs:zfV (xs.getD k spkZ)=2:=(if_pos h4).trans (zsm h5)
    rw[zdq (by omega),if_neg (by rw[hs];decide),hs] at e
    rw[←e];exact⟨rfl,rfl⟩
  · rename_i h1 h2 h3 k hk hlt h4 h5
    have e:=hk.2
    have hs:zfV (xs.getD k spkZ)=0:=(if_pos h4).trans h5
    rw[zdq (by omega),if_pos hs] at e
    refine zaj.mk ?_
    refine Exists.intro (k+1) ?_
    refine And.intro (Leaf.mk ?_) ?_
    · repeat' first|exact True.intro|refine And.intro ?_ ?_
      all_goals try ((change _=_<;>try dsimp only)<;>try with_reducible rfl)
      all_goals try omega
      all_goals (rfl)
    exact⟨⟨(show k+1≤xs.length by omega),e⟩,(show xs.length - (k+1)<xs.length - k by omega)⟩
  · rename_i h1 h2 h3 k hk hlt h4
    have e:=hk.2
    have hs:zfV (xs.getD k spkZ)=2:=(if_neg h4).trans (zvo h4)
    rw[zdq (by omega),if_neg (by rw[hs];decide),hs] at e
    rw[←e];exact⟨rfl,rfl⟩
  · rename_i h1 h2 h3 k hk hlt
    have e:=hk.2
    rw[show xs.length - k=0 by omega] at e
    rw[←e];exact⟨rfl,rfl⟩
/-! ### Arrays compared -/
def zg6 (xs ys:List SpkD):Nat→Nat→Bool
  | 0,_=>true
  | k+1,i=>SpkT.beq (spkN xs i) (spkN ys i)&&zg6 xs ys k (i+1)
def zuB (x y:ArrD):Bool:=decide (x.1=y.1)&&(decide (x.2.1=y.2.1)&&(decide (List.length (α:=SpkD) x.2.2.1=List.length (α:=SpkD) y.2.2.1)&&zg6 x.2.2.1 y.2.2.1 (List.length (α:=SpkD) x.2.2.1) 0))
theorem zil {xs ys:List SpkD} {i:Nat} (h:i<xs.length):zg6 xs ys (xs.length - i) i=(SpkT.beq (spkN xs i) (spkN ys i)&&zg6 xs ys (xs.length - (i+1)) (i+1)):=by
  obtain⟨k,hk⟩:∃k,xs.length - i=k+1:=⟨xs.length - i - 1,by omega⟩
  rw[hk,show xs.length - (i+1)=k by omega];rfl
def zsN (xs ys:List SpkD):LoopAnn:={σ:=Nat,pat:=fun k=>[sI 5 k],inv:=fun k=>k≤xs.length∧zg6 xs ys (xs.length - k) k=zg6 xs ys xs.length 0,meas:=fun k=>xs.length - k}
@[reducible] def zrP:Spec:={pats:=[.dat ArrT,.dat ArrT],res:=[{t:=.bool}],pre:=fun x=>pLen (List.length (α:=SpkD) x.1.2.2.1)∧pLen (List.length (α:=SpkD) x.2.1.2.2.1),f:=fun x=>(zuB x.1 x.2.1,())}
theorem h30:Ok 30 zrP:=by
  refine mkI (sp:=zrP) (c:=cfgE {} [] 0) (fun nt=>zwe (X:={}) True.intro (ctr:=[]) trivial) (nt:=45) Tryz.func30 rfl rfl rfl rfl (by kernel_rfl) (by kernel_rfl) (fun x=>[fun _=>zsN x.1.2.2.1 x.2.1.2.2.1]) ?_
  rintro⟨⟨(r:Int),(v:Int),(xs:List SpkD),⟨⟩⟩,⟨(r2:Int),(v2:Int),(ys:List SpkD),⟨⟩⟩,⟨⟩⟩ ⟨(hp:pLen xs.length),(hq:pLen ys.length)⟩
  have hp':=hp.out
  have hq':=hq.out
  have hX:r=r2→v=v2→(xs.length:Int)=ys.length→zuB (r,v,xs,()) (r2,v2,ys,())=zg6 xs ys xs.length 0:=fun h1 h2 h3=>by
    show (decide (r=r2)&&(decide (v=v2)&&(decide (xs.length=ys.length)&&zg6 xs ys xs.length 0)))=_
    rw[decide_eq_true h1,decide_eq_true h2,decide_eq_true (show xs.length=ys.length by omega)];rfl
  repeat' (intro hzz;(try (rename Two=>hq;cases hq));(try dsimp only at hzz);(try simp only[zad,zac,eqD,inR,big,zab,zB] at hzz);(try simp only[zad,zac,eqD,inR,big,zab,zB,Int.toNat_natCast] at hzz);(try (revert hzz;intro _)))
  all_goals try (rename Unit=>hq;clear hq)
  all_goals try ((with_reducible refine Held.mk ?_);(with_reducible (first|refine Frz.mk ?_|refine And.intro (Frz.mk ?_) ?_|refine And.intro ?_ (Frz.mk ?_)));repeat' first|exact True.intro|(change _=_;with_reducible rfl)|refine And.intro ?_ ?_|(with_reducible refine Frz.mk ?_))
  all_goals try (refine Held.mk ?_;(try dsimp only at *);(try simp only[zad,zac,eqD,inR,big,zab,zB] at *);(try simp only[zad,zac,eqD,inR,big,zab,zB,Int.toNat_natCast] at *))
  · rename_i h1 h2 h3
    show false=(decide (r=r2)&&(decide (v=v2)&&(decide (xs.length=ys.length)&&zg6 xs ys xs.length 0)))
    rw[decide_eq_false (show ¬xs.length=ys.length by omega),Bool.false_and,Bool.and_false,Bool.and_false]
  ·
    refine zaj.mk ?_
    refine Exists.intro (0:Nat) ?_
    refine And.intro (Leaf.mk ?_) ?_
    · repeat' first|exact True.intro|refine And.intro ?_ ?_
      all_goals try ((change _=_<;>try dsimp only)<;>try with_reducible rfl)
      all_goals try omega
      all_goals (rfl)
    exact⟨Nat.zero_le _,rfl⟩
  · rename_i h1 h2 h3 k hk hlt;omega
  · rename_i h1 h2 h3 k hk hlt;omega
  · rename_i h1 h2 h3 k hk hlt h
    have e:=hk.2
    rw[zil (by omega),show SpkT.beq (spkN xs k) (spkN ys k)=false from h] at e
    exact e.trans (hX h1 h2 h3).symm
  · rename_i h1 h2 h3 k hk hlt h
    have:=hp.out
    omega
  · rename_i h1 h2 h3 k hk hlt h
    have e:=hk.2
    rw[zil (by omega),show SpkT.beq (spkN xs k) (spkN ys k)=true from h] at e
    refine zaj.mk ?_
    refine Exists.intro (k+1) ?_
    refine And.intro (Leaf.mk ?_) ?_
    · repeat' first|exact True.intro|refine And.intro ?_ ?_
      all_goals try ((change _=_<;>try dsimp only)<;>try with_reducible rfl)
      all_goals try omega
      all_goals (rfl)
    exact⟨⟨(show k+1≤xs.length by omega),e⟩,(show xs.length - (k+1)<xs.length - k by omega)⟩
  · rename_i h1 h2 h3 k hk hlt
    have e:=hk.2
    rw[show xs.length - k=0 by omega] at e
    exact (hX h1 h2 h3).trans e.symm
  · rename_i h1 h2
    show false=(decide (r=r2)&&(decide (v=v2)&&(decide (xs.length=ys.length)&&zg6 xs ys xs.length 0)))
    rw[decide_eq_false h2,Bool.false_and,Bool.and_false]
  · rename_i h1
    show false=(decide (r=r2)&&(decide (v=v2)&&(decide (xs.length=ys.length)&&zg6 xs ys xs.length 0)))
    rw[decide_eq_false h1,Bool.false_and]
def Hid (p:Prop):Prop:=p
end Go.Eng.Ar
namespace Go.Eng.Ar
open Go.Eng Go.Proofs Go.ChangeShapes Go.WideShapes Go.ChangeAt Go.RowKit
set_option linter.all false
set_option maxRecDepth 100000
abbrev zjC:List (String×DataW Unit):=Go.Proofs.YtjgfbifggolibaaGreatDoor.Rows.arrayWaysRow.laid
theorem own:ownKnob Tryz.prog.godebug=none:=by kernel_rfl
theorem ztu:laidOutB Tryz.prog=true:=by kernel_rfl
theorem gSyn:Tryz.prog.globalNamed "strconv.ErrSyntax" = some 3:=by kernel_rfl
theorem tSyn:(Tryz.prog.globals[3]?).map (·.type)=some 215:=by kernel_rfl
theorem gRng:Tryz.prog.globalNamed "strconv.ErrRange" = some 4:=by kernel_rfl
theorem tRng:(Tryz.prog.globals[4]?).map (·.type)=some 215:=by kernel_rfl
theorem gPow:Tryz.prog.globalNamed "internal/strconv.uint64pow10" = some 2:=by kernel_rfl
theorem tPow:(Tryz.prog.globals[2]?).map (·.type)=some 257:=by kernel_rfl
theorem uPow:∃e,Tryz.prog.underlying 257=some (.array 20 e)∧Tryz.prog.underlying e=some (.int .u64)∧Tryz.prog.cellsOf e=1∧Tryz.prog.cellsOf 257=20:=⟨_,Tryz.underlying257,by kernel_rfl,by kernel_rfl,by kernel_rfl⟩
section
variable {P:Program} {W:World}
theorem zmg {n:String} {g:Nat} {cs:Array Value} (hg:P.globalNamed n=some g) (hv:W.var? P n=some cs):∃el f,W.heap[g]?=some (.cells cs el f):=by
  simp only[World.var?,hg,Option.bind_some] at hv
  split at hv
  · rename_i c el f hh
    simp only[Option.some.injEq] at hv
    exact⟨el,f,by rw[hh,hv]⟩
  · cases hv
theorem zsq {n nm:String} {d:DataW Unit} {r:List (String×DataW Unit)} {g:Nat} {ti:TypeId} {ms:Array (String×TypeId)}
    (h:laidMet P ((n,.iface nm d)::r) W) (hg:P.globalNamed n=some g) (ht:(P.globals[g]?).map (·.type)=some ti) (hi:P.underlying ti=some (.interface ms)) :
    ∃c el f,W.heap[g]?=some (.cells c el f)∧c.size=1∧∃u v,c.toList=[.iface u v]:=by
  obtain⟨ps,⟨g0,t0,cs0,f0,p0,q0,hg0,ht0,hv0,hd0,_,_⟩,_,_⟩:=h
  obtain rfl:=Option.some.inj (hg.symm.trans hg0)
  obtain rfl:=Option.some.inj (ht.symm.trans ht0)
  obtain⟨el,f,hh⟩:=zmg hg hv0
  obtain⟨f1,u,v,e,_,_⟩:=iface_of_trod hi hd0
  exact⟨cs0,el,f,hh,by rw[←Array.length_toList,e];rfl,u,v,e⟩
theorem ztA {n:String} {k:IntKind} {l:List Int} {r:List (String×DataW Unit)} {g:Nat} {t e:TypeId} {m:Nat}
    (h:laidMet P ((n,.agg (l.map fun a=>.lit (.int k a)))::r) W) (hg:P.globalNamed n=some g) (ht:(P.globals[g]?).map (·.type)=some t)
    (hu:P.underlying t=some (.array m e)) (he:P.underlying e=some (.int k)) (hc:P.cellsOf e=1) (hct:P.cellsOf t=m) (hl:l.length=m) :
    ∃c el f,W.heap[g]?=some (.cells c el f)∧c.toList=l.map (Value.int k):=by
  obtain⟨ps,⟨g0,t0,cs0,f0,p0,q0,hg0,ht0,hv0,hd0,_,_⟩,_,_⟩:=h
  obtain rfl:=Option.some.inj (hg.symm.trans hg0)
  obtain rfl:=Option.some.inj (ht.symm.trans ht0)
  obtain⟨el,f,hh⟩:=zmg hg hv0
  refine⟨cs0,el,f,hh,?_⟩
  obtain⟨xs,n',_,hx,hlen,hn,hel⟩:=DataW.trod_array hu hd0
  rw[hct] at hlen
  simp only[Prod.mk.injEq,DataW.agg.injEq] at hx
  obtain⟨hx,_⟩:=hx
  refine List.ext_getElem? fun i=>?_
  rcases Nat.lt_or_ge i m with hi|hi
  · have hE:=hel i hi
    rw[hc] at hE
    have hxi:xs[i]?=some xs[i]:=List.getElem?_eq_getElem (by omega)
    rw[hxi] at hE
    obtain⟨a,e1,e2,_⟩:=DataW.trod_int he hE
    have hd:xs[i].1=.lit (.int k a):=by rw[e2]
    have h1:(xs.map (·.1))[i]?=some (.lit (.int k a)):=by rw[List.getElem?_map,hxi,Option.map_some,hd]
    rw[←hx,List.getElem?_map] at h1
    have h2:l[i]?=some a:=by
      cases hq:l[i]? with
      | none=>rw[hq] at h1;cases h1
      | some b=>
        rw[hq] at h1
        simp only[Option.map_some,Option.some.injEq,DataW.lit.injEq,Lit.int.injEq,true_and] at h1
        rw[h1]
    rw[List.getElem?_map,h2]
    have h3:((cs0.toList.drop (i*1)).take 1)[0]?=some (.int k a):=by rw[e1];rfl
    rw[List.getElem?_take,if_pos (by decide),List.getElem?_drop] at h3
    simpa using h3
  · rw[List.getElem?_eq_none (by rw[hlen];exact hi),List.getElem?_eq_none (by rw[List.length_map,hl];exact hi)]
end
theorem zkx {V:View} {k:IntKind}:∀(n:Nat) (x:(zbh (List.replicate n (.int k))).Den),Rep V (zbh (List.replicate n (.int k))) x ((chL (.int k) n x).map (Value.int k))
  | 0,_=>rfl
  | n+1,x=>⟨[.int k x.1],_,rfl,rfl,zkx n x.2⟩
def zug (W:World):Prop:=∃b0 b1 mx,zda OB W (fun _=>False) [.gw 3 .err,.gw 4 .err,.gw 2 PowT,.gw 1 I64] (b0,b1,powD,mx,()) [] []
theorem zre {W:World} (h:laidMetH Tryz.prog zjC W) (hs:W.ShapedOpen Tryz.prog):zug W:=by
  rw[MakeChecks.laidMetH_plain _ _ _ (by kernel_rfl)] at h
  have hp:=h.tail.tail
  obtain⟨e,u1,u2,u3,u4⟩:=uPow
  obtain⟨c2,el2,f2,hh2,hl2⟩:=ztA (l:=[1,10,100,1000,10000,100000,1000000,10000000,100000000,1000000000,10000000000,100000000000,1000000000000,10000000000000,100000000000000,1000000000000000,10000000000000000,100000000000000000,1000000000000000000,10000000000000000000]) (k:=.u64) hp gPow tPow u1 u2 u3 u4 rfl
  obtain⟨ms,u215⟩:∃ms,Tryz.prog.underlying 215=some (.interface ms):=⟨_,Tryz.underlying215⟩
  obtain⟨c1,el1,f1,hh1,hn1,t1,v1,hl1⟩:=zsq hp.tail.tail gRng tRng u215
  obtain⟨c0,el0,f0,hh0,hn0,t0,v0,hl0⟩:=zsq hp.tail.tail.tail gSyn tSyn u215
  have h0:((begin Tryz.prog (fun _ _=>0) default).world.heap[1]?).bind Obj.row?=some (#[.int .i64 0],3):=by kernel_rfl
  obtain⟨mx,hmx⟩:=cell_of_shapedOpen_int hs (g:=1) (of_decide_eq_true (by kernel_rfl)) h0 rfl (by kernel_rfl) (by kernel_rfl) Tryz.underlying3
  obtain⟨c3,hh3,hn3,_⟩:=hs.1 1 _ _ (of_decide_eq_true (by kernel_rfl)) h0
  have hl3:c3.toList=[.int .i64 mx]:=by
    simp only[World.cell?,hh3] at hmx
    have hn3:c3.size=1:=hn3
    match hc:c3.toList,(show c3.toList.length=1 by rw[Array.length_toList];exact hn3) with
    | [v],_=>
      have:c3 = #[v]:=by rw[←Array.toArray_toList (xs:=c3),hc]
      rw[this] at hmx
      simp at hmx
      rw[hmx]
  refine⟨true,true,mx,⟨c0,el0,f0,hh0,id,hn0,?_⟩,⟨c1,el1,f1,hh1,id,hn1,?_⟩,⟨c2,el2,f2,hh2,id,?_,?_⟩,⟨c3,_,_,hh3,id,hn3,?_⟩,rfl,rfl⟩
  · exact .inr ⟨rfl,t0,v0,hl0⟩
  · exact .inr ⟨rfl,t1,v1,hl1⟩
  · rw[←Array.length_toList,hl2];rfl
  · have:Rep (fun b c=>¬False∧∃el f,W.heap[b]?=some (.cells c el f)) PowT powD _:=zkx 20 powD
    rw[hl2]
    have e:chL (.int .u64) 20 powD=[1,10,100,1000,10000,100000,1000000,10000000,100000000,1000000000,10000000000,100000000000,1000000000000,10000000000000,100000000000000,1000000000000000,10000000000000000,100000000000000000,1000000000000000000,10000000000000000000]:=by decide +kernel
    rw[e] at this
    exact this
  · rw[hl3];rfl
theorem zty {W W':World} (h:Below W.heap.size W W') (may:MemPlace→Prop):W.keptBut W' may:=by
  refine⟨h.os,h.output,fun i hi=>?_⟩
  rw[h.block i hi]
  split
  · rename_i h1 h2
    rw[h1] at h2
    simp only[Option.some.injEq,Obj.cells.injEq] at h2
    obtain⟨rfl,rfl,rfl⟩:=h2
    exact⟨rfl,rfl,rfl,fun _ _=>rfl⟩
  · rename_i h1 h2
    rw[h1] at h2
    simp only[Option.some.injEq,Obj.map.injEq] at h2
    obtain⟨rfl,rfl⟩:=h2
    exact .inr ⟨rfl,rfl⟩
  · rfl
def zhg (P:Program):List TypeId→Bool
  | []=>true
  | t::r=>P.readableRec t&&decide (t<P.types.size)&&zhg P r
theorem zfg {P:Program} (hl:laidOutB P=true) {H:Type} {enc:TypeId×Value→H} {W W':World} (hb:Below W.heap.size W W'):∀ {ts:List TypeId} {vs:List Value} {ds:List (DataW H)} {ps:List MemPlace},zhg P ts=true→
    DataW.TrodAll enc P W 0 (fun _=>true) true ts vs ds ps→DataW.TrodAll enc P W' 0 (fun b=>decide (b<W.heap.size)) true ts vs ds ps
  | [],[],[],_,_,h=>h
  | t::ts,v::vs,d::ds,ps,hr,⟨p,q,h1,h2,h3⟩=>by
    simp only[zhg,Bool.and_eq_true,decide_eq_true_eq] at hr
    have hlt:=DataW.TrodAll.lt (show DataW.TrodAll enc P W 0 (fun _=>true) true (t::ts) (v::vs) (d::ds) ps from ⟨p,q,h1,h2,h3⟩)
    subst h3
    exact⟨p,q,Below.trod hl hr.1.1 hr.1.2 h1 hb (fun x hx=>hlt x (List.mem_append.2 (.inl hx))),zfg hl hb hr.2 h2,rfl⟩
theorem zq7 {H:Type} {enc:TypeId×Value→H} {f:Func} {s:ChangeSpec} {W W':World} {args:Array Value} {ds gs:List (DataW H)} {before:List MemPlace}
    (hW:DataW.Whole enc Tryz.prog f.params.toList s.vars false W args.toList ds gs before) (hv:s.vars=[]) (hr:f.resultTypes.toList=[4]) (hs:f.resultTypes.size=1) (hfn:s.fn H (ds++gs) = {results:=[.lit (.bool true)],args:=ds}) (hread:zhg Tryz.prog f.params.toList=true)
    (hb:Below W.heap.size W W'):s.post enc Tryz.prog f false true false false W args (.bool true) W':=by
  have hW0:=hW
  obtain⟨p,q,hA,hV,rfl,_,_⟩:=hW
  rw[hv] at hV
  obtain⟨rfl,rfl⟩:=trodVars_none hV
  refine⟨ds,[],p++[],[],p,[],hW0,?_,?_,?_,zty hb _,fun h=>by cases h⟩
  · rw[hfn,hr,hs]
    exact trodAll_cons_mk (shut_bool Tryz.underlying4 true) trodAll_mk0
  · rw[hfn]
    exact zfg ztu hb hread hA
  · rw[hfn,hv]
    rfl
theorem zrk (os:Os) (args:Array Value):laidMetH Tryz.prog zjC ((World.laidAll Tryz.prog os zjC).forCall (fun _ _=>0) ⟨#[],args,[]⟩).memory:=by
  rw[MakeChecks.laidMetH_plain _ _ _ (by kernel_rfl)];exact laidMet_laidAll _ (by kernel_rfl) (by kernel_rfl)
theorem znz {F:Nat} {fn:Func} {s:ChangeSpec} (h:∀(H:Type) (enc:TypeId×Value→H) (W:World) (args:Array Value) (ds:List (DataW H)) (ps:List MemPlace) (base:Nat),zug W→DataW.TrodAll enc Tryz.prog W 0 (fun _=>true) true fn.params.toList args.toList ds ps→(∀(j:Nat) t v,fn.params.toList[j]?=some t→args.toList[j]?=some v→Value.okWide Tryz.prog W .any base t v)→
      Calls Tryz.prog F args W fun e W'=>e=.returned (.bool true)∧Below W.heap.size W W')
    (hf:Tryz.prog.funcs[F]?=some fn) (hinit:Tryz.prog.inits.idxOf? F=none) (hv:s.vars=[]) (hr:fn.resultTypes.toList=[4]) (hs:fn.resultTypes.size=1)
    (hread:zhg Tryz.prog fn.params.toList=true) (hfn:∀(H:Type) (ds:List (DataW H)),ds.length=fn.params.size→s.fn H (ds++[]) = {results:=[.lit (.bool true)],args:=ds})
    (os:Os) (started:os.Started) (H:Type) (enc:TypeId×Value→H)
    (wit:∃(w:World) (tape:Tape) (i:Input),w.os=os∧(w.forCall tape i).Shaped Tryz.checked.prog∧i.vars=[]∧Input.okWide Tryz.checked.prog (w.forCall tape i) .any w.heap.size F i∧
      ((s.pre enc Tryz.checked.prog fn [] false (w.forCall tape i).memory i.args∧laidMetH Tryz.prog zjC (w.forCall tape i).memory)∧sizedMet enc Tryz.checked.prog fn (OpenSpec.ofChange s) false (w.forCall tape i).memory i.args)∧({}:Assume).holds Tryz.checked.prog (lone (Frame.enter Tryz.checked.prog F i.args .normal) [] (w.forCall tape i))) :
    ReturnsInHanded {} Tryz.checked os F .any (fun w args=>(s.pre enc Tryz.prog fn [] false w args∧laidMetH Tryz.prog zjC w)∧sizedMet enc Tryz.prog fn (OpenSpec.ofChange s) false w args) (s.post enc Tryz.prog fn false true false false):=by
  refine returnsInHanded_of_calls (C:=Tryz.checked) own started hinit wit ?_
  intro w tape i _ hsh _ hok hpre hholds
  obtain⟨_,_,_,fn',hfn',_,_,_,_,hval⟩:=hok
  have e:fn'=fn:=Option.some.inj (hfn'.symm.trans hf)
  subst e
  obtain⟨⟨⟨ds,gs,before,hw,hc⟩,hx⟩,hz⟩:=hpre
  have hW0:=DataW.Whole.of_heap (w':=w.forCall tape i) (by rfl) hw
  have hL:laidMetH Tryz.prog zjC (w.forCall tape i):=hx.of_heap (by rfl)
  have hW:=hW0
  obtain⟨p,q,hA,hV,rfl,_,_⟩:=hW
  have hV':DataW.TrodVars enc Tryz.prog (w.forCall tape i) (fun _=>true) [] gs q:=by rw[←hv];exact hV
  obtain⟨rfl,rfl⟩:=trodVars_none hV'
  have hlen:ds.length=fn'.params.size:=by
    have:=(Go.trodAll_length hA).2
    simpa using this
  refine (h _ _ _ _ _ _ _ (zre hL hsh) hA (fun j t v h1 h2=>hval j t v (by simpa using h1) (by simpa using h2))).mono fun e W' ⟨he,hb⟩=>?_
  subst he
  exact ChangeSpec.post_blind (zq7 hW0 hv hr hs (hfn H ds hlen) hread hb)
end Go.Eng.Ar
