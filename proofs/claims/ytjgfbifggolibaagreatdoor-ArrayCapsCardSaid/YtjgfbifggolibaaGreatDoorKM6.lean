/- Texts C14 C15 C16 C17 C18 X2 SR A12 A13 R7 A14 A15 B2, as far as they are used. Conditions: each lemma's own. -/
import Derived.Test.YtjgfbifggolibaaGreatDoorKM5
import Derived.WalkKit
import Derived.Test.YtjgfbifggolibaaGreatDoorRows
import Derived.LaidMore
import Derived.LaidLaws
import Derived.Lay
import Derived.Stop.LaidErr
import Derived.Shelf.Vars
import Derived.OpenShut
import Derived.Stop.Joined
import Derived.Handed
import Derived.ChangeCalls
import Derived.ProofKit
namespace Go.Eng.Ar
open Go.Eng Go.Proofs Go
set_option linter.all false
set_option maxRecDepth 100000
set_option maxHeartbeats 2000000
theorem zna (c n:Int) (w:World):Calls Tryz.prog 163 #[.int .i64 c,.int .i64 n] w fun e w'=>e=.returned (.func (.func 178) #[] #[.pointer (some ⟨w.heap.size,0,none⟩),.pointer (some ⟨w.heap.size+1,0,none⟩)])∧w'=(w.alloc (.cells #[.int .i64 c] 3 (0,0))).alloc (.cells #[.int .i64 n] 3 (0,0)):=by
  have mixed:=mixed
  have t3:=Tryz.underlying3
  have hn:Tryz.f163.ntmps=6:=rfl
  go_enter Tryz.func163,hn
  go_wp2
  go_ret
  exact⟨rfl,rfl⟩
def zhJ (b:List BndD):List (List Int)→Option zcQ
  | []=>none
  | c::r=>if (atR b c).2.1=true then some (atR b c).1 else zhJ b r
def zng (b:List BndD) (n:Nat):Option zcQ:=zhJ b (zcn (n+1) 0 b.length)
noncomputable def b143:Code:=zcM Tryz.f143
noncomputable def B0:Code:=match b143 with | .seq x _=>x|c=>c
noncomputable def B1:Code:=match b143 with | .seq _ (.seq (.seq x _) _)=>x|c=>c
noncomputable def B2:Code:=match b143 with | .seq _ (.seq (.seq _ (.block _ (.rangeFunc _ _ x _))) _)=>x|c=>c
noncomputable def BB:Code:=match b143 with | .seq _ (.seq (.seq _ (.block _ (.rangeFunc _ _ _ x))) _)=>x|c=>c
noncomputable def BT:Code:=match b143 with | .seq _ (.seq _ x)=>x|c=>c
noncomputable def znP:List Oper:=match B1 with | .region _ x _=>x.toList | _=>[]
theorem zw8:(Tryz.f143.body:Option Code)=some (.seq B0 (.seq (.seq B1 (.block 0 (.rangeFunc (.tmp 12) #[13] B2 BB))) BT)):=rfl
abbrev cAt:List (Nat×Spec):=[(164,sAt)]
theorem zzH:All cAt:=⟨h164,trivial⟩
@[reducible] def cfB:Cfg:=cfg {} cAt 23
theorem zqt:CfgOk Tryz.prog OB cfB:=zhH (X:={}) trivial zzH
abbrev zjM:Type:=zlM.Den
@[reducible] def znD:Spec:={pats:=[.dat zlM],res:=[{t:=zor}],pre:=fun x=>∃n:Nat,x.1.2.1=(n:Int)∧n≤3∧(zng x.1.2.2.1 n).isSome=true∧(List.length (α:=BndD) x.1.2.2.1≤100)∧∀c∈zcn (n+1) 0 (List.length (α:=BndD) x.1.2.2.1),goodA x.1.2.2.1 c,f:=fun x=>((zng x.1.2.2.1 x.1.2.1.toNat).getD zhG,())}
@[reducible] def stB0 (p:zjM):St:=[.slot 1 (.one (.p 1 0)),.cell 1 0 (.d I64 p.1),.cell 1 1 (.d I64 p.2.1),.cell 1 2 (.d (.sl zkz) p.2.2.1),.slot 2 (.one (.p 2 0)),.cell 2 0 (.v (.slice none 0 0)),.cell 2 1 (.d I64 0),.cell 2 2 (.v (.slice none 0 0)),.cell 2 3 (.d I64 0)]
theorem vB0 (p:zjM):vc cfB (par cfB) [] B0 0 [.slot 0 (.one (.d zlM p))] (fun e st=>match e with | .normal=>Goal (∃_:Unit,ent st (stB0 p)∧True) | .ret=>False | _=>False):=by
  repeat' (intro hzz;(try (rename Two=>hq;cases hq));(try dsimp only at hzz);(try simp only[zad,zac,eqD,inR,big,zab,zB] at hzz);(try (revert hzz;intro _)))
  all_goals try (rename Unit=>hq;clear hq)
  all_goals try ((with_reducible refine Held.mk ?_);(with_reducible (first|refine Frz.mk ?_|refine And.intro (Frz.mk ?_) ?_|refine And.intro ?_ (Frz.mk ?_)));repeat' first|exact True.intro|(change _=_;with_reducible rfl)|refine And.intro ?_ ?_|(with_reducible refine Frz.mk ?_))
  all_goals try (refine Held.mk ?_;(try dsimp only at *);(try simp only[zad,zac,eqD,inR,big,zab,zB] at *))
  all_goals try omega
  ·
    refine zai.mk ?_
    refine Exists.intro () ?_
    refine And.intro (Leaf.mk ?_) ?_
    · repeat' first|exact True.intro|refine And.intro ?_ ?_
      all_goals try ((change _=_<;>try dsimp only)<;>try with_reducible rfl)
      all_goals try omega
      all_goals (rfl)
    trivial
theorem vB1 (p:zjM) (n:Nat) (hn:p.2.1=(n:Int)) (hn3:n≤3):zes cfB znP.toArray (znP.take 6) (stB0 p) (fun st=>Goal (∃_:Unit,ent st (sI 8 ((n+1:Nat):Int)::sI 11 ((List.length (α:=BndD) p.2.2.1:Nat):Int)::stB0 p)∧True)):=by
  have e:p.2.1+1=((n+1:Nat):Int):=by rw[hn];rfl
  repeat' (intro hzz;(try (rename Two=>hq;cases hq));(try dsimp only at hzz);(try simp only[zad,zac,eqD,inR,big,zab,zB] at hzz);(try (revert hzz;intro _)))
  all_goals try (rename Unit=>hq;clear hq)
  all_goals try ((with_reducible refine Held.mk ?_);(with_reducible (first|refine Frz.mk ?_|refine And.intro (Frz.mk ?_) ?_|refine And.intro ?_ (Frz.mk ?_)));repeat' first|exact True.intro|(change _=_;with_reducible rfl)|refine And.intro ?_ ?_|(with_reducible refine Frz.mk ?_))
  all_goals try (refine Held.mk ?_;(try dsimp only at *);(try simp only[zad,zac,eqD,inR,big,zab,zB] at *))
  · have hn:p.2.1=(n:Int):=hn
    rw[hn];omega
  ·
    refine zai.mk ?_
    refine Exists.intro () ?_
    refine And.intro (Leaf.mk ?_) ?_
    · repeat' first|exact True.intro|refine And.intro ?_ ?_
      all_goals try ((change _=_<;>try dsimp only)<;>try with_reducible rfl)
      all_goals try omega
      all_goals (first|rfl|exact e)
    trivial
@[reducible] def stR (p:zjM) (c:List Int):St:=[.slot 1 (.one (.pd zlM p)),.slot 3 (.one (.d (.sl I64) c)),.slot 2 (.one (.p 2 0)),.cell 2 0 .u,.cell 2 1 .u,.cell 2 2 .u,.cell 2 3 .u]
@[reducible] def stC (x:zcQ):St:=[.slot 2 (.one (.p 2 0)),.cell 2 0 (.d (.sl I64) x.1),.cell 2 1 (.d I64 x.2.1),.cell 2 2 (.d (.sl I64) x.2.2.1),.cell 2 3 (.d I64 x.2.2.2.1)]
@[reducible] def stUp:St:=[.slot 2 (.one (.p 2 0)),.cell 2 0 .u,.cell 2 1 .u,.cell 2 2 .u,.cell 2 3 .u]
theorem vBB (p:zjM) (c:List Int) (hg:goodA p.2.2.1 c):vc cfB (par cfB) [] BB 0 (stR p c) (fun e st=>match e with | .normal=>Goal (∃_:Unit,ent st stUp∧(atR p.2.2.1 c).2.1=false) | .ret=>Goal (∃_:Unit,ent st (stC (atR p.2.2.1 c).1)∧(atR p.2.2.1 c).2.1=true) | _=>False):=by
  repeat' (intro hzz;(try (rename Two=>hq;cases hq));(try dsimp only at hzz);(try simp only[zad,zac,eqD,inR,big,zab,zB] at hzz);(try (revert hzz;intro _)))
  all_goals try (rename Unit=>hq;clear hq)
  all_goals try ((with_reducible refine Held.mk ?_);(with_reducible (first|refine Frz.mk ?_|refine And.intro (Frz.mk ?_) ?_|refine And.intro ?_ (Frz.mk ?_)));repeat' first|exact True.intro|(change _=_;with_reducible rfl)|refine And.intro ?_ ?_|(with_reducible refine Frz.mk ?_))
  all_goals try (refine Held.mk ?_;(try dsimp only at *);(try simp only[zad,zac,eqD,inR,big,zab,zB] at *))
  · exact hg
  · rename_i h
    refine zai.mk ?_
    refine Exists.intro () ?_
    refine And.intro (Leaf.mk ?_) ?_
    · repeat' first|exact True.intro|refine And.intro ?_ ?_
      all_goals try ((change _=_<;>try dsimp only)<;>try with_reducible rfl)
      all_goals try omega
      all_goals (rfl)
    exact h
  · rename_i h
    refine zai.mk ?_
    refine Exists.intro () ?_
    refine And.intro (Leaf.mk ?_) ?_
    · repeat' first|exact True.intro|refine And.intro ?_ ?_
      all_goals try ((change _=_<;>try dsimp only)<;>try with_reducible rfl)
      all_goals try omega
      all_goals (rfl)
    exact h
theorem zrs {E:Env} {nt:Nat} {st:St} {a:Act} {w:World} {t:Nat} {s:SV} (hR:RelS E nt st a w) (h:Fact.slot t s∈st) (ht:t<1000000):∃η,(∀f∈st,Fact.holds E η a w f)∧zao (vw E η w) η s (a.tmps.getD t undef):=by
  obtain⟨η,g,H⟩:=hR
  have h1:=H _ h
  simp only[Fact.holds] at h1
  rw[zbl ht] at h1
  exact⟨η,H,h1⟩
structure RawB (M:Nat→Prop) (w:World) (p:zjM) (b1 b2:Nat) (cur1:Array Value) (e1:Nat) (f1:Nat×Nat) (cur2:Array Value) (V:View):Prop where
  h1:w.heap[b1]?=some (.cells cur1 e1 f1)
  h2:∃e2,w.heap[b2]?=some (.cells cur2 e2 (0,0))
  v1:¬M b1
  n12:b1≠b2
  z1:3≤cur1.size
  rep:Rep V zlM p (cur1.toList.take 3)
  hV:∀b c,V b c→¬M b∧b≠b2∧∃el f,w.heap[b]?=some (.cells c el f)
  one:∀j,j<4→∃v,cur2[j]?=some v∧v.oneCell'=true
theorem zAe {M:Nat→Prop} {bs:List Nat} {w0 w:World} {a:Act} {p:zjM} {st:St} (hR:RelS (EH M bs w0 true) 23 (st++stB0 p) a w):∃b1 b2 cur1 e1 f1 cur2 V,RawB M w p b1 b2 cur1 e1 f1 cur2 V∧a.tmps.getD 1 undef=.pointer (some ⟨b1,0,none⟩)∧a.tmps.getD 2 undef=.pointer (some ⟨b2,0,none⟩)∧w0.heap.size≤b2:=by
  obtain⟨η,g,H⟩:=hR
  have m:∀f,f∈stB0 p→f∈st++stB0 p:=fun f h=>List.mem_append.2 (.inr h)
  have s1:=H (.slot 1 (.one (.p 1 0))) (m _ (by simp))
  have s2:=H (.slot 2 (.one (.p 2 0))) (m _ (by simp))
  have k10:=H (.cell 1 0 (.d I64 p.1)) (m _ (by simp))
  have k11:=H (.cell 1 1 (.d I64 p.2.1)) (m _ (by simp))
  have k12:=H (.cell 1 2 (.d (.sl zkz) p.2.2.1)) (m _ (by simp))
  have k20:=H (.cell 2 0 (.v (.slice none 0 0))) (m _ (by simp))
  have k21:=H (.cell 2 1 (.d I64 0)) (m _ (by simp))
  have k22:=H (.cell 2 2 (.v (.slice none 0 0))) (m _ (by simp))
  have k23:=H (.cell 2 3 (.d I64 0)) (m _ (by simp))
  simp only[Fact.holds,zao,zaN] at s1 s2 k10 k11 k12 k20 k21 k22 k23
  rw[zbl (by decide)] at s1 s2
  obtain⟨b1,c1,y1,s1⟩:=s1
  obtain⟨b2,c2,y2,s2⟩:=s2
  obtain⟨q1,q2,cur1,e1,v10,l1,q3,h1,g10,o10,r10⟩:=k10
  rw[y1] at q3;cases q3
  obtain⟨q1,q2,cur1',e1',v11,_,q3,h1',g11,o11,r11⟩:=k11
  rw[y1] at q3;cases q3
  rw[h1] at h1';cases h1'
  obtain⟨q1,q2,cur1',e1',v12,_,q3,h1',g12,o12,r12⟩:=k12
  rw[y1] at q3;cases q3
  rw[h1] at h1';cases h1'
  obtain⟨q1,q2,cur2,e2,v20,l2,q3,h2,g20,o20,_⟩:=k20
  rw[y2] at q3;cases q3
  obtain⟨q1,q2,cur2',e2',v21,_,q3,h2',g21,o21,_⟩:=k21
  rw[y2] at q3;cases q3
  rw[h2] at h2';cases h2'
  obtain⟨q1,q2,cur2',e2',v22,_,q3,h2',g22,o22,_⟩:=k22
  rw[y2] at q3;cases q3
  rw[h2] at h2';cases h2'
  obtain⟨q1,q2,cur2',e2',v23,_,q3,h2',g23,o23,_⟩:=k23
  rw[y2] at q3;cases q3
  rw[h2] at h2';cases h2'
  have hlow:∀b,(EH M bs w0 true).low b→w0.heap.size≤b:=fun b h=>h.elim id (fun h=>h.elim)
  have hne:b1≠b2:=fun e=>by
    subst e
    have:=g.inj _ _ _ _ _ y1 y2
    cases this
  have hM:∀b,M b→¬w0.heap.size≤b:=fun b hb h=>g.old b hb (.inl h)
  have hsz:3≤cur1.size:=by
    have:=(Array.getElem?_eq_some_iff.1 g12).1;omega
  have e10:v10=.int .i64 p.1:=zkB r10
  have e11:v11=.int .i64 p.2.1:=zkB r11
  refine⟨b1,b2,cur1,e1,(0,0),cur2,vw (EH M bs w0 true) η w,⟨h1,⟨e2,h2⟩,fun h=>hM b1 h (hlow b1 l1),hne,hsz,?_,?_,?_⟩,s1,s2,hlow b2 l2⟩
  · obtain ⟨l,hl,⟨hf,_⟩|⟨_,hv⟩⟩:=r12
    · cases hf
    subst hv
    have ht:cur1.toList.take 3=[v10,v11,v12]:=by
      have hl3:(cur1.toList.take 3).length=3:=by rw[List.length_take];simp;omega
      obtain⟨x,y,z,h3⟩:=len3 hl3
      have f:∀j,j<3→(cur1.toList.take 3)[j]?=cur1[j]?:=fun j hj=>by simp[List.getElem?_take,hj]
      have f0:=f 0 (by decide);have f1:=f 1 (by decide);have f2:=f 2 (by decide)
      rw[h3,g10] at f0;rw[h3,g11] at f1;rw[h3,g12] at f2
      simp at f0 f1 f2
      rw[h3,f0,f1,f2]
    rw[ht,e10,e11]
    exact⟨[_],_,rfl,rfl,[_],_,rfl,rfl,[_],[],rfl,hl,rfl⟩
  · intro b c ⟨h3,h4,h5⟩
    exact⟨fun h=>h3 (.inl h),fun e=>h4 2 c2 (by rw[e];exact y2),h5⟩
  · intro j hj
    have:j=0∨j=1∨j=2∨j=3:=by omega
    rcases this with rfl|rfl|rfl|rfl
    · exact⟨_,g20,o20⟩
    · exact⟨_,g21,o21⟩
    · exact⟨_,g22,o22⟩
    · exact⟨_,g23,o23⟩
@[reducible] noncomputable def ER (M:Nat→Prop) (b2:Nat) (w:World):Env:={P:=Tryz.prog,M:=M,mu:=fun _=>False,w0:=w,OB:=OB,x:={mw:=fun b=>b=b2,nd:=true}}
theorem zrp {M:Nat→Prop} {w:World} {p:zjM} {b1 b2:Nat} {cur1:Array Value} {e1:Nat} {f1:Nat×Nat} {cur2:Array Value} {V:View} (r:RawB M w p b1 b2 cur1 e1 f1 cur2 V) (hM:∀b,M b→b<w.heap.size) (hM2:¬M b2) {a:Act} (hsz:a.tmps.size=23) (hd:a.defers=[]) (s1:a.tmps.getD 1 undef=.pointer (some ⟨b1,0,none⟩)) (s2:a.tmps.getD 2 undef=.pointer (some ⟨b2,0,none⟩))
    {c:List Int} {ls cap:Nat} {cur:Array Value} (s3:a.tmps.getD 3 undef=.slice (some ⟨ls,0,none⟩) c.length cap) (hls:w.heap[ls]?=some (.cells cur 3 (0,0))) (hrow:rowI c cap cur) (hl2:ls≠b2) (hlM:¬M ls):RelS (ER M b2 w) 23 (stR p c) a w:=by
  obtain⟨e2,h2⟩:=r.h2
  refine ⟨fun k=>if k=2 then some (b2,4) else none,{
    size:=hsz,lim:=by decide,defers:=⟨⟨[],hd,List.nodup_nil,fun _ h=>by cases h⟩,fun _ h=>by cases h⟩,os:=rfl,tape:=rfl,output:=rfl,grow:=Nat.le_refl _,keep:=fun _ _ _ _=>rfl,
    own:=fun k b n hk=>?_,dis:=fun b hb=>hb.elim,inj:=fun k k' b n n' hk hk'=>?_,old:=fun b hb h=>?_,obkeep:=fun b i o _ h=>h.elim,nd:=fun _=>hd},fun f hf=>?_⟩
  · split at hk
    · cases hk;exact⟨zag h2,.inl (.inr rfl)⟩
    · cases hk
  · split at hk
    · split at hk'
      · omega
      · cases hk'
    · cases hk
  · rcases h with h|h
    · exact absurd (hM b hb) (Nat.not_lt_of_le h)
    · have h:b=b2:=h
      subst h;exact hM2 hb
  · have hv:∀b c el f,¬M b→b≠b2→w.heap[b]?=some (.cells c el f)→vw (ER M b2 w) (fun k=>if k=2 then some (b2,4) else none) w b c:=fun b c el f hm hn hb=>⟨fun h=>h.elim hm (fun⟨_,h⟩=>(by cases h)),(fun k n hk=>by
      have hk:(if k=2 then some (b2,4) else none)=some (b,n):=hk
      split at hk
      · cases hk;exact hn rfl
      · cases hk),el,f,hb⟩
    have hcell:∀j,j<4→Fact.holds (ER M b2 w) (fun k=>if k=2 then some (b2,4) else none) a w (.cell 2 j .u):=fun j hj=>by
      obtain⟨v,hv1,hv2⟩:=r.one j hj
      exact⟨b2,4,cur2,e2,v,.inr rfl,rfl,h2,hv1,hv2,trivial⟩
    simp only[stR,List.mem_cons,List.not_mem_nil,or_false] at hf
    rcases hf with rfl|rfl|rfl|rfl|rfl|rfl|rfl
    · simp only[Fact.holds,zao,zaN];rw[zbl (by decide),s1]
      refine⟨⟨b1,0,none⟩,cur1,rfl,rfl,hv b1 cur1 e1 f1 r.v1 r.n12 r.h1,by show 0+3≤cur1.size;have:=r.z1;omega,?_⟩
      show Rep _ zlM p ((cur1.toList.drop 0).take 3)
      rw[List.drop_zero]
      exact Rep.mono (fun b c h=>by obtain⟨q1,q2,el,f,q3⟩:=r.hV b c h;exact hv b c el f q1 q2 q3) _ _ _ r.rep
    · simp only[Fact.holds,zao,zaN];rw[zbl (by decide),s3]
      refine⟨_,⟨some ⟨ls,0,none⟩,cap,rfl,hrow.2.1,hrow.2.2.1,(fun h=>(by cases h)),fun ad had hne=>?_⟩,.inr ⟨rfl,rfl⟩⟩
      cases had
      have hin:=zrn (V:=vw (ER M b2 w) (fun k=>if k=2 then some (b2,4) else none) w) hrow
      refine⟨rfl,cur,hv ls cur 3 (0,0) hlM hl2 hls,by show 0+c.length*1≤cur.size;have h1:=hrow.1;have h2:=hrow.2.1;omega,fun i x hx=>?_⟩
      have:=hin.2.2.2 i x hx
      show Rep _ I64 x ((cur.toList.drop (0+i*1)).take 1)
      rw[Nat.zero_add];exact this
    · simp only[Fact.holds,zao,zaN];rw[zbl (by decide),s2]
      exact⟨b2,4,rfl,rfl⟩
    · exact hcell 0 (by decide)
    · exact hcell 1 (by decide)
    · exact hcell 2 (by decide)
    · exact hcell 3 (by decide)
end Go.Eng.Ar
namespace Go.Eng.Ar
open Go.Eng Go.Proofs Go
set_option linter.all false
set_option maxRecDepth 100000
set_option maxHeartbeats 2000000
theorem zyC {b:Code} {st0 target:St} {a:Act} {M:Nat→Prop} {bs:List Nat} {w0 w:World} {Q:Exit→Act→World→Prop} (hR:RelS (EH M bs w0 true) 23 st0 a w) (hd:zcZ 23 b=true) (hnr:za6 b=true)
    (hvc:vc cfB (par cfB) [] b 0 st0 (fun e st=>match e with | .normal=>Goal (∃s:Unit,ent st target∧True) | .ret=>False | _=>False))
    (hQ:∀a' w',RelS (EH M bs w0 true) 23 target a' w'→Q .normal a' w'):b.wpIn (Fw none) 0 Tryz.prog Q a w:=by
  refine wpIn_mono (zbe zqt (zb3 mixed zqt) b 0 st0 _ a w (EH M bs w0 true) none rfl rfl (.inr hnr) hd hvc hR) ?_
  rintro e a' w' ⟨⟨xe,st',h1,h2,h3⟩,hag⟩
  subst h1
  cases xe with
  | normal=>
    obtain⟨_,h4,h5⟩:=h2.out
    exact hQ a' w' (zbS h4 h3)
  | exit id=>exact h2.elim
  | ret=>exact h2.elim
theorem zwr {ops:Array Oper} {l:List Oper} {st0 target:St} {a:Act} {M:Nat→Prop} {bs:List Nat} {w0 w:World} {Q:Exit→Act→World→Prop} (hR:RelS (EH M bs w0 true) 23 st0 a w)
    (hsub:∀o∈l,o∈ops.toList) (hdst:∀o∈ops.toList,∀t,o.dst=some t→t<23)
    (hvc:zes cfB ops l st0 (fun st=>Goal (∃s:Unit,ent st target∧True)))
    (hQ:∀a' w',RelS (EH M bs w0 true) 23 target a' w'→Q .normal a' w'):wpListIn (Fw none) 0 Tryz.prog ops Q l a w:=by
  refine zeS ?_ l a w (zcE (E:=EH M bs w0 true) (c:=cfB) (ro:=none) (q:=0) zqt (ops:=ops) (Q:=fun e a' w'=>e=.normal∧RelS (EH M bs w0 true) 23 target a' w') hdst l hsub st0 _ a w hvc hR ?_)
  · rintro e a' w' ⟨rfl,h1⟩
    exact hQ a' w' h1
  · intro st' a' w' h1 h2
    obtain⟨_,h4,_⟩:=h1.out
    exact⟨rfl,zbS h4 h2⟩
theorem zzO (x:zcQ):vc cfB (par cfB) [] .ret 0 (stC x) (fun e st=>match e with | .ret | .normal=>zhC cfB Tryz.f143.results.toList znD.res (x,()) st | _=>False):=by
  repeat' (intro hzz;(try (rename Two=>hq;cases hq));(try dsimp only at hzz);(try simp only[zad,zac,eqD,inR,big,zab,zB] at hzz);(try (revert hzz;intro _)))
  all_goals try (rename Unit=>hq;clear hq)
  all_goals try ((with_reducible refine Held.mk ?_);(with_reducible (first|refine Frz.mk ?_|refine And.intro (Frz.mk ?_) ?_|refine And.intro ?_ (Frz.mk ?_)));repeat' first|exact True.intro|(change _=_;with_reducible rfl)|refine And.intro ?_ ?_|(with_reducible refine Frz.mk ?_))
  all_goals try (refine Held.mk ?_;(try dsimp only at *);(try simp only[zad,zac,eqD,inR,big,zab,zB] at *))
  all_goals first|exact⟨rfl,rfl,rfl,rfl⟩|trace_state
theorem vRet (x:zcQ):zhC cfB Tryz.f143.results.toList znD.res (x,()) (stC x):=zzO x
def CB (M:Nat→Prop) (b2:Nat) (x:zcQ) (w:World):Prop:=
  ∃ cur el v0 v2,w.heap[b2]?=some (.cells cur el (0,0))∧cur[0]?=some v0∧RepV (fun b c=>¬M b∧b≠b2∧∃el f,w.heap[b]?=some (.cells c el f)) (.sl I64) x.1 v0∧cur[1]?=some (.int .i64 x.2.1)∧
    cur[2]?=some v2∧RepV (fun b c=>¬M b∧b≠b2∧∃el f,w.heap[b]?=some (.cells c el f)) (.sl I64) x.2.2.1 v2∧cur[3]?=some (.int .i64 x.2.2.2.1)
theorem zAQ {M:Nat→Prop} {b2:Nat} {w w':World} {a:Act} {x:zcQ} (hR:RelS (ER M b2 w) 23 (stC x) a w') (h2:a.tmps.getD 2 undef=.pointer (some ⟨b2,0,none⟩)):CB M b2 x w':=by
  obtain⟨η,g,H⟩:=hR
  have s2:=H (.slot 2 (.one (.p 2 0))) (by simp)
  have k0:=H (.cell 2 0 (.d (.sl I64) x.1)) (by simp)
  have k1:=H (.cell 2 1 (.d I64 x.2.1)) (by simp)
  have k2:=H (.cell 2 2 (.d (.sl I64) x.2.2.1)) (by simp)
  have k3:=H (.cell 2 3 (.d I64 x.2.2.2.1)) (by simp)
  simp only[Fact.holds,zao,zaN] at s2 k0 k1 k2 k3
  rw[zbl (by decide),h2] at s2
  obtain⟨b,c,y,s2⟩:=s2
  have hb:b2=b:=by
    have:=s2;simp at this;exact this
  subst hb
  obtain⟨q1,q2,cur,el,v0,_,q3,h,g0,_,r0⟩:=k0
  rw[y] at q3;cases q3
  obtain⟨q1,q2,cur',el',v1,_,q3,h',g1,_,r1⟩:=k1
  rw[y] at q3;cases q3
  rw[h] at h';cases h'
  obtain⟨q1,q2,cur',el',v2,_,q3,h',g2,_,r2⟩:=k2
  rw[y] at q3;cases q3
  rw[h] at h';cases h'
  obtain⟨q1,q2,cur',el',v3,_,q3,h',g3,_,r3⟩:=k3
  rw[y] at q3;cases q3
  rw[h] at h';cases h'
  have hv:∀b' c',vw (ER M b2 w) η w' b' c'→¬M b'∧b'≠b2∧∃el f,w'.heap[b']?=some (.cells c' el f):=fun b' c' ⟨h1,h2,h3⟩=>⟨fun hm=>h1 (.inl hm),fun e=>h2 2 c (by rw[e];exact y),h3⟩
  rw[zkB r1] at g1
  rw[zkB r3] at g3
  exact⟨cur,el,v0,v2,h,g0,r0.mono hv,g1,g2,r2.mono hv,g3⟩
theorem zAO {M:Nat→Prop} {b2:Nat} {w w':World} {a:Act} (hR:RelS (ER M b2 w) 23 stUp a w') (h2:a.tmps.getD 2 undef=.pointer (some ⟨b2,0,none⟩)):∃cur el,w'.heap[b2]?=some (.cells cur el (0,0))∧∀j,j<4→∃v,cur[j]?=some v∧v.oneCell'=true:=by
  obtain⟨η,g,H⟩:=hR
  have s2:=H (.slot 2 (.one (.p 2 0))) (by simp)
  have k0:=H (.cell 2 0 .u) (by simp)
  have k1:=H (.cell 2 1 .u) (by simp)
  have k2:=H (.cell 2 2 .u) (by simp)
  have k3:=H (.cell 2 3 .u) (by simp)
  simp only[Fact.holds,zao,zaN] at s2 k0 k1 k2 k3
  rw[zbl (by decide),h2] at s2
  obtain⟨b,c,y,s2⟩:=s2
  have hb:b2=b:=by
    have:=s2;simp at this;exact this
  subst hb
  obtain⟨q1,q2,cur,el,v0,_,q3,h,g0,r0,_⟩:=k0
  rw[y] at q3;cases q3
  obtain⟨q1,q2,cur',el',v1,_,q3,h',g1,r1,_⟩:=k1
  rw[y] at q3;cases q3
  rw[h] at h';cases h'
  obtain⟨q1,q2,cur',el',v2,_,q3,h',g2,r2,_⟩:=k2
  rw[y] at q3;cases q3
  rw[h] at h';cases h'
  obtain⟨q1,q2,cur',el',v3,_,q3,h',g3,r3,_⟩:=k3
  rw[y] at q3;cases q3
  rw[h] at h';cases h'
  refine⟨cur,el,h,fun j hj=>?_⟩
  have:j=0∨j=1∨j=2∨j=3:=by omega
  rcases this with rfl|rfl|rfl|rfl
  · exact⟨_,g0,r0⟩
  · exact⟨_,g1,r1⟩
  · exact⟨_,g2,r2⟩
  · exact⟨_,g3,r3⟩
theorem zvu {M:Nat→Prop} {b2 l:Nat} {x:zcQ} {w:World} {o:Obj} {r:Loop} (h:CB M b2 x w) (hl:w.heap[l]?=some (.loop r)):CB M b2 x (w.putObj l o):=by
  obtain⟨cur,el,v0,v2,h1,h2,h3,h4,h5,h6,h7⟩:=h
  have hne:∀b c el f,w.heap[b]?=some (.cells c el f)→b≠l:=fun b c el f hb e=>by subst e;rw[hl] at hb;cases hb
  have hv:∀b c,(¬M b∧b≠b2∧∃el f,w.heap[b]?=some (.cells c el f))→¬M b∧b≠b2∧∃el f,(w.putObj l o).heap[b]?=some (.cells c el f):=fun b c ⟨q1,q2,el,f,q3⟩=>⟨q1,q2,el,f,(World.putObj_heap_other (hne b c el f q3)).trans q3⟩
  exact⟨cur,el,v0,v2,(World.putObj_heap_other (hne b2 cur el _ h1)).trans h1,h2,h3.mono hv,h4,h5,h6.mono hv,h7⟩
theorem zsE {M:Nat→Prop} {bs:List Nat} {w0 w:World} {b2 D:Nat} {x:zcQ} {a:Act} (hM:∀b,M b→b<w0.heap.size) (hbs:∀b,b∈bs→b<w0.heap.size) (hobk:∀b i o,b<w0.heap.size→b∈bs→w0.heap[b]?=some o→OB i o→∃o',w.heap[b]?=some o'∧OB i o') (hsz:a.tmps.size=23) (hd:a.defers=[mkD D]) (s2:a.tmps.getD 2 undef=.pointer (some ⟨b2,0,none⟩)) (hb2:w0.heap.size≤b2) (hD:w0.heap.size≤D) (hDo:w.heap[D]?=some (.deferred (some [])))
    (hos:w.os=w0.os) (htape:w.tape=w0.tape) (hout:w.output=w0.output) (hsize:w0.heap.size≤w.heap.size) (hkeep:∀b,b<w0.heap.size→b ∉ bs→w.heap[b]?=w0.heap[b]?) (hc:CB M b2 x w):RelS (EH M bs w0 false) 23 (stC x) a w:=by
  obtain⟨cur,el,v0,v2,h1,h2,h3,h4,h5,h6,h7⟩:=hc
  have hDb:D≠b2:=fun e=>by subst e;rw[h1] at hDo;cases hDo
  refine ⟨fun k=>if k=2 then some (b2,4) else none,{
    size:=hsz,lim:=by decide,defers:=⟨⟨[D],hd,by simp,fun D' hD'=>?_⟩,fun _ h=>by cases h⟩,os:=hos,tape:=htape,output:=hout,grow:=hsize,keep:=fun b hb hm _=>hkeep b hb hm,
    own:=fun k b n hk=>?_,dis:=fun b hb h=>?_,inj:=fun k k' b n n' hk hk'=>?_,old:=fun b hb h=>?_,obkeep:=fun b i o hb hm h1 h2=>hobk b i o hb hm h1 h2,nd:=fun h=>by cases h},fun f hf=>?_⟩
  · have e:D'=D:=List.mem_singleton.1 hD'
    subst e
    refine⟨hD,hDo,fun k c hk=>?_⟩
    have hk:(if k=2 then some (b2,4) else none)=some (D',c):=hk
    split at hk
    · cases hk;exact hDb rfl
    · cases hk
  · have hk:(if k=2 then some (b2,4) else none)=some (b,n):=hk
    split at hk
    · cases hk;exact⟨zag h1,.inl (.inl hb2)⟩
    · cases hk
  · exact h.elim (fun h=>absurd (hbs b hb) (Nat.not_lt_of_le h)) (fun h=>h)
  · have hk:(if k=2 then some (b2,4) else none)=some (b,n):=hk
    have hk':(if k'=2 then some (b2,4) else none)=some (b,n'):=hk'
    split at hk
    · split at hk'
      · omega
      · cases hk'
    · cases hk
  · exact h.elim (fun h=>absurd (hM b hb) (Nat.not_lt_of_le h)) (fun h=>h)
  · have hv:∀b c,(¬M b∧b≠b2∧∃el f,w.heap[b]?=some (.cells c el f))→vw (EH M bs w0 false) (fun k=>if k=2 then some (b2,4) else none) w b c:=fun b c ⟨q1,q2,q3⟩=>⟨fun h=>h.elim q1 (fun⟨_,h⟩=>(by cases h)),(fun k n hk=>by
      have hk:(if k=2 then some (b2,4) else none)=some (b,n):=hk
      split at hk
      · cases hk;exact q2 rfl
      · cases hk),q3⟩
    have hone:∀(t:Ty) (y:t.Den) (v:Value) (V:View),t.agg=false→RepV V t y v→v.oneCell'=true:=fun t y v V ht ⟨l,q1,q2⟩=>by
      rcases q2 with ⟨h,_⟩|⟨_,h⟩
      · rw[ht] at h;cases h
      · subst h;exact Rep.oneCell _ _ _ q1 v (by simp)
    simp only[stC,List.mem_cons,List.not_mem_nil,or_false] at hf
    rcases hf with rfl|rfl|rfl|rfl|rfl
    · simp only[Fact.holds,zao,zaN];rw[zbl (by decide),s2]
      exact⟨b2,4,rfl,rfl⟩
    · exact⟨b2,4,cur,el,v0,.inl hb2,rfl,h1,h2,hone _ _ _ _ rfl h3,h3.mono hv⟩
    · exact⟨b2,4,cur,el,_,.inl hb2,rfl,h1,h4,rfl,RepV.mk1 rfl rfl⟩
    · exact⟨b2,4,cur,el,v2,.inl hb2,rfl,h1,h5,hone _ _ _ _ rfl h6,h6.mono hv⟩
    · exact⟨b2,4,cur,el,_,.inl hb2,rfl,h1,h7,rfl,RepV.mk1 rfl rfl⟩
end Go.Eng.Ar
namespace Go.Eng.Ar
open Go.Eng Go.Proofs Go
set_option linter.all false
set_option maxRecDepth 100000
set_option maxHeartbeats 2000000
structure JB (w1:World) (base l b2:Nat) (o:Obj) (W:World):Prop where
  os:W.os=w1.os
  tape:W.tape=w1.tape
  output:W.output=w1.output
  size:base≤W.heap.size
  keep:∀b,b<base→b≠l→b≠b2→W.heap[b]?=w1.heap[b]?
  loop:W.heap[l]?=some o
  two:∃cur el,W.heap[b2]?=some (.cells cur el (0,0))∧∀j,j<4→∃v,cur[j]?=some v∧v.oneCell'=true
structure JX (M:Nat→Prop) (w1:World) (base l b2:Nat) (o:Obj) (x:zcQ) (W:World):Prop where
  os:W.os=w1.os
  tape:W.tape=w1.tape
  output:W.output=w1.output
  size:base≤W.heap.size
  keep:∀b,b<base→b≠l→b≠b2→W.heap[b]?=w1.heap[b]?
  loop:W.heap[l]?=some o
  cb:CB M b2 x W
theorem zto {M:Nat→Prop} {w0s:Nat} {w1:World} {p:zjM} {b1 b2:Nat} {cur1:Array Value} {e1:Nat} {f1:Nat×Nat} {cur2:Array Value} {V:View} (rb:RawB M w1 p b1 b2 cur1 e1 f1 cur2 V) (hM:∀b,M b→b<w0s) (hb2:w0s≤b2) {base l D:Nat} (hl:l<base) (hlb:l≠b1∧l≠b2) (hw0:w0s≤base) (hbase:base=w1.heap.size)
    {fn:FuncId} {a3:Act} (hsz:a3.tmps.size=23) (s1:a3.tmps.getD 1 undef=.pointer (some ⟨b1,0,none⟩)) (s2:a3.tmps.getD 2 undef=.pointer (some ⟨b2,0,none⟩)) (rc:LoopState→Option Code→Loop) (hrc:rc=fun st pe=>{state:=st,pending:=pe,fn,tmps:=a3.tmps,params:=#[13],assign:=B2,body:=BB,defers:=D})
    (hl1:∃o,w1.heap[l]?=some (.loop o)) {x:zcQ}
    {c:List Int} {rest:List (List Int)} {W:World} {ls cap:Nat} {cur:Array Value} (hJ:JB w1 base l b2 (.loop (rc .ready none)) W) (hx:zhJ p.2.2.1 (c::rest)=some x) (hg:goodA p.2.2.1 c) (hls:base≤ls) (hcur:W.heap[ls]?=some (.cells cur 3 (0,0))) (hrow:rowI c cap cur) :
    YieldAt (Fw none) 0 Tryz.prog l #[.slice (some ⟨ls,0,none⟩) c.length cap] W fun e w'=>(∀b,base≤b→b<W.heap.size→w'.heap[b]?=W.heap[b]?)∧((e=.returned (.bool true)∧(JB w1 base l b2 (.loop (rc .ready none)) w'∧zhJ p.2.2.1 rest=some x))∨(e=.returned (.bool false)∧JX M w1 base l b2 (.loop (rc .done (some .ret))) x w')):=by
  obtain⟨sl,hsl⟩:∃sl,sl=Value.slice (some ⟨ls,0,none⟩) c.length cap:=⟨_,rfl⟩
  have hloop:=hJ.loop
  have hy:=run_yield (P:=Tryz.prog) (args:=#[sl]) hloop (by rw[hrc];rfl)
  have htm:((rc .ready none).params.zip #[sl]).foldl (fun tmps (t,a)=>tmps.setIfInBounds t a) (rc .ready none).tmps=a3.tmps.setIfInBounds 13 sl:=by rw[hrc];simp
  rw[htm] at hy
  rw[←hsl]
  have e1':(rc .ready none).fn=fn:=by rw[hrc]
  have e2':(rc .ready none).assign=B2:=by rw[hrc]
  have e3':(rc .ready none).body=BB:=by rw[hrc]
  rw[e1',e2',e3'] at hy
  refine⟨fn,_,B2,BB,hy,roundIn_of_wpIn trivial ?_⟩
  obtain⟨a4,ha4⟩:∃a4:Act,a4 = {tmps:=a3.tmps.setIfInBounds 13 sl,defers:=[]}:=⟨_,rfl⟩
  rw[←ha4]
  have hap:a4=({tmps:=a3.tmps,defers:=[]}:Act).put (some 13) sl:=ha4
  have z4:a4.tmps.size=23:=by rw[hap,zaj];exact hsz
  have g13:a4.tmps.getD 13 undef=sl:=by rw[hap];exact zae (by show 13<a3.tmps.size;omega)
  have g1:a4.tmps.getD 1 undef=.pointer (some ⟨b1,0,none⟩):=by rw[hap];exact (zaa (by decide)).trans s1
  have g2:a4.tmps.getD 2 undef=.pointer (some ⟨b2,0,none⟩):=by rw[hap];exact (zaa (by decide)).trans s2
  have d4:a4.defers=[]:=by rw[ha4]
  clear ha4 hap
  refine wpIn_region_list ?_
  have hstep:∀ {o:Oper} {ops:Array Oper} {rest:List Oper} {Q:Exit→Act→World→Prop},o.guard=none→o.wpIn (Fw (some l)) 0 Tryz.prog a4 W (wpListIn (Fw (some l)) 0 Tryz.prog ops Q rest) Q→wpListIn (Fw (some l)) 0 Tryz.prog ops Q (o::rest) a4 W:=by
    intro o ops rest Q hg h
    have hw:Region.wanted o (yielded ops a4.tmps)=true:=by simp[Region.wanted,hg]
    simp only[wpListIn,hw,if_true]
    exact h
  refine hstep rfl (zau (r:=.ok (.value sl) W) (by intro d h;cases h) (asR a4 W _ (.tmp 13) rfl g13) ?_)
  obtain⟨a5,ha5⟩:∃a5,a5=a4.put (some 3) sl:=⟨_,rfl⟩
  have z5:a5.tmps.size=23:=by rw[ha5,zaj];exact z4
  have d5:a5.defers=[]:=by rw[ha5,zah];exact d4
  have k1:a5.tmps.getD 1 undef=.pointer (some ⟨b1,0,none⟩):=by rw[ha5];exact (zaa (by decide)).trans g1
  have k2:a5.tmps.getD 2 undef=.pointer (some ⟨b2,0,none⟩):=by rw[ha5];exact (zaa (by decide)).trans g2
  have k3:a5.tmps.getD 3 undef=sl:=by rw[ha5];exact zae (by rw[z4];decide)
  refine (show Exit.then (fun a₁ w₁=>∃w₂,(Instr.beginRound l).run Tryz.prog w₁=.ok () w₂∧BB.wpIn (Fw (some l)) 0 Tryz.prog (roundPost Tryz.prog l _) a₁ w₂) (fun _ _ _=>False) .normal (a4.put (some 3) sl) W from ?_)
  rw[←ha5]
  refine⟨_,run_beginRound hloop (by rw[hrc]),?_⟩
  obtain⟨W2,hW2⟩:∃W2,W2=W.putObj l (.loop {rc .ready none with state:=.busy}):=⟨_,rfl⟩
  rw[←hW2]
  have s2z:W2.heap.size=W.heap.size:=by rw[hW2];exact World.putObj_size
  have o2:∀b,b≠l→W2.heap[b]?=W.heap[b]?:=fun b h=>by rw[hW2];exact World.putObj_heap_other h
  have l2:W2.heap[l]?=some (.loop {rc .ready none with state:=.busy}):=by rw[hW2];exact World.putObj_heap_same (zag hloop)
  have old:∀b,b<base→b≠l→b≠b2→W2.heap[b]?=w1.heap[b]?:=fun b h1 h2 h3=>(o2 b h2).trans (hJ.keep b h1 h2 h3)
  have notl:∀b c el f,w1.heap[b]?=some (.cells c el f)→b≠l:=fun b c el f h e=>by
    obtain⟨o,ho⟩:=hl1
    subst e;rw[ho] at h;cases h
  obtain⟨e2,hb2h⟩:=rb.h2
  have b2b:b2<base:=by rw[hbase];exact zag hb2h
  obtain⟨curU,elU,hU,hU4⟩:=hJ.two
  have rb2:RawB M W2 p b1 b2 cur1 e1 f1 curU V:=⟨(old b1 (by rw[hbase];exact zag rb.h1) hlb.1.symm rb.n12).trans rb.h1,⟨elU,(o2 b2 hlb.2.symm).trans hU⟩,rb.v1,rb.n12,rb.z1,rb.rep,fun b c h=>by
    obtain⟨q1,q2,el,f,q3⟩:=rb.hV b c h
    exact⟨q1,q2,el,f,(old b (by rw[hbase];exact zag q3) (notl b c el f q3) q2).trans q3⟩,hU4⟩
  have hrel:=zrp rb2 (fun b hb=>by have:=hM b hb;have:=hJ.size;omega) (fun h=>by have:=hM b2 h;omega) z5 d5 k1 k2 (c:=c) (ls:=ls) (cap:=cap) (cur:=cur) (k3.trans hsl) ((o2 ls (by omega)).trans hcur) hrow (by omega) (fun h=>by have:=hM ls h;omega)
  refine wpIn_mono (zbe zqt (zb3 mixed zqt) BB 0 (stR p c) _ a5 W2 (ER M b2 W2) (some l) rfl rfl (.inr (by kernel_rfl)) (by kernel_rfl) (vBB p c hg) hrel) ?_
  rintro e a6 W3 ⟨⟨xe,st',q1,q2,q3⟩,hag⟩
  subst q1
  have hkeep:∀b,b<W2.heap.size→b≠b2→W3.heap[b]?=W2.heap[b]?:=fun b h1 h2=>by
    obtain⟨η,g,_⟩:=q3
    exact g.keep b h1 (fun h=>h) h2
  have hs3:W2.heap.size≤W3.heap.size:=by obtain⟨η,g,_⟩:=q3;exact g.grow
  have hst:W3.os=W2.os∧W3.tape=W2.tape∧W3.output=W2.output:=by obtain⟨η,g,_⟩:=q3;exact⟨g.os,g.tape,g.output⟩
  have hw2:W2.os=W.os∧W2.tape=W.tape∧W2.output=W.output:=by rw[hW2];exact⟨rfl,rfl,rfl⟩
  have l3:W3.heap[l]?=some (.loop {rc .ready none with state:=.busy}):=(hkeep l (by rw[s2z];have:=hJ.size;omega) hlb.2).trans l2
  have hJs:=hJ.size
  have up:∀(o:Obj) b,base≤b→b<W.heap.size→(W3.putObj l o).heap[b]?=W.heap[b]?:=fun o b h1 h2=>(World.putObj_heap_other (by omega)).trans ((hkeep b (by omega) (by omega)).trans (o2 b (by omega)))
  cases xe with
  | normal=>
    obtain⟨_,hent,hat⟩:=q2.out
    obtain⟨curN,elN,hN,hN4⟩:=zAO (zbS hent q3) ((hag (by intro h;cases h) 2 (by decide)).trans k2)
    refine⟨_,_,run_endRound none l3,up _,.inl ⟨rfl,?_,?_⟩⟩
    · have e4:(Obj.loop {({rc .ready none with state:=.busy}:Loop) with state:=if (none:Option Code).isNone=true then .ready else .done,pending:=none})=.loop (rc .ready none):=by rw[hrc];rfl
      refine⟨hst.1.trans (hw2.1.trans hJ.os),hst.2.1.trans (hw2.2.1.trans hJ.tape),hst.2.2.trans (hw2.2.2.trans hJ.output),?_,fun b h1 h2 h3=>?_,?_,curN,elN,(World.putObj_heap_other hlb.2.symm).trans hN,hN4⟩
      · rw[World.putObj_size];omega
      · exact (World.putObj_heap_other h2).trans ((hkeep b (by omega) h3).trans (old b h1 h2 h3))
      · refine (World.putObj_heap_same (zag l3)).trans ?_
        exact congrArg some e4
    · simp only[zhJ,hat] at hx
      simpa using hx
  | exit id=>exact q2.elim
  | ret=>
    obtain⟨_,hent,hat⟩:=q2.out
    have hcb:=zAQ (zbS hent q3) ((hag (by intro h;cases h) 2 (by decide)).trans k2)
    refine⟨_,_,run_endRound (some .ret) l3,up _,.inr ⟨rfl,?_⟩⟩
    have hx:(atR p.2.2.1 c).1=x:=by
      simp only[zhJ,hat,if_true] at hx
      exact Option.some.inj hx
    rw[hx] at hcb
    have e4:(Obj.loop {({rc .ready none with state:=.busy}:Loop) with state:=if (some Code.ret).isNone=true then .ready else .done,pending:=some .ret})=.loop (rc .done (some .ret)):=by rw[hrc];rfl
    refine⟨hst.1.trans (hw2.1.trans hJ.os),hst.2.1.trans (hw2.2.1.trans hJ.tape),hst.2.2.trans (hw2.2.2.trans hJ.output),?_,fun b h1 h2 h3=>?_,?_,?_⟩
    · rw[World.putObj_size];omega
    · exact (World.putObj_heap_other h2).trans ((hkeep b (by omega) h3).trans (old b h1 h2 h3))
    · exact (World.putObj_heap_same (zag l3)).trans (congrArg some e4)
    · exact zvu hcb l3
end Go.Eng.Ar
namespace Go.Eng.Ar
open Go.Eng Go.Proofs Go
set_option linter.all false
set_option maxRecDepth 100000
set_option maxHeartbeats 2000000
theorem zsI:zdA Tryz.prog 178:=⟨Tryz.f178,Tryz.func178,by kernel_rfl,by kernel_rfl⟩
theorem zsJ:zdA Tryz.prog 163:=⟨Tryz.f163,Tryz.func163,by kernel_rfl,by kernel_rfl⟩
theorem zAu:Ok 143 znD:=by
  refine⟨zsC (c:=cfB) zqt Tryz.func143 zw8 rfl (by decide) (by decide) (by decide) rfl ?_,Tryz.f143,Tryz.func143,by kernel_rfl,by kernel_rfl⟩
  rintro⟨(p:zjM),_⟩ ⟨n,(hn:p.2.1=(n:Int)),hn3,(hsome:(zng p.2.2.1 n).isSome=true),(hbl:List.length (α:=BndD) p.2.2.1≤100),(hgood:∀c∈zcn (n+1) 0 (List.length (α:=BndD) p.2.2.1),goodA p.2.2.1 c)⟩ M bs w0 a hd hR
  obtain⟨x,hx⟩:=Option.isSome_iff_exists.1 hsome
  have hfin:znD.f (p,())=(x,()):=by
    show ((zng p.2.2.1 p.2.1.toNat).getD zhG,())=(x,())
    rw[hn,show ((n:Int)).toNat=n from rfl,hx];rfl
  have hR0:=hR
  have hMlt:∀b,M b→b<w0.heap.size:=fun b hb=>by
    obtain⟨η,g,_⟩:=hR0
    exact Nat.lt_of_not_le fun h=>g.old b hb (.inl h)
  have hbslt:∀b,b∈bs→b<w0.heap.size:=fun b hb=>by
    obtain⟨η,g,_⟩:=hR0
    exact Nat.lt_of_not_le fun h=>g.dis b hb (.inl h)
  have hR:RelS (EH M bs w0 true) 23 [.slot 0 (.one (.d zlM p))] a w0:=zyO hR hd
  have evt:∀(a:Act) (t:Nat),a.eval (.tmp t)=a.tmps.getD t undef:=fun a t=>rfl
  refine wpIn_seq (zyC hR (by kernel_rfl) (by kernel_rfl) (vB0 p) fun a1 w1 hR1=>?_)
  refine wpIn_seq (wpIn_seq (wpIn_region_list ?_))
  change wpListIn (Fw none) 0 Tryz.prog _ _ (znP.take 6++znP.drop 6) a1 w1
  refine zhV _ _ _ (zwr hR1 ?_ ?_ (vB1 p n hn hn3) fun a2 w2 hR2=>?_)
  · exact fun o ho=>by
      change o∈znP
      exact List.mem_of_mem_take ho
  · intro o ho t ht
    change o∈znP at ho
    have hall:(znP.all fun o=>match o.dst with|some t=>Nat.blt t 23|none=>true)=true:=by kernel_rfl
    have:=List.all_eq_true.1 hall o ho
    rw[ht] at this
    exact Nat.le_of_ble_eq_true this
  have hR2':RelS (EH M bs w0 true) 23 ([sI 8 ((n+1:Nat):Int),sI 11 ((List.length (α:=BndD) p.2.2.1:Nat):Int)]++stB0 p) a2 w2:=hR2
  obtain⟨b1,b2,cur1,e1,f1,cur2,V,rb,s1,s2,hb2⟩:=zAe hR2'
  have z2:a2.tmps.size=23:=by obtain⟨η,g,_⟩:=hR2;exact g.size
  have d2:a2.defers=[]:=(zrV hR2).2
  have g8:a2.tmps.getD 8 undef=.int .i64 ((n+1:Nat):Int):=by
    obtain⟨η,H,h⟩:=zrs hR2 (t:=8) (s:=.one (.d I64 ((n+1:Nat):Int))) (by simp) (by decide)
    exact zkB h
  have g11:a2.tmps.getD 11 undef=.int .i64 ((List.length (α:=BndD) p.2.2.1:Nat):Int):=by
    obtain⟨η,H,h⟩:=zrs hR2 (t:=11) (s:=.one (.d I64 ((List.length (α:=BndD) p.2.2.1:Nat):Int))) (by simp) (by decide)
    exact zkB h
  obtain ⟨gos,gtape,gout,ggrow,gkeep,gobk⟩:w2.os=w0.os∧w2.tape=w0.tape∧w2.output=w0.output∧w0.heap.size≤w2.heap.size∧(∀b,b<w0.heap.size→b ∉ bs→w2.heap[b]?=w0.heap[b]?)∧(∀b i o,b<w0.heap.size→b∈bs→w0.heap[b]?=some o→OB i o→∃o',w2.heap[b]?=some o'∧OB i o'):=by
    obtain⟨η,g,_⟩:=hR2
    exact⟨g.os,g.tape,g.output,g.grow,fun b h1 h2=>g.keep b h1 h2 (fun h=>h),fun b i o h1 h2 h3 h4=>g.obkeep b i o h1 h2 h3 h4⟩
  -- the call of chosen
  refine zak rfl (ztZ (f:=163) (args:=#[.int .i64 ((n+1:Nat):Int),.int .i64 ((List.length (α:=BndD) p.2.2.1:Nat):Int)]) (by intro d h;cases h) ?_ ?_)
  · obtain⟨fn,e1,e2,e3⟩:=zsJ
    have e2':¬fn.name = "runtime.NumGoroutine" := by simpa using e2
    have e3':¬fn.body=none:=by intro hn;rw[hn] at e3;cases e3
    have evf:∀(a:Act) (t:Nat),a.eval (.func t)=.func (.func t) #[] #[]:=fun a t=>rfl
    simp[execOp,resolve,Deferred.ofValue,evt,evf,g8,g11,invoke,callFunc,e1,e2',e3']
  refine (zna _ _ w2).mono ?_
  rintro e w3 ⟨rfl,hw3⟩
  refine⟨_,rfl,zaW ?_⟩
  obtain⟨bc,hbc⟩:∃bc,bc=w2.heap.size:=⟨_,rfl⟩
  rw[←hbc]
  obtain⟨cv,hcv⟩:∃cv:Array Value,cv = #[Value.pointer (some ⟨bc,0,none⟩),Value.pointer (some ⟨bc+1,0,none⟩)]:=⟨_,rfl⟩
  rw[←hcv]
  obtain⟨a3,ha3⟩:∃a3,a3=a2.put (some 12) (.func (.func 178) #[] cv):=⟨_,rfl⟩
  have z3:a3.tmps.size=23:=by rw[ha3,zaj];exact z2
  have d3:a3.defers=[]:=by rw[ha3,zah];exact d2
  have t1:a3.tmps.getD 1 undef=.pointer (some ⟨b1,0,none⟩):=by rw[ha3];exact (zaa (by decide)).trans s1
  have t2:a3.tmps.getD 2 undef=.pointer (some ⟨b2,0,none⟩):=by rw[ha3];exact (zaa (by decide)).trans s2
  have t12:a3.tmps.getD 12 undef=.func (.func 178) #[] cv:=by rw[ha3];exact zae (by rw[z2];decide)
  change Code.wpIn (Fw none) 0 Tryz.prog (.block 0 (.rangeFunc (.tmp 12) #[13] B2 BB)) _ (a2.put (some 12) (.func (.func 178) #[] cv)) w3
  rw[←ha3]
  have z3w:w3.heap.size=bc+2:=by rw[hw3,zdp,zdp,hbc]
  have c1:w3.heap[bc]?=some (.cells #[.int .i64 ((n+1:Nat):Int)] 3 (0,0)):=by rw[hw3];exact zcX (zee hbc)
  have c2:w3.heap[bc+1]?=some (.cells #[.int .i64 ((List.length (α:=BndD) p.2.2.1:Nat):Int)] 3 (0,0)):=by rw[hw3];exact zee (by rw[zdp,hbc])
  have o3:∀b,b<w2.heap.size→w3.heap[b]?=w2.heap[b]?:=fun b hb=>by
    obtain⟨o,ho⟩:∃o,w2.heap[b]?=some o:=⟨_,Array.getElem?_eq_getElem hb⟩
    rw[ho,hw3];exact zcX (zcX ho)
  have st3:w3.os=w2.os∧w3.tape=w2.tape∧w3.output=w2.output:=by rw[hw3];exact⟨rfl,rfl,rfl⟩
  refine wpIn_block (wpIn_rangeFunc fun fn hfn=>?_)
  obtain⟨D,hD⟩:∃D,D=w3.heap.size:=⟨_,rfl⟩
  obtain⟨rc,hrc⟩:∃rc:LoopState→Option Code→Loop,rc=fun st pe=>{state:=st,pending:=pe,fn,tmps:=a3.tmps,params:=#[13],assign:=B2,body:=BB,defers:=D}:=⟨_,rfl⟩
  obtain⟨W1,hW1⟩:∃W1,W1=(w3.alloc (.deferred (some []))).alloc (.loop (rc .ready none)):=⟨_,rfl⟩
  have zW1:W1.heap.size=D+2:=by rw[hW1,zdp,zdp,hD]
  have oW1:∀b,b<D→W1.heap[b]?=w3.heap[b]?:=fun b hb=>by
    obtain⟨o,ho⟩:∃o,w3.heap[b]?=some o:=⟨_,Array.getElem?_eq_getElem (by omega)⟩
    rw[ho,hW1];exact zcX (zcX ho)
  have hDo:W1.heap[D]?=some (.deferred (some [])):=by rw[hW1];exact zcX (zee hD)
  have hlo:W1.heap[D+1]?=some (.loop (rc .ready none)):=by rw[hW1];exact zee (by rw[zdp,hD])
  have stW1:W1.os=w2.os∧W1.tape=w2.tape∧W1.output=w2.output:=by rw[hW1];exact st3
  have hfe:a3.eval (.tmp 12)=.func (.func 178) #[] cv:=t12
  obtain⟨e2',h2h⟩:=rb.h2
  have lt1:b1<bc:=by rw[hbc];exact zag rb.h1
  have lt2:b2<bc:=by rw[hbc];exact zag h2h
  have down:∀b,b<bc→W1.heap[b]?=w2.heap[b]?:=fun b hb=>(oW1 b (by omega)).trans (o3 b (by omega))
  have rb1:RawB M W1 p b1 b2 cur1 e1 f1 cur2 V:=⟨(down b1 lt1).trans rb.h1,⟨e2',(down b2 lt2).trans h2h⟩,rb.v1,rb.n12,rb.z1,rb.rep,fun b c h=>by
    obtain⟨q1,q2,el,f,q3⟩:=rb.hV b c h
    exact⟨q1,q2,el,f,(down b (by rw[hbc];exact zag q3)).trans q3⟩,rb.one⟩
  refine⟨D+1,[mkD D],W1,{target:=.fn (.func 178) cv,args:=#[] ++ #[.func (.yield (D+1)) #[] #[]]},W1,178,#[] ++ #[.func (.yield (D+1)) #[] #[]]++cv,W1,?_,?_,?_,?_,fun h=>(by cases h),?_⟩
  · rw[hW1,hrc,hD];exact run_enterLoop_outer _ _ _ _ _
  · simp only[resolve,hfe]
    simp[go_sem,Deferred.ofValue]
  · intro f' _;trivial
  · obtain⟨fn',e1,e2,e3⟩:=zsI
    have e2':¬fn'.name = "runtime.NumGoroutine" := by simpa using e2
    have e3':¬fn'.body=none:=by intro hn;rw[hn] at e3;cases e3
    simp[invoke,callFunc,e1,e2',e3']
  · have hY:Yld (D+1) (D+2) bc (bc+1) (n+1) (List.length (α:=BndD) p.2.2.1) (fun rest W=>(JB W1 (D+2) (D+1) b2 (.loop (rc .ready none)) W∧zhJ p.2.2.1 rest=some x)∧∀c∈rest,goodA p.2.2.1 c) (JX M W1 (D+2) (D+1) b2 (.loop (rc .done (some .ret))) x):=by
      refine⟨?_,?_,?_,?_⟩
      · rintro rest w w' ⟨⟨h,h2⟩,h3⟩ hb
        have hk:∀b,b<D+2→w'.heap[b]?=w.heap[b]?:=fun b h1=>hb.keep b h1 (Nat.lt_of_lt_of_le h1 h.size)
        obtain⟨cu,el,q1,q2⟩:=h.two
        exact⟨⟨⟨hb.os.trans h.os,hb.tape.trans h.tape,hb.output.trans h.output,Nat.le_trans h.size hb.size,fun b h1 h2 h3=>(hk b h1).trans (h.keep b h1 h2 h3),(hk _ (by omega)).trans h.loop,cu,el,(hk b2 (by omega)).trans q1,q2⟩,h2⟩,h3⟩
      · rintro rest w ⟨⟨h,_⟩,_⟩
        exact h.size
      · rintro rest w ⟨⟨h,_⟩,_⟩
        exact⟨(h.keep bc (by omega) (by omega) (by omega)).trans ((oW1 bc (by omega)).trans c1),(h.keep (bc+1) (by omega) (by omega) (by omega)).trans ((oW1 (bc+1) (by omega)).trans c2)⟩
      · rintro c rest w ls cap cur ⟨⟨h,h2⟩,h3⟩ hls hcur hrow
        have hy:=zto (w0s:=w0.heap.size) rb1 hMlt hb2 (base:=D+2) (l:=D+1) (D:=D) (by omega) ⟨by omega,by omega⟩ (by omega) zW1.symm (fn:=fn) (a3:=a3) z3 t1 t2 rc hrc ⟨_,hlo⟩ (x:=x) h h2 (h3 c List.mem_cons_self) hls hcur hrow
        obtain⟨q1,q2,q3,q4,q5,q6⟩:=hy
        refine⟨q1,q2,q3,q4,q5,RoundIn.mono q6 ?_⟩
        rintro e w' ⟨k1,⟨k2,k3⟩|⟨k2,k3⟩⟩
        · exact⟨k1,.inl ⟨k2,k3,fun c hc=>h3 c (List.mem_cons_of_mem _ hc)⟩⟩
        · exact⟨k1,.inr ⟨k2,k3⟩⟩
    have hJ0:(JB W1 (D+2) (D+1) b2 (.loop (rc .ready none)) W1∧zhJ p.2.2.1 (zcn (n+1) 0 (List.length (α:=BndD) p.2.2.1))=some x)∧∀c∈zcn (n+1) 0 (List.length (α:=BndD) p.2.2.1),goodA p.2.2.1 c:=by
      refine⟨⟨⟨rfl,rfl,rfl,by omega,fun _ _ _ _=>rfl,hlo,cur2,e2',(down b2 lt2).trans h2h,rb.one⟩,hx⟩,hgood⟩
    have hc:=zqp hY ⟨by omega,by omega⟩ hbl ⟨by omega,by omega⟩ W1 zW1.symm hJ0
    rw[←hcv] at hc
    have hargs:(#[] ++ #[Value.func (.yield (D+1)) #[] #[]]++cv:Array Value) = #[Value.func (.yield (D+1)) #[] #[]]++cv:=by simp
    rw[hargs]
    refine hc.mono ?_
    rintro e W2 ⟨⟨v,rfl⟩,⟨⟨_,h2⟩,_⟩|h⟩
    · cases h2
    · refine ⟨_,_,run_endLoop h.loop (by rw[hrc];simp),?_⟩
      have hpd:(rc .done (some .ret)).pending=some .ret:=by rw[hrc]
      rw[hpd]
      refine wpIn_ret ⟨.ret,stC x,rfl,?_,?_⟩
      · show zhC cfB Tryz.f143.results.toList znD.res (znD.f (p,())) (stC x)
        rw[hfin];exact vRet x
      · have keepW:∀b,b<bc→b≠b2→W2.heap[b]?=w2.heap[b]?:=fun b h1 h2=>(h.keep b (by omega) (by omega) h2).trans (down b h1)
        have nl:∀(o:Obj) b,b≠D+1→(W2.putObj (D+1) o).heap[b]?=W2.heap[b]?:=fun o b hb=>World.putObj_heap_other hb
        refine zsE (D:=D) (b2:=b2) hMlt hbslt (fun b i o h1 h2 h3 h4=>?_) z3 (by show mkD D::a3.defers=_;rw[d3]) t2 hb2 (by omega) ((nl _ D (by omega)).trans ((h.keep D (by omega) (by omega) (by omega)).trans hDo)) (h.os.trans (stW1.1.trans gos)) (h.tape.trans (stW1.2.1.trans gtape)) (h.output.trans (stW1.2.2.trans gout)) (by rw[World.putObj_size];have:=h.size;omega) (fun b h1 h2=>?_) (zvu h.cb h.loop)
        · obtain⟨o',q1,q2⟩:=gobk b i o h1 h2 h3 h4
          exact⟨o',(nl _ b (by omega)).trans ((keepW b (by omega) (by omega)).trans q1),q2⟩
        · exact (nl _ b (by omega)).trans ((keepW b (by omega) (by omega)).trans (gkeep b h1 h2))
end Go.Eng.Ar
namespace Go.Eng.Ar
open Go.Eng Go.Proofs
set_option linter.all false
set_option maxRecDepth 100000
set_option maxHeartbeats 8000000
theorem zdR:∀(k f r:Nat) (c:List Int),c∈zcn k f r→c.length=k∧∀x∈c,(f:Int)≤x∧x<(f:Int)+r
  | 0,f,r,c,h=>by
    simp only[zcn,List.mem_singleton] at h
    subst h;exact⟨rfl,fun x hx=>by cases hx⟩
  | k+1,f,0,c,h=>by simp[zcn] at h
  | k + 1,f,r+1,c,h=>by
    simp only[zcn,List.mem_append,List.mem_map] at h
    rcases h with ⟨d,hd,rfl⟩|h
    · obtain⟨h1,h2⟩:=zdR k (f+1) r d hd
      refine⟨by simp[h1],fun x hx=>?_⟩
      rcases List.mem_cons.1 hx with rfl|hx
      · omega
      · have:=h2 x hx;omega
    · obtain⟨h1,h2⟩:=zdR (k+1) (f+1) r c h
      exact⟨h1,fun x hx=>by have:=h2 x hx;omega⟩
def okBd (N:Nat) (d:BndD):Prop:=d.1.length=N∧(∀x∈d.1,(-1000:Int)≤x∧x≤(1000:Int))∧(0:Int)≤d.2.1∧d.2.1≤(1000:Int)
theorem zgy {t:List (List Int)} {cap:Int} {k:Nat}:(zdW t cap k).length=t.length+t.length+ncol t+k:=by
  simp only[zdW,zdr,zdP,zmF,List.length_append,zam]
theorem zow {n:Nat} {k:Nat} {v x:Int} (h:x∈zbM (n:Int) (k:Int) v):x=v∨x=0:=by
  unfold zbM at h
  rcases List.mem_or_eq_of_mem_set h with h|h
  · rw[zfJ] at h
    exact .inr (List.eq_of_mem_replicate h)
  · exact .inl h
theorem okI {x:Int} (h : -1000≤x∧x≤1000):((-1000:Int)≤x∧x≤(1000:Int)):=h
theorem zlC {t:List (List Int)} {cap:Int} (h:goodT t cap):∀d∈zdW t cap (ncol t),okBd (ncol t+1) d:=by
  intro d hd
  have hr:∀i,i<t.length→∀x∈rowN t i,0≤x∧x≤100:=fun i hi x hx=>by
    obtain⟨j,hj,rfl⟩:=zmB hx
    exact h.vals i j hi (by rw[←h.rows i hi];exact hj)
  simp only[zdW,zdr,zdP,zmF,List.mem_append] at hd
  rcases hd with ((hd|hd)|hd)|hd
  · obtain ⟨i,hi,rfl⟩:=zco hd
    refine⟨by show (tab (fun j=>-vI (rowN t i) j) (rowN t i).length++[1]).length=_;rw[List.length_append,zam,h.rows i hi];rfl,fun x hx=>?_,Int.le_refl _,by show (0:Int)≤1000;decide⟩
    have hx:x∈tab (fun j=>-vI (rowN t i) j) (rowN t i).length++[1]:=hx
    rcases List.mem_append.1 hx with hx|hx
    · obtain⟨j,hj,rfl⟩:=zco hx
      exact okI (by have:=hr i hi _ (zhj hj);omega)
    · rw[List.mem_singleton.1 hx];exact⟨by decide,by decide⟩
  · obtain⟨i,hi,rfl⟩:=zco hd
    refine⟨by show (rowN t i++[0]).length=_;rw[List.length_append,h.rows i hi];rfl,fun x hx=>?_,h.cap0.1,h.cap0.2⟩
    have hx:x∈rowN t i++[0]:=hx
    rcases List.mem_append.1 hx with hx|hx
    · exact okI (by have:=hr i hi _ hx;omega)
    · rw[List.mem_singleton.1 hx];exact⟨by decide,by decide⟩
  · obtain⟨j,hj,rfl⟩:=zco hd
    refine⟨by show (zbM ((ncol t:Int)+1) (j:Int) 1).length=_;rw[zkD];omega,fun x hx=>?_,by show (0:Int)≤1;decide,by show (1:Int)≤1000;decide⟩
    rcases zow (n:=ncol t+1) (show x∈zbM ((ncol t+1:Nat):Int) (j:Int) 1 from hx) with rfl|rfl<;>decide
  · obtain⟨j,hj,rfl⟩:=zco hd
    refine⟨by show (zbM ((ncol t:Int)+1) (j:Int) (-1)).length=_;rw[zkD];omega,fun x hx=>?_,Int.le_refl _,by show (0:Int)≤1000;decide⟩
    rcases zow (n:=ncol t+1) (show x∈zbM ((ncol t+1:Nat):Int) (j:Int) (-1) from hx) with rfl|rfl<;>decide
theorem zpM {b:List BndD} {k:Nat} (h:k<b.length):bdN b k∈b:=by
  have:bdN b k=b[k]:=by simp[bdN,List.getD,List.getElem?_eq_getElem h]
  rw[this];exact List.getElem_mem h
theorem zgn {t:List (List Int)} {cap:Int} (h:goodT t cap):∀c∈zcn (ncol t+1) 0 (zdW t cap (ncol t)).length,goodA (zdW t cap (ncol t)) c:=by
  intro c hc
  obtain⟨h1,h2⟩:=zdR _ _ _ c hc
  have hl:=@zgy t cap (ncol t)
  have g1:=h.le
  have g2:=h.cle
  refine⟨by omega,by omega,by omega,fun i hi=>?_,fun k hk=>?_,fun k j hk hj=>?_,fun k hk=>?_⟩
  · have:=h2 _ (zhj hi);omega
  · rw[h1];exact (zlC h _ (zpM hk)).1
  · have hb:=zlC h _ (zpM hk)
    exact hb.2.1 _ (zhj (by rw[hb.1,←h1];exact hj))
  · exact (zlC h _ (zpM hk)).2.2
structure cornOK (n s:Nat) (x:zcQ):Prop where
  l1:List.length (α:=Int) x.1=n
  v1:∀i,i<n→(vI x.1 i).natAbs≤400000000000000
  d1:(0:Int)<x.2.1∧x.2.1≤(400000000000000:Int)
  l2:List.length (α:=Int) x.2.2.1=s
  v2:∀i,i<s→(vI x.2.2.1 i).natAbs≤400000000000000
  d2:(0:Int)<x.2.2.2.1∧x.2.2.2.1≤(400000000000000:Int)
theorem zxt {b:Nat} {l y:List Int} {m:Nat} (hy:∀i,i<m→(vI y i).natAbs≤400000000000000):∀k,k≤m→∀x∈wsP b l y k,x.natAbs≤400000000000000
  | 0,_,x,hx=>by
    simp only[wsP,zfJ] at hx
    rw[List.eq_of_mem_replicate hx];decide
  | k+1,hk,x,hx=>by
    simp only[wsP] at hx
    rcases List.mem_or_eq_of_mem_set hx with hx|rfl
    · exact zxt hy k (by omega) x hx
    · exact hy k (by omega)
theorem zuG {b:List BndD} {c:List Int} (hg:goodA b c) (h:(atR b c).2.1=true):cornOK c.length b.length (atR b c).1:=by
  have hx:(atX b c).2.2.1=true:=by
    cases e:(atX b c).2.2.1 with
    | true=>rfl
    | false=>rw[at_1 e] at h;cases h
  have ho:zeC b (atX b c).1 (atX b c).2.1 b.length=true:=by
    cases e:zeC b (atX b c).1 (atX b c).2.1 b.length with
    | true=>rfl
    | false=>rw[at_2 hx e] at h;cases h
  by_cases hm:mn (atY b c).1 (c.length - 1)<0
  · rw[at_3 hx ho hm] at h;cases h
  · rw [at_4 hx ho hm]
    have b1:=fun i hi=>zkH (pX hg) (znn hx) (i:=i) (by rw[zaS];exact hi)
    have b2:=fun i hi=>zkH (pY hg) (ztr hg hx) (i:=i) (by rw[zh5,zaS];exact hi)
    refine⟨zvD hx,fun i hi=>?_,zig (pX hg) (znn hx),zer _,fun i hi=>?_,zig (pY hg) (ztr hg hx)⟩
    · have:=b1 i hi
      show (vI (zaG (zaH b c c.length) (rhsP b c c.length)).1 i).natAbs≤_
      omega
    · refine zxt (m:=c.length) (fun i hi=>?_) c.length (Nat.le_refl _) _ (zhj (by rw[zer];exact hi))
      have:=b2 i hi
      show (vI (zaG (trM (zaH b c c.length)) (zbM (c.length:Int) ((c.length:Int) - 1) 1)).1 i).natAbs≤_
      omega
theorem zji {b:List BndD} {x:zcQ}:∀ {l:List (List Int)},zhJ b l=some x→∃c∈l,(atR b c).2.1=true∧(atR b c).1=x
  | [],h=>by cases h
  | c :: r,h=>by
    simp only[zhJ] at h
    split at h
    · exact⟨c,List.mem_cons_self,by assumption,Option.some.inj h⟩
    · obtain⟨d,h1,h2⟩:=zji h
      exact⟨d,List.mem_cons_of_mem _ h1,h2⟩
def zhI (t:List (List Int)) (cap:Int):Option zcQ:=zng (zdW t cap (ncol t)) (ncol t)
theorem zw9 {t:List (List Int)} {cap:Int} {x:zcQ} (h:goodT t cap) (hx:zhI t cap=some x):cornOK (ncol t+1) (t.length+t.length+ncol t+ncol t) x:=by
  obtain⟨c,hc,h1,rfl⟩:=zji hx
  have hg:=zgn h c hc
  have:=zuG hg h1
  rw[(zdR _ _ _ c hc).1,zgy] at this
  exact this
abbrev zuI:Type:=zhN.Den
abbrev WgtD:Type:=zc2.Den
def bO (x:zcQ) (n:Nat):zuI:=((redL (List.take n x.1) x.2.1).2,(redL (List.take n x.1) x.2.1).1,())
def bWl (x:zcQ) (s n:Nat):List Int:=(redL (List.take (2*s+n) x.2.2.1) x.2.2.2.1).1
def bW (x:zcQ) (s n:Nat):WgtD:=((redL (List.take (2*s+n) x.2.2.1) x.2.2.2.1).2,(bWl x s n).take s,((bWl x s n).take (2*s)).drop s,(bWl x s n).drop (2*s),())
def bV (x:zcQ) (n:Nat):zaD.Den:=(Int.tdiv (vI x.1 n) (gcd2 (vI x.1 n) x.2.1),Int.tdiv x.2.1 (gcd2 (vI x.1 n) x.2.1),())
def pBO (t:List (List Int)) (cap:Int):Prop:=goodT t cap∧(zhI t cap).isSome=true
abbrev bX (t:List (List Int)) (cap:Int):zcQ:=(zhI t cap).getD zhG
@[reducible] def zxO:Spec:={sRed with res:=[{t:=.sl I64},{t:=I64}]}
theorem zAx:Ok 144 zxO:=by
  refine mk (ctr:=[(145,zho),(148,sDiv)]) ⟨h145,h148,trivial⟩ (nt:=33) Tryz.func144 rfl rfl rfl rfl (by kernel_rfl) (by kernel_rfl) (fun x=>[fun _=>zyt x.1 x.2.1]) ?_
  rintro⟨(l:List Int),(d:Int),_⟩ ⟨(h1:l.length≤1000),(h2:∀i,i<l.length→(vI l i).natAbs≤9000000000000000000),(h3:d.natAbs≤9000000000000000000),(h4:d≠0)⟩
  have e:(gf (l++[d]) (l++[d]).length:Int)=redG l d:=rfl
  have g1:vI (l++[d]) l.length=d:=by simp[vI]
  have g2:(l++[d]).length=l.length+1:=by simp
  have e2:redG l d≠0:=by
    have:=zsv (xs:=l++[d]) (k:=l.length) (by rw[g1];exact h4)
    rw[←e,g2];exact this
  have hd:pDiv (l++[d]):=⟨by show ((l++[d]).length:Int)≤4611686018427387904;rw[g2];omega,fun i hi=>by
    by_cases hl:i<l.length
    · have:vI (l++[d]) i=vI l i:=by simp[vI,List.getElem?_append_left hl]
      rw[this];exact h2 i hl
    · have:i=l.length:=by omega
      subst this
      rw[g1];exact h3⟩
  repeat' (intro hzz;(try (rename Two=>hq;cases hq));(try dsimp only at hzz);(try simp only[zad,zac,eqD,inR,big,zab,zB] at hzz);(try simp only[zad,zac,eqD,inR,big,zab,zB,zaz,zam,e] at hzz);(try (revert hzz;intro _)))
  all_goals try (rename Unit=>hq;clear hq)
  all_goals try ((with_reducible refine Held.mk ?_);(with_reducible (first|refine Frz.mk ?_|refine And.intro (Frz.mk ?_) ?_|refine And.intro ?_ (Frz.mk ?_)));repeat' first|exact True.intro|(change _=_;with_reducible rfl)|refine And.intro ?_ ?_|(with_reducible refine Frz.mk ?_))
  all_goals try (refine Held.mk ?_;(try dsimp only at *);(try simp only[zad,zac,eqD,inR,big,zab,zB] at *);(try simp only[zad,zac,eqD,inR,big,zab,zB,zaz,zam,e] at *))
  · show l.length≤2000000000;omega
  · show l.length+1≤2147483648;omega
  · exact hd
  ·
    refine zai.mk ?_
    refine Exists.intro 0 ?_
    refine And.intro (Leaf.mk ?_) ?_
    · repeat' first|exact True.intro|refine And.intro ?_ ?_
      all_goals try ((change _=_<;>try dsimp only)<;>try with_reducible rfl)
      all_goals try omega
      all_goals (rfl)
    exact Nat.zero_le _
  · omega
  · rename_i k hk hg
    exact⟨e2,zlS (h2 k (by omega))⟩
  · rename_i k hk hg
    show k+1≤2147483648;omega
  · omega
  · rename_i k hk hg
    refine zai.mk ?_
    refine Exists.intro (k+1) ?_
    refine And.intro (Leaf.mk ?_) ?_
    · repeat' first|exact True.intro|refine And.intro ?_ ?_
      all_goals try ((change _=_<;>try dsimp only)<;>try with_reducible rfl)
      all_goals try omega
      all_goals (rfl)
    exact⟨by show k+1≤l.length;omega,by show l.length - (k+1)<l.length - k;omega⟩
  · exact⟨e2,zlS h3⟩
  · rename_i k hk hg
    rw[show k=l.length by omega];exact⟨rfl,rfl⟩
theorem natA {n:Int} (h1:0<n) (h2:n≤400000000000000):n.natAbs≤9000000000000000000∧n≠0:=by omega
@[reducible] def zrf:Spec:={pats:=[.dat zeq],res:=[{t:=zhN},{t:=zc2},{t:=zaD}],pre:=fun x=>pBO x.1.1 x.1.2.1,f:=fun x=>(bO (bX x.1.1 x.1.2.1) (ncol x.1.1),bW (bX x.1.1 x.1.2.1) (List.length (α:=List Int) x.1.1) (ncol x.1.1),bV (bX x.1.1 x.1.2.1) (ncol x.1.1),())}
theorem h102:Ok 102 zrf:=by
  refine mk (ctr:=[(107,sLow),(142,zxP),(143,znD),(144,zxO),(145,zho)]) ⟨h107,h142,zAu,zAx,h145,trivial⟩ (nt:=76) Tryz.func102 rfl rfl rfl rfl (by kernel_rfl) (by kernel_rfl) (fun _=>[]) ?_
  rintro⟨⟨(t:List (List Int)),(cap:Int),_⟩,_⟩ h
  have h':goodT t cap∧(zhI t cap).isSome=true:=h
  obtain⟨hg,hs⟩:=h'
  obtain⟨x,hx⟩:=Option.isSome_iff_exists.1 hs
  have eX:(zng (zdW t cap (ncol t)) (ncol t)).getD zhG=x:=by
    rw[show zng (zdW t cap (ncol t)) (ncol t)=some x from hx];rfl
  have hc:=zw9 hg hx
  obtain⟨l1,v1,d1,l2,v2,d2⟩:=hc
  have g1:=hg.le
  have g2:=hg.cle
  have e2:(2*(t.length:Int)).toNat=2*t.length:=by omega
  have e3:(2*(t.length:Int)+(ncol t:Int)).toNat=2*t.length+ncol t:=by omega
  have r1:(redL (List.take (ncol t) x.1) x.2.1).1.length=ncol t:=by
    show (tab _ (List.take (ncol t) x.1).length).length=_
    rw[zam,List.length_take,l1];exact Nat.min_eq_left (Nat.le_succ _)
  have r2:(redL (List.take (2*t.length+ncol t) x.2.2.1) x.2.2.2.1).1.length=2*t.length+ncol t:=by
    show (tab _ (List.take (2*t.length+ncol t) x.2.2.1).length).length=_
    rw[zam,List.length_take,l2];exact Nat.min_eq_left (by omega)
  have w1:∀i,i<ncol t→vI (List.take (ncol t) x.1) i=vI x.1 i:=fun i hi=>by simp[vI,List.getD,List.getElem?_take,hi]
  have w2:∀i,i<2*t.length+ncol t→vI (List.take (2*t.length+ncol t) x.2.2.1) i=vI x.2.2.1 i:=fun i hi=>by simp[vI,List.getD,List.getElem?_take,hi]
  have p1:pRed (List.take (ncol t) x.1) x.2.1:=by
    refine⟨by rw[List.length_take];omega,fun i hi=>?_,(natA d1.1 d1.2).1,(natA d1.1 d1.2).2⟩
    have hi':i<ncol t:=by rw[List.length_take] at hi;omega
    rw[w1 i hi'];have:=v1 i (by omega);omega
  have p2:pRed (List.take (2*t.length+ncol t) x.2.2.1) x.2.2.2.1:=by
    refine⟨by rw[List.length_take];omega,fun i hi=>?_,(natA d2.1 d2.2).1,(natA d2.1 d2.2).2⟩
    have hi':i<2*t.length+ncol t:=by rw[List.length_take] at hi;omega
    rw[w2 i hi'];have:=v2 i (by omega);omega
  have p3:pLow (vI x.1 (ncol t)) x.2.1:=⟨by have:=v1 (ncol t) (by omega);omega,(natA d1.1 d1.2).1,(natA d1.1 d1.2).2⟩
  have eb:bX t cap=x:=by show (zhI t cap).getD zhG=x;rw[hx];rfl
  repeat' (intro hzz;(try (rename Two=>hq;cases hq));(try dsimp only at hzz);(try simp only[zad,zac,eqD,inR,big,zab,zB] at hzz);(try simp only[zad,zac,eqD,inR,big,zab,zB,za7,zaz,zbB,zeT,zeU,Int.toNat_natCast,eX,e2,e3] at hzz);(try (revert hzz;intro _)))
  all_goals try (rename Unit=>hq;clear hq)
  all_goals try ((with_reducible refine Held.mk ?_);(with_reducible (first|refine Frz.mk ?_|refine And.intro (Frz.mk ?_) ?_|refine And.intro ?_ (Frz.mk ?_)));repeat' first|exact True.intro|(change _=_;with_reducible rfl)|refine And.intro ?_ ?_|(with_reducible refine Frz.mk ?_))
  all_goals try (refine Held.mk ?_;(try dsimp only at *);(try simp only[zad,zac,eqD,inR,big,zab,zB] at *);(try simp only[zad,zac,eqD,inR,big,zab,zB,za7,zaz,zbB,zeT,zeU,Int.toNat_natCast,eX,e2,e3] at *))
  · exact hg
  · exact⟨ncol t,rfl,g2,hs,by rw[zgy];omega,zgn hg⟩
  all_goals try (first|exact p1|exact p2|exact p3)
  · rw[l1];omega
  · omega
  · omega
  · rw[l2];omega
  · rw[r2];omega
  · rw[List.length_take];omega
  · omega
  · rw[r2];omega
  · rw[List.length_drop,List.length_take];omega
  · omega
  · rw[r2];omega
  · rw[List.length_drop];omega
  · rw[l1];omega
  · rw[eb];exact⟨⟨rfl,rfl⟩,⟨rfl,rfl,rfl,rfl⟩,rfl,rfl⟩
abbrev zrE (t:List (List Int)) (cap:Int):Prop:=chkT t cap=0→(zhI t cap).isSome=true
def zjj (t:List (List Int)) (cap:Int):zuI×WgtD×zaD.Den×Int×Unit:=
  if chkT t cap=0 then (bO (bX t cap) (ncol t),bW (bX t cap) t.length (ncol t),bV (bX t cap) (ncol t),0,()) else ((0,[],()),(0,[],[],[],()),(0,0,()),chkT t cap,())
@[reducible] def zio:Spec:={pats:=[.dat zeq],res:=[{t:=zhN},{t:=zc2},{t:=zaD},{t:=I64}],pre:=fun x=>zrE x.1.1 x.1.2.1,f:=fun x=>zjj x.1.1 x.1.2.1}
theorem h41:Ok 41 zio:=by
  refine mk (ctr:=[(65,zkO),(102,zrf)]) ⟨h65,h102,trivial⟩ (nt:=27) Tryz.func41 rfl rfl rfl rfl (by kernel_rfl) (by kernel_rfl) (fun _=>[]) ?_
  rintro⟨⟨(t:List (List Int)),(cap:Int),_⟩,_⟩ h
  have h':chkT t cap=0→(zhI t cap).isSome=true:=h
  repeat' (intro hzz;(try (rename Two=>hq;cases hq));(try dsimp only at hzz);(try simp only[zad,zac,eqD,inR,big,zab,zB] at hzz);(try (revert hzz;intro _)))
  all_goals try (rename Unit=>hq;clear hq)
  all_goals try ((with_reducible refine Held.mk ?_);(with_reducible (first|refine Frz.mk ?_|refine And.intro (Frz.mk ?_) ?_|refine And.intro ?_ (Frz.mk ?_)));repeat' first|exact True.intro|(change _=_;with_reducible rfl)|refine And.intro ?_ ?_|(with_reducible refine Frz.mk ?_))
  all_goals try (refine Held.mk ?_;(try dsimp only at *);(try simp only[zad,zac,eqD,inR,big,zab,zB] at *))
  · rename_i hc
    have e:zjj t cap=((0,[],()),(0,[],[],[],()),(0,0,()),chkT t cap,()):=if_neg hc
    rw[e];exact⟨⟨rfl,rfl⟩,⟨rfl,rfl,rfl,rfl⟩,⟨rfl,rfl⟩,rfl⟩
  · rename_i hc
    exact⟨zcC hc,h' hc⟩
  · rename_i hc
    have e:zjj t cap=(bO (bX t cap) (ncol t),bW (bX t cap) t.length (ncol t),bV (bX t cap) (ncol t),0,()):=if_pos hc
    rw[e];exact⟨⟨rfl,rfl⟩,⟨rfl,rfl,rfl,rfl⟩,⟨rfl,rfl⟩,rfl⟩
theorem zwP:chkT [[2,0],[0,4]] 3=0∧(zhI [[2,0],[0,4]] 3).isSome=true∧bV (bX [[2,0],[0,4]] 3) 2=(2,1,()):=by
  refine⟨by decide +kernel,by decide +kernel,by decide +kernel⟩
end Go.Eng.Ar
namespace Go.Eng.Ar
open Go.Eng Go.Proofs Go.Lib
set_option linter.all false
set_option maxRecDepth 100000
set_option maxHeartbeats 8000000
theorem zcU {l:List UInt8} {k:Nat} (hk:k≤18) (h:zba l k=true):zeF l=(numV l,false,())∧itoa (numV l)=l∧(trimPrefix l [45]).length≤k∧(-9223372036854775808≤numV l∧numV l≤9223372036854775807):=by
  obtain⟨h1,h2⟩:=zn3 h
  have hb:=zwl h
  have hp:10 ^ k≤10 ^ 18:=Nat.pow_le_pow_right (by decide) hk
  have hr : -9223372036854775808≤numV l∧numV l≤9223372036854775807:=by omega
  have ha:=ztf hr.1 hr.2
  rw[h1] at ha
  exact⟨by simp only[zeF,ha],h1,h2,hr⟩
theorem zqy {l:List UInt8} (h:(zeF l).2.1=false) : -9223372036854775808≤(zeF l).1∧(zeF l).1≤9223372036854775807:=by
  simp only[zeF] at h ⊢
  cases ha:atoiAll l with
  | ok v=>have:=atoiAll_bounds ha;simp only;omega
  | _=>rw[ha] at h;cases h
theorem ztS {p:ByteArray} {n:Int} (h:(itoa n == p.data.toList)=true):decide (((bA (trimPrefix (bL p) (bL ⟨#[45]⟩))).size:Int)≤5)=zba (bL p) 5:=by
  have h:itoa n=bL p:=beq_iff_eq.1 h
  rw[zca]
  have e:trimPrefix (bL p) (bL ⟨#[45]⟩)=trimPrefix (bL p) [45]:=rfl
  rw[e]
  cases hn:zba (bL p) 5 with
  | true=>have ht:=(zcU (by decide) hn).2.2.1;exact decide_eq_true (by omega)
  | false=>
    refine decide_eq_false fun ht=>?_
    have ht:(trimPrefix (bL p) [45]).length≤5:=by omega
    rw[←h] at ht
    have:=(znQ ht).1
    rw[h,hn] at this
    cases this
theorem ztT {p:ByteArray} (h:(itoa (zeF (bL p)).1 == p.data.toList)=false):zba (bL p) 5=false:=by
  cases hn:zba (bL p) 5 with
  | false=>rfl
  | true=>
    obtain⟨h1,h2,_⟩:=zcU (by decide) hn
    rw[h1] at h
    exact absurd h2 (beq_eq_false_iff_ne.1 h)
theorem ztU {p:ByteArray} (h:(zeF (bL p)).2.1=true):zba (bL p) 5=false:=by
  cases hn:zba (bL p) 5 with
  | false=>rfl
  | true=>
    obtain⟨h1,_⟩:=zcU (by decide) hn
    rw[h1] at h;cases h
@[reducible] def zxS:Spec:={pats:=[.dat .str,.gw 3 .err,.gw 4 .err,.gw 2 PowT],res:=[{t:=I64},{t:=.bool}],pre:=fun x=>x.1.size≤1000000∧x.2.2.2.1=powD,f:=fun x=>((zeF (bL x.1)).1,zba (bL x.1) 5,())}
theorem h129:Ok 129 zxS:=by
  refine mk (ctr:=[(125,zvV),(159,zrg),(160,zxN)]) ⟨zy8,zAv,zAq,trivial⟩ (nt:=26) Tryz.func129 rfl rfl rfl rfl (by kernel_rfl) (by kernel_rfl) (fun _=>[]) ?_
  rintro⟨(s:ByteArray),(b0:Bool),(b1:Bool),(pw:PowT.Den),_⟩ ⟨(hs:s.size≤1000000),(hpw:pw=powD)⟩
  repeat' (intro hzz;(try (rename Two=>hq;cases hq));(try dsimp only at hzz);(try simp only[zad,zac,eqD,inR,big,zab,zB] at hzz);(try simp only[zad,zac,eqD,inR,big,zab,zB,zbZ] at hzz);(try (revert hzz;intro _)))
  all_goals try (rename Unit=>hq;clear hq)
  all_goals try ((with_reducible refine Held.mk ?_);(with_reducible (first|refine Frz.mk ?_|refine And.intro (Frz.mk ?_) ?_|refine And.intro ?_ (Frz.mk ?_)));repeat' first|exact True.intro|(change _=_;with_reducible rfl)|refine And.intro ?_ ?_|(with_reducible refine Frz.mk ?_))
  all_goals try (refine Held.mk ?_;(try dsimp only at *);(try simp only[zad,zac,eqD,inR,big,zab,zB] at *);(try simp only[zad,zac,eqD,inR,big,zab,zB,zbZ] at *))
  · exact hs
  · rename_i h;exact⟨zqy h,hpw⟩
  · rename_i h1 h2;exact ztS h2
  · rename_i h1 h2;exact (ztT h2).symm
  · rename_i h1;exact (ztU h1).symm
theorem zm8 (s:ByteArray):(cutP s).1.size≤s.size∧(cutP s).2.1.size≤s.size:=by
  unfold cutP Lib.cut
  rw[zca,zca]
  split
  · simp only[List.length_take,List.length_drop,zfD];omega
  · simp only[List.length_nil,zfD];omega
abbrev zhM:Type:=zaD.Den
def gdP (p:ByteArray):zhM:=((zeF (bL (cutP p).1)).1,(zeF (bL (cutP p).2.1)).1,())
def okP (p:ByteArray):Bool:=zba (bL (cutP p).1) 5&&zba (bL (cutP p).2.1) 5
abbrev strN (L:List ByteArray) (i:Nat):ByteArray:=L.getD i ByteArray.empty
def gdL (L:List ByteArray) (k:Nat):List zhM:=tab (fun i=>gdP (strN L i)) k
def pgL (L:List ByteArray):List zhM×Int×Unit:=if L.all okP=true then (if L.length≤8 then (if L.all (fun p=>decide (zcO (gdP p).1 (gdP p).2.1=0))=true then (gdL L L.length,0,()) else ([],2,())) else ([],8,())) else ([],7,())
def pgR (s:ByteArray):List zhM×Int×Unit:=pgL (cutB 59 s)
theorem zvy {L:List ByteArray} {p:ByteArray→Bool} {k:Nat} (hk:k<L.length) (h:p (strN L k)=false):L.all p=false:=by
  rw[List.all_eq_false]
  refine⟨L[k],List.getElem_mem hk,?_⟩
  have:strN L k=L[k]:=by simp[strN,List.getD,List.getElem?_eq_getElem hk]
  rw[this] at h;simp[h]
theorem zlI {L:List ByteArray} {p:ByteArray→Bool} (h:∀i,i<L.length→p (strN L i)=true):L.all p=true:=by
  rw[List.all_eq_true]
  intro x hx
  obtain⟨i,hi,rfl⟩:=List.mem_iff_getElem.1 hx
  have:=h i hi
  have e:strN L i=L[i]:=by simp[strN,List.getD,List.getElem?_eq_getElem hi]
  rwa [e] at this
theorem pg7 {L:List ByteArray} {k:Nat} (hk:k<L.length) (h:okP (strN L k)=false):pgL L=([],7,()):=by
  unfold pgL;rw[zvy hk h];rfl
theorem pg8 {L:List ByteArray} (h:∀i,i<L.length→okP (strN L i)=true) (hl:8<L.length):pgL L=([],8,()):=by
  unfold pgL;rw[zlI h,if_pos rfl,if_neg (by omega)]
theorem pg2 {L:List ByteArray} {k:Nat} (h:∀i,i<L.length→okP (strN L i)=true) (hl:L.length≤8) (hk:k<L.length) (hg:¬zcO (gdP (strN L k)).1 (gdP (strN L k)).2.1=0):pgL L=([],2,()):=by
  unfold pgL;rw[zlI h,if_pos rfl,if_pos hl,zvy hk (decide_eq_false hg)];rfl
theorem pg0 {L:List ByteArray} (h:∀i,i<L.length→okP (strN L i)=true) (hl:L.length≤8) (hg:∀i,i<L.length→zcO (gdP (strN L i)).1 (gdP (strN L i)).2.1=0):pgL L=(gdL L L.length,0,()):=by
  unfold pgL;rw[zlI h,if_pos rfl,if_pos hl,zlI (fun i hi=>decide_eq_true (hg i hi)),if_pos rfl]
theorem zst {g d:Int} (h:¬zcO g d=0):zcO g d=2:=by
  unfold zcO at *;split at h
  · exact absurd rfl h
  · rename_i h1;rw[if_neg h1]
theorem zjY (c:UInt8):∀(l:List UInt8),∀p∈zat c l,p.length≤l.length
  | [],p,hp=>by
    simp only[zat,List.mem_singleton] at hp
    subst hp;exact Nat.le_refl _
  | b :: l,p,hp=>by
    have ih:=zjY c l
    simp only[zat] at hp
    split at hp
    · rcases List.mem_cons.1 hp with rfl|h
      · simp
      · have:=ih p h;simp only[List.length_cons];omega
    · split at hp
      · rename_i q r hq
        rcases List.mem_cons.1 hp with rfl|h
        · have:=ih q (by rw[hq];simp);simp only[List.length_cons];omega
        · have:=ih p (by rw[hq];simp[h]);simp only[List.length_cons];omega
      · rw[List.mem_singleton] at hp;subst hp;simp
theorem zja (c:UInt8) (s:ByteArray) (i:Nat):((cutB c s).getD i ByteArray.empty).size≤s.size:=by
  rw[List.getD_eq_getElem?_getD]
  cases h:(cutB c s)[i]? with
  | none=>exact Nat.zero_le _
  | some p=>
    have hm:=List.mem_of_getElem? h
    simp only[cutB,List.mem_map] at hm
    obtain⟨q,hq,rfl⟩:=hm
    have:=zjY c (bL s) q hq
    rw[zfD] at this
    show (bA q).size≤_
    rw[zca];exact this
@[reducible] def znB:Spec:={pats:=[.dat .str,.gw 3 .err,.gw 4 .err,.gw 2 PowT,.gw 1 I64],res:=[{t:=.sl zaD},{t:=I64}],pre:=fun x=>x.1.size≤1000000∧x.2.2.2.1=powD,f:=fun x=>pgR x.1}
def zAg (L:List ByteArray):LoopAnn:={σ:=Nat,pat:=fun k=>[sI 20 k,.slot 4 (.one (.o 60004 k)),.row 60004 82 zaD (gdL L k)],inv:=fun k=>k≤L.length∧∀i,i<k→okP (strN L i)=true,meas:=fun k=>L.length - k}
def zyF (L:List ByteArray):LoopAnn:={σ:=Nat,pat:=fun k=>[sI 58 k],inv:=fun k=>k≤L.length∧∀i,i<k→zcO (gdP (strN L i)).1 (gdP (strN L i)).2.1=0,meas:=fun k=>L.length - k}
theorem h67:Ok 67 znB:=by
  refine mk (ctr:=[(86,zfr),(127,zuY),(128,sCut),(129,zxS)]) ⟨h86,zy4,hCut,h129,trivial⟩ (nt:=72) Tryz.func67 rfl rfl rfl rfl (by kernel_rfl) (by kernel_rfl) (fun x=>[fun _=>zAg (cutB 59 x.1),fun _=>zyF (cutB 59 x.1)]) ?_
  rintro⟨(s:ByteArray),(b0:Bool),(b1:Bool),(pw:PowT.Den),(m:Int),_⟩ ⟨(hs:s.size≤1000000),(hpw:pw=powD)⟩
  have hc:=zja 59 s
  have hcl:=zlx 59 s
  have hN:∀k,k<(cutB 59 s).length→(gdL (cutB 59 s) (cutB 59 s).length).getD k zaD.dflt=gdP (strN (cutB 59 s) k):=fun k hk=>zaE _ _ _ _ hk
  have hG:∀k,(gdL (cutB 59 s) k).length=k:=fun k=>zam _ _
  repeat' (intro hzz;(try (rename Two=>hq;cases hq));(try dsimp only at hzz);(try simp only[zad,zac,eqD,inR,big,zab,zB] at hzz);(try simp only[zad,zac,eqD,inR,big,zab,zB,zbZ,Int.toNat_natCast] at hzz);(try (revert hzz;intro _)))
  all_goals try (rename Unit=>hq;clear hq)
  all_goals try ((with_reducible refine Held.mk ?_);(with_reducible (first|refine Frz.mk ?_|refine And.intro (Frz.mk ?_) ?_|refine And.intro ?_ (Frz.mk ?_)));repeat' first|exact True.intro|(change _=_;with_reducible rfl)|refine And.intro ?_ ?_|(with_reducible refine Frz.mk ?_))
  all_goals try (refine Held.mk ?_;(try dsimp only at *);(try simp only[zad,zac,eqD,inR,big,zab,zB] at *);(try simp only[zad,zac,eqD,inR,big,zab,zB,zbZ,Int.toNat_natCast] at *))
  all_goals try omega
  · exact⟨hs,rfl⟩
  ·
    refine zai.mk ?_
    refine Exists.intro (0:Nat) ?_
    refine And.intro (Leaf.mk ?_) ?_
    · repeat' first|exact True.intro|refine And.intro ?_ ?_
      all_goals try ((change _=_<;>try dsimp only)<;>try with_reducible rfl)
      all_goals try omega
      all_goals (rfl)
    exact⟨Nat.zero_le _,fun i hi=>absurd hi (Nat.not_lt_zero _)⟩
  · exact⟨Nat.le_trans (hc _) hs,rfl⟩
  · exact⟨Nat.le_trans (zm8 _).1 (Nat.le_trans (hc _) hs),hpw⟩
  · exact⟨Nat.le_trans (zm8 _).2 (Nat.le_trans (hc _) hs),hpw⟩
  · rename_i k hk hlt h1 h2
    have e:pgR s=([],7,()):=pg7 (k:=k) (by omega) (by show (_&&_)=false;rw[Bool.and_eq_false_iff];exact .inr h2)
    rw[e];exact⟨rfl,rfl⟩
  · rename_i k hk hlt h1 h2
    rw[hG]
    refine⟨rfl,?_⟩
    show k+1≤2147483648;omega
  · rename_i k hk hlt h1 h2
    refine zai.mk ?_
    refine Exists.intro (k+1) ?_
    refine And.intro (Leaf.mk ?_) ?_
    · repeat' first|exact True.intro|refine And.intro ?_ ?_
      all_goals try ((change _=_<;>try dsimp only)<;>try with_reducible rfl)
      all_goals try omega
      all_goals (first|rfl|exact (hG (k+1)).symm|exact hG (k+1))
    refine⟨⟨by show k+1≤(cutB 59 s).length;omega,fun i hi=>?_⟩,by show (cutB 59 s).length - (k+1)<(cutB 59 s).length - k;omega⟩
    by_cases e:i=k
    · subst e;show (_&&_)=true;rw[Bool.and_eq_true];exact⟨h1,h2⟩
    · exact hk.2 i (by omega)
  · rename_i k hk hlt h1
    have e:pgR s=([],7,()):=pg7 (k:=k) (by omega) (by show (_&&_)=false;rw[Bool.and_eq_false_iff];exact .inl h1)
    rw[e];exact⟨rfl,rfl⟩
  · rename_i k hk hlt h1
    have e:pgR s=([],8,()):=pg8 (fun i hi=>hk.2 i (by omega)) (by omega)
    rw[e];exact⟨rfl,rfl⟩
  ·
    refine zai.mk ?_
    refine Exists.intro (0:Nat) ?_
    refine And.intro (Leaf.mk ?_) ?_
    · repeat' first|exact True.intro|refine And.intro ?_ ?_
      all_goals try ((change _=_<;>try dsimp only)<;>try with_reducible rfl)
      all_goals try omega
      all_goals (rfl)
    exact⟨Nat.zero_le _,fun i hi=>absurd hi (Nat.not_lt_zero _)⟩
  · rename_i n hn hle h8 k hk hlt
    rw[hG];omega
  · rename_i n hn hle h8 k hk hlt h
    have hn1:=hn.1
    obtain rfl:n=(cutB 59 s).length:=by omega
    rw[hN k (by omega)] at h
    rw[hN k (by omega)]
    have e:pgR s=([],2,()):=pg2 (fun i hi=>hn.2 i (by omega)) (by omega) (by omega) h
    rw[e];exact⟨rfl,zst h⟩
  · rename_i n hn hle h8 k hk hlt h
    have hn1:=hn.1
    obtain rfl:n=(cutB 59 s).length:=by omega
    rw[hN k (by omega)] at h
    refine zai.mk ?_
    refine Exists.intro (k+1) ?_
    refine And.intro (Leaf.mk ?_) ?_
    · repeat' first|exact True.intro|refine And.intro ?_ ?_
      all_goals try ((change _=_<;>try dsimp only)<;>try with_reducible rfl)
      all_goals try omega
      all_goals (rfl)
    refine⟨⟨by show k+1≤(cutB 59 s).length;omega,fun i hi=>?_⟩,by show (cutB 59 s).length - (k+1)<(cutB 59 s).length - k;omega⟩
    by_cases e:i=k
    · subst e;exact h
    · exact hk.2 i (by omega)
  all_goals try exact (hG _).symm
  · rename_i n hn hle h8 k hk hlt
    have hn1:=hn.1
    obtain rfl:n=(cutB 59 s).length:=by omega
    have e:pgR s=(gdL (cutB 59 s) (cutB 59 s).length,0,()):=pg0 (fun i hi=>hn.2 i (by omega)) (by omega) (fun i hi=>hk.2 i (by omega))
    rw[e];exact⟨rfl,rfl⟩
end Go.Eng.Ar
namespace Go.Eng
open Ieee
set_option linter.all false
theorem zoW {r R:Nat} (h1:2≤R) (hR:R≤2000) (h:r≤R*2 ^ 52):∃m p,double.read r=.number false m p∧((m<2 ^ 53∧p≤(R:Int) - 1076)∨(m=2 ^ 52∧p=(R:Int) - 1075)):=by
  have hs:double.signWeight=2 ^ 63:=by decide
  have hb:double.binade=2 ^ 52:=rfl
  have hi:double.infRung=2047*2 ^ 52:=by decide
  have hl:double.leastPlace = -1074:=by decide
  unfold Format.read
  rw[hs,hb,hi,hl]
  have hr:r<2 ^ 63:=by omega
  have e1:r / 2 ^ 63=0:=Nat.div_eq_of_lt hr
  have e2:r % 2 ^ 63=r:=Nat.mod_eq_of_lt hr
  rw[e1,e2]
  dsimp only
  have hn:(0 % 2 == 1)=false:=rfl
  rw[hn]
  split
  · rename_i h2
    exact⟨r,-1074,rfl,.inl ⟨by omega,by omega⟩⟩
  · rw[if_pos (by omega)]
    refine⟨_,_,rfl,?_⟩
    omega
theorem ztK {m : Nat} {i : Int} (hmi:(m<2 ^ 53∧i≤8)∨(m=2 ^ 52∧i=9)):∃m' p',(Datum.number false m i).root 54=some (.number false m' p')∧(m'=0∨p'+m'.log2+1022<1053):=by
  simp only[Datum.root,Bool.false_eq_true,if_false]
  split
  · rename_i h;exact⟨m,i,rfl,.inl h⟩
  · rename_i hne
    have hm : m < 2 ^ 53 := by rcases hmi with h|h
                               · exact h.1
                               · rw[h.1];decide
    have hl:m.log2≤52:=log2_lt hm (by decide)
    have h52:m=2 ^ 52→m.log2=52:=fun h=>by rw[h];exact Nat.log2_two_pow
    obtain⟨more,hmore⟩:∃more,2*54 - m.log2+((i - ((2*54 - m.log2:Nat):Int)) % 2).toNat=more:=⟨_,rfl⟩
    rw[hmore]
    have h1:56≤more:=by omega
    have h2:m.log2+more≤109:=by omega
    obtain⟨n,hn⟩:∃n,m <<< more=n:=⟨_,rfl⟩
    rw[hn]
    have hnl:n.log2≤109:=by
      have : n<2 ^ 110:=by
        rw[←hn,Nat.shiftLeft_eq]
        have hm':=Nat.lt_log2_self (n:=m)
        calc m*2 ^ more<2 ^ (m.log2+1)*2 ^ more:=Nat.mul_lt_mul_of_pos_right hm' (Nat.two_pow_pos _)
          _=2 ^ (m.log2+1+more):=(Nat.pow_add ..).symm
          _≤2 ^ 110:=Nat.pow_le_pow_right (by decide) (by omega)
      exact log2_lt this (by decide)
    refine⟨_,_,rfl,.inr ?_⟩
    have hw:=zd2 n (n.log2 / 2+1) 0
    have hw2:Datum.rootFrom n (n.log2 / 2+1) 0<2 ^ 55:=by
      refine Nat.lt_of_lt_of_le (by simpa using hw) (Nat.pow_le_pow_right (by decide) (by omega))
    have hb:∀b:Bool,b.toNat≤1:=fun b=>by cases b<;>decide
    have hmag:2*Datum.rootFrom n (n.log2 / 2+1) 0+(Datum.rootFrom n (n.log2 / 2+1) 0*Datum.rootFrom n (n.log2 / 2+1) 0 != n).toNat<2 ^ 56:=by
      have:=hb (Datum.rootFrom n (n.log2 / 2+1) 0*Datum.rootFrom n (n.log2 / 2+1) 0 != n)
      omega
    have hlm:=log2_lt hmag (by decide)
    omega
theorem zuy {m drop:Nat} (hm:(m<2 ^ 53∧22≤drop)∨(m=2 ^ 52∧drop=21)):Toward.zero.cut false m drop≤2147483648:=by
  unfold Toward.cut
  dsimp only
  rw[Nat.one_shiftLeft]
  show m / 2 ^ min drop (m.log2+2)+0≤_
  rcases Nat.le_total drop (m.log2+2) with h|h
  · rw [Nat.min_eq_left h]
    rcases hm with ⟨hm,hd⟩|⟨hm,hd⟩
    · have h1:m / 2 ^ drop≤m / 2 ^ 22:=Nat.div_le_div_left (Nat.pow_le_pow_right (by decide) hd) (Nat.two_pow_pos _)
      have h2:m / 2 ^ 22<2 ^ 31:=by omega
      omega
    · rw[hd,hm];decide
  · rw [Nat.min_eq_right h]
    have : m / 2 ^ (m.log2+2)=0:=by
      refine Nat.div_eq_of_lt ?_
      have:=Nat.lt_log2_self (n:=m)
      calc m<2 ^ (m.log2+1):=this
        _≤2 ^ (m.log2+2):=Nat.pow_le_pow_right (by decide) (by omega)
    omega
theorem zvI {n:Int} (h0:0≤n) (h1:n<2305843009213693952):∃r v,FloatKind.f64.format.sqrt (floatOfInt .f64 n)=some r∧floatToIntVal .f64 r .i64=some v∧0≤v∧v≤2147483648:=by
  have e0:floatOfInt .f64 n=double.nearest false n.natAbs 0:=by
    show double.nearest (decide (n<0)) n.natAbs 0=_
    rw[decide_eq_false (by omega)]
  have hl:n.natAbs.log2≤60:=log2_lt (k:=61) (by omega) (by decide)
  obtain⟨x,hx,hxr⟩:=zk4 (mag:=n.natAbs) (place:=0) (R:=1083) (by decide) (by omega)
  obtain⟨m,i,hr,hmi⟩:=zoW (R:=1084) (by decide) (by decide) hxr
  obtain⟨m',p',hroot,hcase⟩:=ztK (m:=m) (i:=i) (by omega)
  have hs:FloatKind.f64.format.sqrt (floatOfInt .f64 n)=some (double.nearest false m' p'):=by
    rw[e0,hx]
    show ((double.read x).root 54).map double.write=_
    rw[hr,hroot];rfl
  have hy:double.nearest false m' p'≤1054*2 ^ 52:=by
    rcases hcase with h|h
    · subst h
      have:double.nearest false 0 p'=0:=by unfold Format.nearest;rw[if_pos rfl];rfl
      rw[this];exact Nat.zero_le _
    · obtain⟨y,hy,hyr⟩:=zk4 (mag:=m') (place:=p') (R:=1053) (by decide) h
      rw[hy];exact hyr
  obtain⟨m2,p2,hr2,hmp⟩:=zoW (R:=1054) (by decide) (by decide) hy
  have hz:p2.toNat=0:=by omega
  have hc:=zuy (m:=m2) (drop:=(-p2).toNat) (by omega)
  refine⟨_,(Toward.zero.cut false m2 (-p2).toNat:Nat),hs,?_,by omega,by omega⟩
  unfold floatToIntVal
  have ht:(FloatKind.f64.decode (double.nearest false m' p')).toInt .zero=some ((Toward.zero.cut false m2 (-p2).toNat:Nat):Int):=by
    show (double.read (double.nearest false m' p')).toInt .zero=_
    rw[hr2]
    simp only[Datum.toInt,Datum.integral,hz,Nat.shiftLeft_zero,signed,Bool.false_eq_true,if_false]
  rw[ht]
  have hmin:IntKind.min .i64 = -9223372036854775808:=by decide
  have hmax:IntKind.max .i64=9223372036854775807:=by decide
  dsimp only
  rw[if_pos (by rw[hmin,hmax];omega)]
end Go.Eng
namespace Go.Eng.Ar
open Go.Eng Go.Proofs
set_option linter.all false
set_option maxRecDepth 100000
set_option maxHeartbeats 8000000
theorem zzo:zcG 34000 34000 [((0,0,0,()),1000,0,()),((0,0,100,()),500,400,())] (0,0,500,())=0:=by decide +kernel
theorem zAK:reT (zgO 34000 34000 [((0,0,0,()),1000,0,()),((0,0,100,()),500,400,())] (0,0,500,()) 2) 2=3250000:=by decide +kernel
theorem zAJ:imT (zgO 34000 34000 [((0,0,0,()),1000,0,()),((0,0,100,()),500,400,())] (0,0,500,()) 2) 2=0:=by decide +kernel
theorem zAI:prC (zcr 34000 34000 [((0,0,0,()),1000,0,()),((0,0,100,()),500,400,())] (0,0,500,()))=cpxI 3250000 0:=by
  unfold zcr
  rw[if_pos zzo]
  unfold prC
  rw[if_pos rfl]
  show cpxI (reT (zgO 34000 34000 _ _ 2) 2) (imT (zgO 34000 34000 _ _ 2) 2)=_
  rw[zAK,zAJ]
theorem ex_s:strR (0,0,0,()) (300,400,0,())=((2000,2000,()),0,()):=by decide +kernel
theorem ex_b:zjj [[2,0],[0,4]] 3=(bO (bX [[2,0],[0,4]] 3) 2,bW (bX [[2,0],[0,4]] 3) 2 2,(2,1,()),0,()):=by
  unfold zjj
  rw[if_pos zwP.1,←zwP.2.2];rfl
@[reducible] def zmf:Spec:={pats:=[.gw 3 .err,.gw 4 .err,.gw 2 PowT,.gw 1 I64],res:=[{t:=.bool}],pre:=fun x=>x.2.2.1=powD,f:=fun _=>(true,())}
theorem h14:Ok 14 zmf:=by
  refine mk (ctr:=[(17,zl9),(34,zq8),(41,zio),(46,zvR),(49,sNum),(67,znB),(72,zxQ)]) ⟨h17,h34,h41,h46,h49,h67,h72,trivial⟩ (nt:=78) Tryz.func14 rfl rfl rfl rfl (by kernel_rfl) (by kernel_rfl) (fun _=>[]) ?_
  rintro⟨(b0:Bool),(b1:Bool),(pw:PowT.Den),(m:Int),_⟩ (hpw:pw=powD)
  have e1:zcG zjx.1 zjx.2.1 zjx.2.2.1 (0,0,500,())=0:=zzo
  have e2:zlj (prC (zcr zjx.1 zjx.2.1 zjx.2.2.1 (0,0,500,()))) (cpxI 3250000 0)=true:=by
    rw[show zcr zjx.1 zjx.2.1 zjx.2.2.1 (0,0,500,())=zcr 34000 34000 [((0,0,0,()),1000,0,()),((0,0,100,()),500,400,())] (0,0,500,()) from rfl,zAI]
    simp[zlj]
  have e3:(strR (0,0,0,()) (300,400,0,())).2.1=0:=by rw[ex_s]
  have e4:((I64).cons ((I64).cons Ty.nil)).beq ((strR (0,0,0,()) (300,400,0,())).1.1,(strR (0,0,0,()) (300,400,0,())).1.2.1,()) (2000,2000,())=true:=by rw[ex_s];rfl
  have e5:(zbs (List.replicate 2 (I64))).beq (2,1,()) (2,1,())=true:=rfl
  have e6:(pgR {data:=#[49,48,48,48,32,48,59,53,48,48,32,52,48,48]}).2.1=0:=by decide +kernel
  have e7:(pgR {data:=#[49,48,48,48,32,48,59,53,48,48,32,52,48,48]}).1.length=2:=by decide +kernel
  have e8:(zbs (List.replicate 2 (I64))).beq (List.getD (pgR {data:=#[49,48,48,48,32,48,59,53,48,48,32,52,48,48]}).1 (Int.toNat 1) zaD.dflt) (500,400,())=true:=by decide +kernel
  repeat' (intro hzz;(try (rename Two=>hq;cases hq));(try dsimp only at hzz);(try simp only[zad,zac,eqD,inR,big,zab,zB] at hzz);(try simp only[zad,zac,eqD,inR,big,zab,zB,ex_b] at hzz);(try (revert hzz;intro _)))
  all_goals try (rename Unit=>hq;clear hq)
  all_goals try ((with_reducible refine Held.mk ?_);(with_reducible (first|refine Frz.mk ?_|refine And.intro (Frz.mk ?_) ?_|refine And.intro ?_ (Frz.mk ?_)));repeat' first|exact True.intro|(change _=_;with_reducible rfl)|refine And.intro ?_ ?_|(with_reducible refine Frz.mk ?_))
  all_goals try (refine Held.mk ?_;(try dsimp only at *);(try simp only[zad,zac,eqD,inR,big,zab,zB] at *);(try simp only[zad,zac,eqD,inR,big,zab,zB,ex_b] at *))
  · show ((2:Nat):Int)≤4611686018427387904;decide
  · exact fun _=>zwP.2.1
  · exact⟨by decide,hpw⟩
  · rw[e7];decide
  · exact e8
  · rename_i h;exact absurd (congrArg Int.ofNat e7) h
  · rename_i h;exact absurd e6 h
  · rename_i h;exact absurd (e5.symm.trans h) (by decide)
  · rename_i h;exact absurd trivial h
  · rename_i h;exact absurd (e4.symm.trans h) (by decide)
  · rename_i h;exact absurd e3 h
  · rename_i h;exact absurd (e2.symm.trans h) (by decide)
  · rename_i h;exact absurd e1 h
end Go.Eng.Ar
namespace Go.Eng.Ar
open Go.Eng Go.Proofs
set_option linter.all false
set_option maxRecDepth 100000
set_option maxHeartbeats 8000000
theorem fs23:Tryz.prog.fieldsOf 23 = #[⟨"X", 3,0,false, "", "", 0⟩,⟨"Y", 3,1,false, "", "", 8⟩,⟨"Z", 3,2,false, "", "", 16⟩]:=by kernel_rfl
theorem eqP (w:World) (d:Nat) (x1 x2 x3 y1 y2 y3:Int):(Op.equalIn (d+2) 23 (.agg #[.int .i64 x1,.int .i64 x2,.int .i64 x3]) (.agg #[.int .i64 y1,.int .i64 y2,.int .i64 y3])).run Tryz.prog w=.ok (decide (x1=y1)&&(decide (x2=y2)&&decide (x3=y3))) w:=by
  rw[run_equalIn_struct w (d+1) 23 _ _ (by rw[Tryz.underlying23,fs23]) Tryz.stoodInHeld23,fs23]
  rw[zfR w d _ _ "X" "" "" 0 0 false _ (by decide) (x:=x1) (y:=y1) rfl rfl,zfR w d _ _ "Y" "" "" 1 8 false _ (by decide) (x:=x2) (y:=y2) rfl rfl,zfR w d _ _ "Z" "" "" 2 16 false _ (by decide) (x:=x3) (y:=y3) rfl rfl]
  simp only[Op.eqFields,Sem.run_pure]
  by_cases e1:x1=y1<;>by_cases e2:x2=y2<;>by_cases e3:x3=y3<;>simp[e1,e2,e3]
theorem fs53:Tryz.prog.fieldsOf 53 = #[⟨"At", 23,0,false, "", "", 0⟩,⟨"Gain", 3,3,false, "", "", 24⟩,⟨"Delay", 3,4,false, "", "", 32⟩]:=by kernel_rfl
theorem eq53:EqOk Tryz.prog 53 SpkT:=by
  refine eqOf Tryz.eqGuardType53 fun w V x y l m hx hy=>?_
  obtain⟨p1,p2,rfl,⟨l1,l2,rfl,h1,l3,l4,rfl,h2,l5,l6,rfl,h3,h4⟩,l7,l8,rfl,h5,l9,l10,rfl,h6,h7⟩:=hx
  obtain⟨q1,q2,rfl,⟨m1,m2,rfl,g1,m3,m4,rfl,g2,m5,m6,rfl,g3,g4⟩,m7,m8,rfl,g5,m9,m10,rfl,g6,g7⟩:=hy
  obtain⟨⟨x1,x2,x3,u⟩,x4,x5,u2⟩:=x
  obtain⟨⟨y1,y2,y3,v⟩,y4,y5,v2⟩:=y
  subst h1 h2 h3 h4 h5 h6 h7 g1 g2 g3 g4 g5 g6 g7
  rw[run_equalIn_struct w 9999 53 _ _ (by rw[Tryz.underlying53,fs53]) Tryz.stoodInHeld53,fs53]
  have pp:∀(z1 z2 z3 z4 z5:Int),(part 23 #[.int .i64 z1,.int .i64 z2,.int .i64 z3,.int .i64 z4,.int .i64 z5] 0).run Tryz.prog w=.ok (.agg #[.int .i64 z1,.int .i64 z2,.int .i64 z3]) w:=fun z1 z2 z3 z4 z5=>by
    obtain⟨i,hi⟩:∃i,TIOk Tryz.prog 23 i∧i.kind.isAgg=true∧i.size=3:=⟨_,zx8,rfl,rfl⟩
    rw[zbU hi.1,if_pos hi.2.1,hi.2.2];rfl
  show (Op.eqFields 9999 #[.int .i64 x1,.int .i64 x2,.int .i64 x3,.int .i64 x4,.int .i64 x5] #[.int .i64 y1,.int .i64 y2,.int .i64 y3,.int .i64 y4,.int .i64 y5] [⟨"At", 23,0,false, "", "", 0⟩,⟨"Gain", 3,3,false, "", "", 24⟩,⟨"Delay", 3,4,false, "", "", 32⟩]).run Tryz.prog w=_
  rw[Op.eqFields]
  rw[if_pos (show "At" ≠ "_" by decide)]
  simp only[Sem.run_bind,pp,Result.andThen_ok]
  rw[show (9999:Nat)=9997+2 from rfl,eqP w 9997 x1 x2 x3 y1 y2 y3]
  simp only[Result.andThen_ok]
  by_cases e:x1=y1∧x2=y2∧x3=y3
  · obtain⟨rfl,rfl,rfl⟩:=e
    simp only[decide_true,Bool.and_self,Bool.not_true,Bool.false_eq_true,if_false]
    rw[zfR w 9998 _ _ "Gain" "" "" 3 24 false _ (by decide) (x:=x4) (y:=y4) rfl rfl,zfR w 9998 _ _ "Delay" "" "" 4 32 false _ (by decide) (x:=x5) (y:=y5) rfl rfl]
    simp only[Ty.beq,Op.eqFields,Sem.run_pure,Bool.and_true]
    by_cases e1:x4=y4<;>by_cases e2:x5=y5<;>simp[e1,e2]
  · have h1:(decide (x1=y1)&&(decide (x2=y2)&&decide (x3=y3)))=false:=by
      by_cases e1:x1=y1<;>by_cases e2:x2=y2<;>by_cases e3:x3=y3<;>simp_all
    rw[h1]
    simp only[Bool.not_false,if_true,Sem.run_pure]
    have:SpkT.beq ((x1,x2,x3,u),x4,x5,u2) ((y1,y2,y3,v),y4,y5,v2)=false:=by
      show ((decide (x1=y1)&&(decide (x2=y2)&&(decide (x3=y3)&&true)))&&(decide (x4=y4)&&(decide (x5=y5)&&true)))=false
      rw[Bool.and_true,h1];rfl
    rw[this]
theorem eqs3:∀t∈([28,82,53]:List Nat),∀ty,tyOf tt 20 t=some ty→EqOk Tryz.prog t ty:=by
  intro t ht ty h
  have h53:tyOf tt 20 53=some SpkT:=by kernel_rfl
  by_cases e:t=53
  · subst e;rw[h53] at h;cases h;exact eq53
  · exact zwQ t (by simp only[List.mem_cons,List.not_mem_nil,or_false] at ht ⊢;rcases ht with h|h|h<;>simp_all) ty h
@[reducible] def cfgE (X:Xt) (ctr:List (Nat×Spec)) (nt:Nat):Cfg:={tt:=tt,eqs:=[28,82,53],ctr:=ctr,nt:=nt,ext:=[166],extb:=[(110,.f64)],its:=X.its,clos:=X.clos,fuel:=X.fuel}
theorem zzF {X:Xt} (hX:Its X.its) {ctr:List (Nat×Spec)} {nt:Nat} (h:All ctr):CfgOk Tryz.prog OB (cfgE X ctr nt) where
  tbl:=tbl
  eqs:=eqs3
  ctr:=(zhH hX h (nt:=nt)).ctr
  ext:=(zhH hX h (nt:=nt)).ext
  extb:=zwO
  obs:=fun t i hi=>by simp[obOf] at hi
  its:=fun g isp h=>zlc hX h
theorem mkI {c:Cfg} (hC:∀nt,CfgOk Tryz.prog OB {c with nt:=nt}) {f nt:Nat} {fn:Func} {sp:Spec} (hf:Tryz.prog.funcs[f]?=some fn) (hb:fn.body=some (zcM fn)) (hnt:fn.ntmps=nt) (hps:(Nat.ble sp.pats.length nt&&Nat.ble nt 1000000)=true)
    (hob:Nat.ble (zb9 sp.pats) 1=true) (hd:zcZ nt (zcM fn)=true) (hn:(fn.name == "runtime.NumGoroutine")=false) (anns:(zac sp.pats).Den→List (St→LoopAnn))
    (h:∀x,sp.pre x→zpK {c with nt:=nt} (par {c with nt:=nt}) (anns x) fn.results.toList (zcM fn) sp x):Ok f sp:=
  ⟨zps (hC nt) (zb3 mixed (hC nt)) hf hb hnt (Nat.le_of_ble_eq_true (Bool.and_eq_true _ _▸hps:_∧_).1) (Nat.le_of_ble_eq_true (Bool.and_eq_true _ _▸hps:_∧_).2) (Nat.le_of_ble_eq_true hob) rfl hd anns h,fn,hf,hn,by rw[hb];rfl⟩
theorem zrI {g:Nat} {I:InlF} {fn:Func} (hf:Tryz.prog.funcs[g]?=some fn) (hb:fn.body=some I.body) (hnt:fn.ntmps=I.nt) (hrs:fn.results.toList=I.rs) (hd:zcZ I.nt I.body=true) (hnr:za6 I.body=true) (hl:Nat.ble I.nt 1000000=true)
    (hn:(fn.name == "runtime.NumGoroutine")=false):zqA Tryz.prog [(g,I)]:=by
  intro g' I' h
  simp only[zpq] at h
  cases hb':Nat.beq g g' with
  | false=>rw[hb'] at h;cases h
  | true=>
    rw[hb'] at h
    have:=Nat.eq_of_beq_eq_true hb'
    subst this
    simp only[cond_true,Option.some.injEq] at h
    subst h
    exact⟨fn,hf,hb,hnt,hrs,hd,hnr,Nat.le_of_ble_eq_true hl,hn⟩
@[reducible] def sFew:Spec:={pats:=[.dat ArrT],res:=[{t:=.bool}],pre:=fun _=>True,f:=fun x=>(decide (List.length (α:=SpkD) x.1.2.2.1≤10),())}
theorem h24:Ok 24 sFew:=by
  refine mk (ctr:=[]) trivial (nt:=7) Tryz.func24 rfl rfl rfl rfl (by kernel_rfl) (by kernel_rfl) (fun _=>[]) ?_
  rintro⟨⟨(r:Int),(v:Int),(xs:List SpkD),_⟩,_⟩ _
  repeat' (intro hzz;(try (rename Two=>hq;cases hq));(try dsimp only at hzz);(try simp only[zad,zac,eqD,inR,big,zab,zB] at hzz);(try (revert hzz;intro _)))
  all_goals try (rename Unit=>hq;clear hq)
  all_goals try ((with_reducible refine Held.mk ?_);(with_reducible (first|refine Frz.mk ?_|refine And.intro (Frz.mk ?_) ?_|refine And.intro ?_ (Frz.mk ?_)));repeat' first|exact True.intro|(change _=_;with_reducible rfl)|refine And.intro ?_ ?_|(with_reducible refine Frz.mk ?_))
  all_goals try (refine Held.mk ?_;(try dsimp only at *);(try simp only[zad,zac,eqD,inR,big,zab,zB] at *))
  all_goals (show decide ((xs.length:Int)≤10)=decide (xs.length≤10);congr 1;exact propext ⟨fun h=>by omega,fun h=>by omega⟩)
abbrev pTen (n:Nat):Prop:=n≤1000
@[reducible] def zvW:Spec:={pats:=[.dat ArrT],res:=[{t:=ArrT}],pre:=fun x=>pTen (List.length (α:=SpkD) x.1.2.2.1),f:=fun x=>(x.1,())}
theorem h26:Ok 26 zvW:=by
  refine mk (ctr:=[]) trivial (nt:=9) Tryz.func26 rfl rfl rfl rfl (by kernel_rfl) (by kernel_rfl) (fun _=>[]) ?_
  rintro⟨⟨(r:Int),(v:Int),(xs:List SpkD),_⟩,_⟩ (hp:xs.length≤1000)
  repeat' (intro hzz;(try (rename Two=>hq;cases hq));(try dsimp only at hzz);(try simp only[zad,zac,eqD,inR,big,zab,zB] at hzz);(try (revert hzz;intro _)))
  all_goals try (rename Unit=>hq;clear hq)
  all_goals try ((with_reducible refine Held.mk ?_);(with_reducible (first|refine Frz.mk ?_|refine And.intro (Frz.mk ?_) ?_|refine And.intro ?_ (Frz.mk ?_)));repeat' first|exact True.intro|(change _=_;with_reducible rfl)|refine And.intro ?_ ?_|(with_reducible refine Frz.mk ?_))
  all_goals try (refine Held.mk ?_;(try dsimp only at *);(try simp only[zad,zac,eqD,inR,big,zab,zB] at *))
  · show 0+xs.length≤2147483648;omega
  · rfl
theorem h91:Ok 91 zf3:=by
  refine mk (ctr:=[]) trivial (nt:=8) Tryz.func91 rfl rfl rfl rfl (by kernel_rfl) (by kernel_rfl) (fun _=>[]) ?_
  rintro⟨⟨(r:Int),(v:Int),(xs:List SpkD),_⟩,_⟩ _
  repeat' (intro hzz;(try (rename Two=>hq;cases hq));(try dsimp only at hzz);(try simp only[zad,zac,eqD,inR,big,zab,zB] at hzz);(try (revert hzz;intro _)))
  all_goals try (rename Unit=>hq;clear hq)
  all_goals try ((with_reducible refine Held.mk ?_);(with_reducible (first|refine Frz.mk ?_|refine And.intro (Frz.mk ?_) ?_|refine And.intro ?_ (Frz.mk ?_)));repeat' first|exact True.intro|(change _=_;with_reducible rfl)|refine And.intro ?_ ?_|(with_reducible refine Frz.mk ?_))
  all_goals try (refine Held.mk ?_;(try dsimp only at *);(try simp only[zad,zac,eqD,inR,big,zab,zB] at *))
  all_goals try omega
theorem zyA {a b c:Int} (h:¬zdC a b c=0):zdC a b c=2:=by
  unfold zdC at *;split at h
  · exact absurd rfl h
  · rename_i h1;rw[if_neg h1]
def zw5 (r v:Int) (xs:List SpkD):LoopAnn:={σ:=Nat,pat:=fun k=>[sI 5 k],inv:=fun k=>k≤xs.length∧zg8 xs (xs.length - k) k=chkA r v xs,meas:=fun k=>xs.length - k}
theorem h28:Ok 28 zoR:=by
  refine mk (ctr:=[(18,zim),(21,zma),(91,zf3),(92,zfr)]) ⟨h18,h21,h91,h92,trivial⟩ (nt:=46) Tryz.func28 rfl rfl rfl rfl (by kernel_rfl) (by kernel_rfl) (fun x=>[fun _=>zw5 x.1.1 x.1.2.1 x.1.2.2.1]) ?_
  rintro⟨⟨(r:Int),(v:Int),(xs:List SpkD),⟨⟩⟩,⟨⟩⟩ (hp:pLen xs.length)
  have hp':=hp.out
  have hh:∀e,ziW r v xs.length=e→e≠0→chkA r v xs=(0,e):=fun e h1 h2=>by
    unfold chkA;rw[if_neg (by rw[h1];exact h2),h1]
  repeat' (intro hzz;(try (rename Two=>hq;cases hq));(try dsimp only at hzz);(try simp only[zad,zac,eqD,inR,big,zab,zB] at hzz);(try simp only[zad,zac,eqD,inR,big,zab,zB,Int.toNat_natCast] at hzz);(try (revert hzz;intro _)))
  all_goals try (rename Unit=>hq;clear hq)
  all_goals try ((with_reducible refine Held.mk ?_);(with_reducible (first|refine Frz.mk ?_|refine And.intro (Frz.mk ?_) ?_|refine And.intro ?_ (Frz.mk ?_)));repeat' first|exact True.intro|(change _=_;with_reducible rfl)|refine And.intro ?_ ?_|(with_reducible refine Frz.mk ?_))
  all_goals try (refine Held.mk ?_;(try dsimp only at *);(try simp only[zad,zac,eqD,inR,big,zab,zB] at *);(try simp only[zad,zac,eqD,inR,big,zab,zB,Int.toNat_natCast] at *))
  all_goals try omega
  · rename_i h
    rw[hh _ (if_neg h) h];exact⟨rfl,rfl⟩
  · rename_i h1 h2
    rw[hh 10 ((if_pos h1).trans (if_pos (by omega))) (by decide)];exact⟨rfl,rfl⟩
  · rename_i h1 h2 h3
    rw[hh 8 ((if_pos h1).trans ((if_neg (by omega)).trans (if_neg (by omega)))) (by decide)];exact⟨rfl,rfl⟩
  · rename_i h1 h2 h3
    refine zai.mk ?_
    refine Exists.intro (0:Nat) ?_
    refine And.intro (Leaf.mk ?_) ?_
    · repeat' first|exact True.intro|refine And.intro ?_ ?_
      all_goals try ((change _=_<;>try dsimp only)<;>try with_reducible rfl)
      all_goals try omega
      all_goals (rfl)
    have e:ziW r v xs.length=0:=(if_pos h1).trans ((if_neg (by omega)).trans (if_pos (by omega)))
    exact⟨Nat.zero_le _,by unfold chkA;rw[if_pos e];rfl⟩
  · rename_i h1 h2 h3 k hk hlt h4 h5
    have e:=hk.2
    have hs:zeA (xs.getD k spkZ)=2:=(if_pos h4).trans (zst h5)
    rw[zdT (by omega),if_neg (by rw[hs];decide),hs] at e
    rw[←e];exact⟨rfl,rfl⟩
  · rename_i h1 h2 h3 k hk hlt h4 h5
    have e:=hk.2
    have hs:zeA (xs.getD k spkZ)=0:=(if_pos h4).trans h5
    rw[zdT (by omega),if_pos hs] at e
    refine zai.mk ?_
    refine Exists.intro (k+1) ?_
    refine And.intro (Leaf.mk ?_) ?_
    · repeat' first|exact True.intro|refine And.intro ?_ ?_
      all_goals try ((change _=_<;>try dsimp only)<;>try with_reducible rfl)
      all_goals try omega
      all_goals (rfl)
    exact⟨⟨(show k+1≤xs.length by omega),e⟩,(show xs.length - (k+1)<xs.length - k by omega)⟩
  · rename_i h1 h2 h3 k hk hlt h4
    have e:=hk.2
    have hs:zeA (xs.getD k spkZ)=2:=(if_neg h4).trans (zyA h4)
    rw[zdT (by omega),if_neg (by rw[hs];decide),hs] at e
    rw[←e];exact⟨rfl,rfl⟩
  · rename_i h1 h2 h3 k hk hlt
    have e:=hk.2
    rw[show xs.length - k=0 by omega] at e
    rw[←e];exact⟨rfl,rfl⟩
/-! ### Arrays compared -/
def zf2 (xs ys:List SpkD):Nat→Nat→Bool
  | 0,_=>true
  | k+1,i=>SpkT.beq (spkN xs i) (spkN ys i)&&zf2 xs ys k (i+1)
def ztH (x y:ArrD):Bool:=decide (x.1=y.1)&&(decide (x.2.1=y.2.1)&&(decide (List.length (α:=SpkD) x.2.2.1=List.length (α:=SpkD) y.2.2.1)&&zf2 x.2.2.1 y.2.2.1 (List.length (α:=SpkD) x.2.2.1) 0))
theorem zjQ {xs ys:List SpkD} {i:Nat} (h:i<xs.length):zf2 xs ys (xs.length - i) i=(SpkT.beq (spkN xs i) (spkN ys i)&&zf2 xs ys (xs.length - (i+1)) (i+1)):=by
  obtain⟨k,hk⟩:∃k,xs.length - i=k+1:=⟨xs.length - i - 1,by omega⟩
  rw[hk,show xs.length - (i+1)=k by omega];rfl
def zvN (xs ys:List SpkD):LoopAnn:={σ:=Nat,pat:=fun k=>[sI 5 k],inv:=fun k=>k≤xs.length∧zf2 xs ys (xs.length - k) k=zf2 xs ys xs.length 0,meas:=fun k=>xs.length - k}
@[reducible] def zq6:Spec:={pats:=[.dat ArrT,.dat ArrT],res:=[{t:=.bool}],pre:=fun x=>pLen (List.length (α:=SpkD) x.1.2.2.1)∧pLen (List.length (α:=SpkD) x.2.1.2.2.1),f:=fun x=>(ztH x.1 x.2.1,())}
theorem h30:Ok 30 zq6:=by
  refine mkI (sp:=zq6) (c:=cfgE {} [] 0) (fun nt=>zzF (X:={}) True.intro (ctr:=[]) trivial) (nt:=45) Tryz.func30 rfl rfl rfl rfl (by kernel_rfl) (by kernel_rfl) (fun x=>[fun _=>zvN x.1.2.2.1 x.2.1.2.2.1]) ?_
  rintro⟨⟨(r:Int),(v:Int),(xs:List SpkD),⟨⟩⟩,⟨(r2:Int),(v2:Int),(ys:List SpkD),⟨⟩⟩,⟨⟩⟩ ⟨(hp:pLen xs.length),(hq:pLen ys.length)⟩
  have hp':=hp.out
  have hq':=hq.out
  have hX:r=r2→v=v2→(xs.length:Int)=ys.length→ztH (r,v,xs,()) (r2,v2,ys,())=zf2 xs ys xs.length 0:=fun h1 h2 h3=>by
    show (decide (r=r2)&&(decide (v=v2)&&(decide (xs.length=ys.length)&&zf2 xs ys xs.length 0)))=_
    rw[decide_eq_true h1,decide_eq_true h2,decide_eq_true (show xs.length=ys.length by omega)];rfl
  repeat' (intro hzz;(try (rename Two=>hq;cases hq));(try dsimp only at hzz);(try simp only[zad,zac,eqD,inR,big,zab,zB] at hzz);(try simp only[zad,zac,eqD,inR,big,zab,zB,Int.toNat_natCast] at hzz);(try (revert hzz;intro _)))
  all_goals try (rename Unit=>hq;clear hq)
  all_goals try ((with_reducible refine Held.mk ?_);(with_reducible (first|refine Frz.mk ?_|refine And.intro (Frz.mk ?_) ?_|refine And.intro ?_ (Frz.mk ?_)));repeat' first|exact True.intro|(change _=_;with_reducible rfl)|refine And.intro ?_ ?_|(with_reducible refine Frz.mk ?_))
  all_goals try (refine Held.mk ?_;(try dsimp only at *);(try simp only[zad,zac,eqD,inR,big,zab,zB] at *);(try simp only[zad,zac,eqD,inR,big,zab,zB,Int.toNat_natCast] at *))
  · rename_i h1 h2 h3
    show false=(decide (r=r2)&&(decide (v=v2)&&(decide (xs.length=ys.length)&&zf2 xs ys xs.length 0)))
    rw[decide_eq_false (show ¬xs.length=ys.length by omega),Bool.false_and,Bool.and_false,Bool.and_false]
  ·
    refine zai.mk ?_
    refine Exists.intro (0:Nat) ?_
    refine And.intro (Leaf.mk ?_) ?_
    · repeat' first|exact True.intro|refine And.intro ?_ ?_
      all_goals try ((change _=_<;>try dsimp only)<;>try with_reducible rfl)
      all_goals try omega
      all_goals (rfl)
    exact⟨Nat.zero_le _,rfl⟩
  · rename_i h1 h2 h3 k hk hlt;omega
  · rename_i h1 h2 h3 k hk hlt;omega
  · rename_i h1 h2 h3 k hk hlt h
    have e:=hk.2
    rw[zjQ (by omega),show SpkT.beq (spkN xs k) (spkN ys k)=false from h] at e
    exact e.trans (hX h1 h2 h3).symm
  · rename_i h1 h2 h3 k hk hlt h
    have:=hp.out
    omega
  · rename_i h1 h2 h3 k hk hlt h
    have e:=hk.2
    rw[zjQ (by omega),show SpkT.beq (spkN xs k) (spkN ys k)=true from h] at e
    refine zai.mk ?_
    refine Exists.intro (k+1) ?_
    refine And.intro (Leaf.mk ?_) ?_
    · repeat' first|exact True.intro|refine And.intro ?_ ?_
      all_goals try ((change _=_<;>try dsimp only)<;>try with_reducible rfl)
      all_goals try omega
      all_goals (rfl)
    exact⟨⟨(show k+1≤xs.length by omega),e⟩,(show xs.length - (k+1)<xs.length - k by omega)⟩
  · rename_i h1 h2 h3 k hk hlt
    have e:=hk.2
    rw[show xs.length - k=0 by omega] at e
    exact (hX h1 h2 h3).trans e.symm
  · rename_i h1 h2
    show false=(decide (r=r2)&&(decide (v=v2)&&(decide (xs.length=ys.length)&&zf2 xs ys xs.length 0)))
    rw[decide_eq_false h2,Bool.false_and,Bool.and_false]
  · rename_i h1
    show false=(decide (r=r2)&&(decide (v=v2)&&(decide (xs.length=ys.length)&&zf2 xs ys xs.length 0)))
    rw[decide_eq_false h1,Bool.false_and]
theorem ztD (s:SpkD):SpkT.beq s s=true:=by
  obtain⟨⟨a,b,c,_⟩,d,e,_⟩:=s
  show ((decide (a=a)&&(decide (b=b)&&(decide (c=c)&&true)))&&(decide (d=d)&&(decide (e=e)&&true)))=true
  simp
theorem zjR (xs:List SpkD):∀k i,zf2 xs xs k i=true
  | 0,_=>rfl
  | k+1,i=>by simp only[zf2,ztD,zjR xs k,Bool.and_self]
theorem zpV (r v:Int) (xs:List SpkD):ztH (r,v,xs,()) (r,v,xs,())=true:=by
  show (decide (r=r)&&(decide (v=v)&&(decide (xs.length=xs.length)&&zf2 xs xs xs.length 0)))=true
  rw[zjR];simp
end Go.Eng.Ar
namespace Go.Eng.Ar
open Go.Eng Go.Proofs
set_option linter.all false
set_option maxRecDepth 100000
set_option maxHeartbeats 8000000
abbrev zfx (n:Int):Prop:=0≤n∧n<2305843009213693952
theorem zir {n:Int} (h:zfx n):0≤rtI n∧rtI n*rtI n≤n∧n<(rtI n+1)*(rtI n+1)∧rtI n<1518500250:=by
  obtain⟨e1,e2⟩:=zkT (n:=n.toNat) (by omega)
  have g1:((rt n.toNat*rt n.toNat:Nat):Int)=rtI n*rtI n:=by simp[rtI]
  have g2:(((rt n.toNat+1)*(rt n.toNat+1):Nat):Int)=(rtI n+1)*(rtI n+1):=by simp[rtI]
  have g3:((rt n.toNat:Nat):Int)=rtI n:=rfl
  have g4:rt n.toNat<1518500250:=by
    rcases Nat.lt_or_ge (rt n.toNat) 1518500250 with h'|h'
    · exact h'
    · have:=Nat.mul_le_mul h' h';omega
  exact⟨by omega,by omega,by omega,by omega⟩
theorem zvZ {n:Int} (h:zfx n) {r:Nat} (h1:(r:Int)*r≤n) (h2:n<((r:Int)+1)*((r:Int)+1)):(r:Int)=rtI n:=by
  obtain⟨e1,e2⟩:=zkT (n:=n.toNat) (by omega)
  have g1:((r*r:Nat):Int)=(r:Int)*r:=by simp
  have g2:(((r+1)*(r+1):Nat):Int)=((r:Int)+1)*((r:Int)+1):=by simp
  have:=zqU (n:=n.toNat) (a:=r) (b:=rt n.toNat) (by omega) (by omega) e1 e2
  rw[this];rfl
theorem zlX {n:Int} {r:Nat} (h:zfx n) (h1:(r:Int)*r≤n):r<1518500250:=by
  have g1:((r*r:Nat):Int)=(r:Int)*r:=by simp
  rcases Nat.lt_or_ge r 1518500250 with h'|h'
  · exact h'
  · have:=Nat.mul_le_mul h' h';omega
theorem zuS {r:Nat} (h:r≤2147483648):0≤(r:Int)*r∧(r:Int)*r≤4611686018427387904:=by
  have g1:((r*r:Nat):Int)=(r:Int)*r:=by simp
  have:=Nat.mul_le_mul h h
  omega
@[reducible] def zoI:Spec:={pats:=[.dat I64],res:=[{t:=I64}],pre:=fun x=>zfx x.1,f:=fun x=>(rtI x.1,())}
def ztN (n:Int):LoopAnn:={σ:=Nat,pat:=fun r=>[sI 3 r],inv:=fun r=>r≤2147483648,meas:=fun r=>r}
def ztM (n:Int):LoopAnn:={σ:=Nat,pat:=fun r=>[sI 3 r],inv:=fun r=>(r:Int)*r≤n,meas:=fun r=>1518500250 - r}
theorem zzb:Ok 112 zoI:=by
  refine mk (ctr:=[(149,zvQ)]) ⟨h149,trivial⟩ (nt:=25) Tryz.func112 rfl rfl rfl rfl (by kernel_rfl) (by kernel_rfl) (fun x=>[fun _=>ztN x.1,fun _=>ztM x.1]) ?_
  rintro⟨(n:Int),_⟩ (hn:zfx n)
  obtain⟨x,v,hx,hv,hv0,hv1⟩:=zvI hn.1 hn.2
  repeat' (intro hzz;(try (rename Two=>hq;cases hq));(try dsimp only at hzz);(try simp only[zad,zac,eqD,inR,big,zab,zB] at hzz);(try simp only[zad,zac,eqD,inR,big,zab,zB,hx,Option.getD_some,Option.isSome_some] at hzz);(try (revert hzz;intro _)))
  all_goals try (rename Unit=>hq;clear hq)
  all_goals try ((with_reducible refine Held.mk ?_);(with_reducible (first|refine Frz.mk ?_|refine And.intro (Frz.mk ?_) ?_|refine And.intro ?_ (Frz.mk ?_)));repeat' first|exact True.intro|(change _=_;with_reducible rfl)|refine And.intro ?_ ?_|(with_reducible refine Frz.mk ?_))
  all_goals try (refine Held.mk ?_;(try dsimp only at *);(try simp only[zad,zac,eqD,inR,big,zab,zB] at *);(try simp only[zad,zac,eqD,inR,big,zab,zB,hx,Option.getD_some,Option.isSome_some] at *))
  all_goals try omega
  · rw[hv];rfl
  ·
    refine zai.mk ?_
    refine Exists.intro v.toNat ?_
    refine And.intro (Leaf.mk ?_) ?_
    · repeat' first|exact True.intro|refine And.intro ?_ ?_
      all_goals try ((change _=_<;>try dsimp only)<;>try with_reducible rfl)
      all_goals try omega
      all_goals ((rw[hx,Option.getD_some,hv,Option.getD_some];omega))
    omega
  · rename_i r hr
    have:=zuS hr;omega
  · rename_i r hr h
    have h0:r≠0:=fun e=>by subst e;have:=hn.1;simp at h;omega
    refine zai.mk ?_
    refine Exists.intro (r - 1) ?_
    refine And.intro (Leaf.mk ?_) ?_
    · repeat' first|exact True.intro|refine And.intro ?_ ?_
      all_goals try ((change _=_<;>try dsimp only)<;>try with_reducible rfl)
      all_goals try omega
      all_goals (omega)
    exact⟨(show r - 1≤2147483648 by omega),(show r - 1<r by omega)⟩
  · rename_i r hr h
    refine zai.mk ?_
    refine Exists.intro r ?_
    refine And.intro (Leaf.mk ?_) ?_
    · repeat' first|exact True.intro|refine And.intro ?_ ?_
      all_goals try ((change _=_<;>try dsimp only)<;>try with_reducible rfl)
      all_goals try omega
      all_goals (rfl)
    exact h
  · rename_i q hq hqn r h
    have:=zlX hn h;omega
  · rename_i q hq hqn r h
    have:=zlX hn h;omega
  · rename_i q hq hqn r h
    have hlt:=zlX hn h
    have:=zuS (r:=r+1) (by omega)
    push_cast at this
    omega
  · rename_i q hq hqn r h1 h
    have:=zlX hn h1;omega
  · rename_i q hq hqn r h1 h
    have hlt:=zlX hn (r:=r+1) (by push_cast;exact h)
    refine zai.mk ?_
    refine Exists.intro (r+1) ?_
    refine And.intro (Leaf.mk ?_) ?_
    · repeat' first|exact True.intro|refine And.intro ?_ ?_
      all_goals try ((change _=_<;>try dsimp only)<;>try with_reducible rfl)
      all_goals try omega
      all_goals ((push_cast;rfl))
    exact⟨(show ((r+1:Nat):Int)*((r+1:Nat):Int)≤n by push_cast;exact h),(show 1518500250 - (r+1)<1518500250 - r by omega)⟩
  · rename_i q hq hqn r h1 h
    exact zvZ hn h1 h
@[reducible] def zoJ:Spec:={zoI with f:=fun x=>(rtU x.1,())}
theorem zAB:Ok 113 zoJ:=by
  refine mk (ctr:=[(112,zoI)]) ⟨zzb,trivial⟩ (nt:=14) Tryz.func113 rfl rfl rfl rfl (by kernel_rfl) (by kernel_rfl) (fun _=>[]) ?_
  rintro⟨(n:Int),_⟩ (hn:zfx n)
  have h1:=zir hn
  have h2:0≤rtI n*rtI n:=Int.mul_nonneg h1.1 h1.1
  have h3:=hn.2
  repeat' (intro hzz;(try (rename Two=>hq;cases hq));(try dsimp only at hzz);(try simp only[zad,zac,eqD,inR,big,zab,zB] at hzz);(try simp only[zad,zac,eqD,inR,big,zab,zB,zdD] at hzz);(try (revert hzz;intro _)))
  all_goals try (rename Unit=>hq;clear hq)
  all_goals try ((with_reducible refine Held.mk ?_);(with_reducible (first|refine Frz.mk ?_|refine And.intro (Frz.mk ?_) ?_|refine And.intro ?_ (Frz.mk ?_)));repeat' first|exact True.intro|(change _=_;with_reducible rfl)|refine And.intro ?_ ?_|(with_reducible refine Frz.mk ?_))
  all_goals try (refine Held.mk ?_;(try dsimp only at *);(try simp only[zad,zac,eqD,inR,big,zab,zB] at *);(try simp only[zad,zac,eqD,inR,big,zab,zB,zdD] at *))
  all_goals first|exact hn|omega|(simp only[rtU];split<;>omega)
end Go.Eng.Ar
namespace Go.Eng.Ar
open Go.Eng Go.Proofs
set_option linter.all false
set_option maxRecDepth 100000
set_option maxHeartbeats 8000000
abbrev minI (a b:Int):Int:=if b<a then b else a
abbrev maxI (a b:Int):Int:=if a<b then b else a
theorem zrY (a b:Int):minI a b≤a∧minI a b≤b∧(minI a b=a∨minI a b=b):=by unfold minI;split<;>omega
theorem zr0 (a b:Int):a≤maxI a b∧b≤maxI a b∧(maxI a b=a∨maxI a b=b):=by unfold maxI;split<;>omega
theorem zmA (a:Int):minI a a=a:=by unfold minI;split<;>rfl
theorem zmD (a:Int):maxI a a=a:=by unfold maxI;split<;>rfl
def mnG (f:Nat→Int):Nat→Int
  | 0=>f 0
  | k+1=>minI (mnG f k) (f (k+1))
def mxG (f:Nat→Int):Nat→Int
  | 0=>f 0
  | k+1=>maxI (mxG f k) (f (k+1))
@[irreducible] def mnS (f:Nat→Int) (k:Nat):Int:=match k with|0=>0|k+1=>mnG f k
@[irreducible] def mxS (f:Nat→Int) (k:Nat):Int:=match k with|0=>0|k+1=>mxG f k
theorem zyW (f:Nat→Int):mnS f 0=0:=by unfold mnS;rfl
theorem zyR (f:Nat→Int):mxS f 0=0:=by unfold mxS;rfl
theorem znW (f:Nat→Int) (k:Nat):mnS f (k+1)=mnG f k:=by unfold mnS;rfl
theorem znV (f:Nat→Int) (k:Nat):mxS f (k+1)=mxG f k:=by unfold mxS;rfl
theorem zyV (f:Nat→Int):mnS f 1=f 0:=znW f 0
theorem zyQ (f:Nat→Int):mxS f 1=f 0:=znV f 0
theorem zyU (f:Nat→Int) {k:Nat} (h:0<k):mnS f (k+1)=minI (mnS f k) (f k):=by
  obtain⟨j,rfl⟩:∃j,k=j+1:=⟨k - 1,by omega⟩
  rw[znW,znW];rfl
theorem zyP (f:Nat→Int) {k:Nat} (h:0<k):mxS f (k+1)=maxI (mxS f k) (f k):=by
  obtain⟨j,rfl⟩:∃j,k=j+1:=⟨k - 1,by omega⟩
  rw[znV,znV];rfl
theorem zgf {f : Nat → Int} {B : Int} (h : ∀ i, -B ≤ f i∧f i≤B):∀k,(-B≤mnG f k∧mnG f k≤B)∧(-B≤mxG f k∧mxG f k≤B)∧mnG f k≤mxG f k∧∀j,j≤k→mnG f k≤f j∧f j≤mxG f k
  | 0 => ⟨h 0, h 0, Int.le_refl _, fun j hj => by obtain rfl:j=0:=by omega
                                                  exact⟨Int.le_refl _,Int.le_refl _⟩⟩
  | k+1=>by
    obtain⟨h1,h2,h3,h4⟩:=zgf h k
    have hk:=h (k+1)
    have q1:=zrY (mnG f k) (f (k+1))
    have q2:=zr0 (mxG f k) (f (k+1))
    have e1:mnG f (k+1)=minI (mnG f k) (f (k+1)):=rfl
    have e2:mxG f (k+1)=maxI (mxG f k) (f (k+1)):=rfl
    rw[e1,e2]
    refine⟨by omega,by omega,by omega,fun j hj=>?_⟩
    by_cases e:j=k+1
    · subst e;omega
    · have:=h4 j (by omega);omega
def rv (x:RayD) (j:Nat):Int×Int:=shr (x.2.2.1.1+((j / 2:Nat):Int)+x.1.2.2.1) (x.1.2.1*if j % 2=0 then x.2.1.1 else x.2.1.2.1)
def rvR (x:RayD) (j:Nat):Int:=(rv x j).1
def rvI (x:RayD) (j:Nat):Int:=(rv x j).2
def nEn (x:RayD):Nat:=Int.toNat ((x.2.2.1.2.1:Int) - x.2.2.1.1+1)
theorem rv_0 (x:RayD) (k:Nat):rv x (2*k)=shr (x.2.2.1.1+(k:Int)+x.1.2.2.1) (x.1.2.1*x.2.1.1):=by
  unfold rv;rw[if_pos (by omega),show 2*k / 2=k by omega]
theorem rv_1 (x:RayD) (k:Nat):rv x (2*k+1)=shr (x.2.2.1.1+(k:Int)+x.1.2.2.1) (x.1.2.1*x.2.1.2.1):=by
  unfold rv;rw[if_neg (by omega),show (2*k+1) / 2=k by omega]
abbrev zzr (x:RayD) (j:Nat):List Fact:=[sB 4 (decide (0<j)),cI 3 0 (mnS (rvR x) j),cI 3 1 (mxS (rvR x) j),cI 3 2 (mnS (rvI x) j),cI 3 3 (mxS (rvI x) j)]
def zAL (x:RayD):LoopAnn:={σ:=Nat,pat:=fun k=>sI 5 (x.2.2.1.1+(k:Int))::zzr x (2*k),inv:=fun k=>k≤nEn x,meas:=fun k=>nEn x - k}
def zzs (x:RayD) (n:Int):LoopAnn:={σ:=Nat,pat:=fun s=>sI 35 s::zzr x (2*(n - x.2.2.1.1).toNat+s),inv:=fun s=>s≤2,meas:=fun s=>2 - s}
abbrev EndD:Type:=zxl.Den
def endR (x:RayD):EndD:=((mnS (rvR x) (2*nEn x),mxS (rvR x) (2*nEn x),()),(mnS (rvI x) (2*nEn x),mxS (rvI x) (2*nEn x),()),())
@[reducible] def zx0:Spec:={pats:=[.dat RayT],res:=[{t:=zxl}],pre:=fun x=>goodRay x.1,f:=fun x=>(endR x.1,())}
theorem h111:Ok 111 zx0:=by
  refine mkX (X:=xF4) (hX:=zot) (ctr:=[(98,zq5)]) ⟨h98,trivial⟩ (nt:=71) Tryz.func111 rfl rfl rfl rfl (by kernel_rfl) (by kernel_rfl) (fun x=>[fun _=>zAL x.1,fun st=>zju 5 st fun n=>zzs x.1 n]) ?_
  rintro⟨⟨⟨(p:zan),(g:Int),(d:Int),⟨⟩⟩,⟨(sl:Int),(su:Int),⟨⟩⟩,⟨(nl:Int),(nu:Int),⟨⟩⟩,⟨⟩⟩,⟨⟩⟩ ⟨(hg:0≤g∧g≤1000),(hd:0≤d∧d≤10000),(hs:0≤sl∧sl≤100000),(hu:sl≤su∧su≤100000),(hn:0≤nl∧nl≤1000000000),(hm:nl≤nu∧nu≤1000000000)⟩
  have hv:∀k s:Nat,s<2→rv ((p,g,d,()),(sl,su,()),(nl,nu,()),()) (2*(nl+(k:Int) - nl).toNat+s)=shr (nl+(k:Int)+d) ((chL (I64) 2 (g*sl,g*su,())).getD s (I64).dflt):=fun k s h=>by
    rw[show (nl+(k:Int) - nl).toNat=k by omega]
    match s,h with
    | 0,_=>exact rv_0 _ k
    | 1,_=>exact rv_1 _ k
  have hm1:=ziJ hg (show 0≤sl∧sl≤100000 from hs)
  have hm2:=ziJ hg (show 0≤su∧su≤100000 by omega)
  have hd2:∀s:Nat,s<2→0≤(chL (I64) 2 (g*sl,g*su,())).getD s (I64).dflt∧(chL (I64) 2 (g*sl,g*su,())).getD s (I64).dflt≤(100000000:Int):=fun s h=>by
    match s,h with
    | 0,_=>exact hm1
    | 1,_=>exact hm2
  repeat' (intro hzz;(try (rename Two=>hq;cases hq));(try dsimp only at hzz);(try simp only[zad,zac,eqD,inR,big,zab,zB] at hzz);(try simp only[zad,zac,eqD,inR,big,zab,zB,Int.toNat_natCast] at hzz);(try (revert hzz;intro _)))
  all_goals try (rename Unit=>hq;clear hq)
  all_goals try ((with_reducible refine Held.mk ?_);(with_reducible (first|refine Frz.mk ?_|refine And.intro (Frz.mk ?_) ?_|refine And.intro ?_ (Frz.mk ?_)));repeat' first|exact True.intro|(change _=_;with_reducible rfl)|refine And.intro ?_ ?_|(with_reducible refine Frz.mk ?_))
  all_goals try (refine Held.mk ?_;(try dsimp only at *);(try simp only[zad,zac,eqD,inR,big,zab,zB] at *);(try simp only[zad,zac,eqD,inR,big,zab,zB,Int.toNat_natCast] at *))
  all_goals try omega
  ·
    refine zai.mk ?_
    refine Exists.intro (0:Nat) ?_
    refine And.intro (Leaf.mk ?_) ?_
    · repeat' first|exact True.intro|refine And.intro ?_ ?_
      all_goals try ((change _=_<;>try dsimp only)<;>try with_reducible rfl)
      all_goals try omega
      all_goals (first|exact Int.add_zero _|exact (Int.add_zero _).symm|exact (zyW _)|exact (zyR _)|exact (zyW _).symm|exact (zyR _).symm|rfl)
    exact Nat.zero_le _
  · rename_i k hk hle
    have e:2*(nl+(k:Int) - nl).toNat=2*k:=by omega
    refine zai.mk ?_
    refine Exists.intro (0:Nat) ?_
    refine And.intro (Leaf.mk ?_) ?_
    · repeat' first|exact True.intro|refine And.intro ?_ ?_
      all_goals try ((change _=_<;>try dsimp only)<;>try with_reducible rfl)
      all_goals try omega
      all_goals (first|rfl|(rw[Nat.add_zero,e]))
    exact Nat.zero_le _
  · rename_i k hk hle s hs2 hlt
    have:=hd2 s (by omega)
    exact⟨⟨by omega,by omega⟩,this.1,Int.le_trans this.2 (by decide)⟩
  · rename_i k hk hle s hs2 hlt _ hz _ _ _
    obtain rfl:k=0:=by omega
    obtain rfl:s=0:=by omega
    have e0:(nl+((0:Nat):Int) - nl).toNat=0:=by omega
    have z1:=hv 0 0 (by decide)
    rw[e0] at z1
    have q1:minI (rvR ((p,g,d,()),(sl,su,()),(nl,nu,()),()) 0) (rvR ((p,g,d,()),(sl,su,()),(nl,nu,()),()) 0)=mnS (rvR ((p,g,d,()),(sl,su,()),(nl,nu,()),())) (2*(nl+((0:Nat):Int) - nl).toNat+(0+1)):=by rw[e0,zmA];exact (zyV _).symm
    have q2:maxI (rvR ((p,g,d,()),(sl,su,()),(nl,nu,()),()) 0) (rvR ((p,g,d,()),(sl,su,()),(nl,nu,()),()) 0)=mxS (rvR ((p,g,d,()),(sl,su,()),(nl,nu,()),())) (2*(nl+((0:Nat):Int) - nl).toNat+(0+1)):=by rw[e0,zmD];exact (zyQ _).symm
    have q3:minI (rvI ((p,g,d,()),(sl,su,()),(nl,nu,()),()) 0) (rvI ((p,g,d,()),(sl,su,()),(nl,nu,()),()) 0)=mnS (rvI ((p,g,d,()),(sl,su,()),(nl,nu,()),())) (2*(nl+((0:Nat):Int) - nl).toNat+(0+1)):=by rw[e0,zmA];exact (zyV _).symm
    have q4:maxI (rvI ((p,g,d,()),(sl,su,()),(nl,nu,()),()) 0) (rvI ((p,g,d,()),(sl,su,()),(nl,nu,()),()) 0)=mxS (rvI ((p,g,d,()),(sl,su,()),(nl,nu,()),())) (2*(nl+((0:Nat):Int) - nl).toNat+(0+1)):=by rw[e0,zmD];exact (zyQ _).symm
    have a1:rvR ((p,g,d,()),(sl,su,()),(nl,nu,()),()) 0=_:=congrArg Prod.fst z1
    have a2:rvI ((p,g,d,()),(sl,su,()),(nl,nu,()),()) 0=_:=congrArg Prod.snd z1
    rw[a1] at q1 q2
    rw[a2] at q3 q4
    refine zai.mk ?_
    refine Exists.intro (0+1:Nat) ?_
    refine And.intro (Leaf.mk ?_) ?_
    · repeat' first|exact True.intro|refine And.intro ?_ ?_
      all_goals try ((change _=_<;>try dsimp only)<;>try with_reducible rfl)
      all_goals try omega
      all_goals (first|rfl|exact q1|exact q2|exact q3|exact q4|(rw[e0];rfl))
    exact⟨by decide,by decide⟩
  · rename_i k hk hle s hs2 hlt _ hz _ _ _
    have z1:=hv k s (by omega)
    have q1:=(zyU (rvR ((p,g,d,()),(sl,su,()),(nl,nu,()),())) hz).symm
    have q2:=(zyP (rvR ((p,g,d,()),(sl,su,()),(nl,nu,()),())) hz).symm
    have q3:=(zyU (rvI ((p,g,d,()),(sl,su,()),(nl,nu,()),())) hz).symm
    have q4:=(zyP (rvI ((p,g,d,()),(sl,su,()),(nl,nu,()),())) hz).symm
    have a1:rvR ((p,g,d,()),(sl,su,()),(nl,nu,()),()) (2*(nl+(k:Int) - nl).toNat+s)=_:=congrArg Prod.fst z1
    have a2:rvI ((p,g,d,()),(sl,su,()),(nl,nu,()),()) (2*(nl+(k:Int) - nl).toNat+s)=_:=congrArg Prod.snd z1
    rw[a1] at q1 q2
    rw[a2] at q3 q4
    refine zai.mk ?_
    refine Exists.intro (s+1) ?_
    refine And.intro (Leaf.mk ?_) ?_
    · repeat' first|exact True.intro|refine And.intro ?_ ?_
      all_goals try ((change _=_<;>try dsimp only)<;>try with_reducible rfl)
      all_goals try omega
      all_goals (first|rfl|exact q1|exact q2|exact q3|exact q4|exact (decide_eq_true (Nat.lt_of_lt_of_le hz (Nat.le_succ _))).symm|exact decide_eq_true (Nat.lt_of_lt_of_le hz (Nat.le_succ _)))
    exact⟨(show s+1≤2 by omega),(show 2 - (s+1)<2 - s by omega)⟩
  · rename_i k hk hle s hs2 hlt
    obtain rfl:s=2:=by omega
    have e:2*(nl+(k:Int) - nl).toNat+2=2*(k+1):=by omega
    have e3:nEn ((p,g,d,()),(sl,su,()),(nl,nu,()),())=(nu - nl+1).toNat:=rfl
    refine zai.mk ?_
    refine Exists.intro (k+1) ?_
    refine And.intro (Leaf.mk ?_) ?_
    · repeat' first|exact True.intro|refine And.intro ?_ ?_
      all_goals try ((change _=_<;>try dsimp only)<;>try with_reducible rfl)
      all_goals try omega
      all_goals (first|rfl|(rw[e])|exact (Int.add_assoc _ _ _))
    rw[e3]
    exact⟨(show k+1≤(nu - nl+1).toNat by omega),(show (nu - nl+1).toNat - (k+1)<(nu - nl+1).toNat - k by omega)⟩
  · rename_i k hk hlt
    have e3:nEn ((p,g,d,()),(sl,su,()),(nl,nu,()),())=(nu - nl+1).toNat:=rfl
    rw[e3] at hk
    have e4:k=nEn ((p,g,d,()),(sl,su,()),(nl,nu,()),()):=by rw[e3];omega
    rw[e4]
    exact⟨⟨rfl,rfl⟩,rfl,rfl⟩
end Go.Eng.Ar
namespace Go.Eng.Ar
open Go.Eng Go.Proofs
set_option linter.all false
set_option maxRecDepth 100000
set_option maxHeartbeats 8000000
theorem zwj {f:Nat} {sp:Spec} (h:∀x0,sp.pre x0→Ok f {sp with pre:=fun x=>x=x0}) (he:zdA Tryz.prog f):Ok f sp:=
  ⟨fun w M x vs bs hM hA hp=>(h x hp).1 w M x vs bs hM hA rfl,he⟩
@[reducible] def zrd:Spec:={pats:=[.dat (.sl SpkT)],res:=[{own:=some 53,t:=.sl SpkT}],pre:=fun x=>zrD (List.length (α:=SpkD) x.1),f:=fun x=>(x.1,())}
theorem h139:Ok 139 zrd:=by
  refine mk (ctr:=[]) trivial (nt:=8) Tryz.func139 rfl rfl rfl rfl (by kernel_rfl) (by kernel_rfl) (fun _=>[]) ?_
  rintro⟨(xs:List SpkD),_⟩ ⟨(h0:0<xs.length),(h:xs.length≤2000000000)⟩
  repeat' (intro hzz;(try (rename Two=>hq;cases hq));(try dsimp only at hzz);(try simp only[zad,zac,eqD,inR,big,zab,zB] at hzz);(try (revert hzz;intro _)))
  all_goals try (rename Unit=>hq;clear hq)
  all_goals try ((with_reducible refine Held.mk ?_);(with_reducible (first|refine Frz.mk ?_|refine And.intro (Frz.mk ?_) ?_|refine And.intro ?_ (Frz.mk ?_)));repeat' first|exact True.intro|(change _=_;with_reducible rfl)|refine And.intro ?_ ?_|(with_reducible refine Frz.mk ?_))
  all_goals try (refine Held.mk ?_;(try dsimp only at *);(try simp only[zad,zac,eqD,inR,big,zab,zB] at *))
  all_goals first|exact h0|exact List.nil_append _|(show ([]:List SpkD).length+xs.length≤2147483648;simp;omega)
def Hid (p:Prop):Prop:=p
def zaB (f:Nat→SpkD→SpkD) (xs:List SpkD) (k:Nat):List SpkD:=tab (fun i=>if i<k then f i (spkN xs i) else spkN xs i) xs.length
theorem zaq {f:Nat→SpkD→SpkD} {xs:List SpkD} {k:Nat}:(zaB f xs k).length=xs.length:=zam _ _
theorem zeR {f:Nat→SpkD→SpkD} {xs:List SpkD}:zaB f xs 0=xs:=by
  unfold zaB
  rw[show (fun i=>if i<0 then f i (spkN xs i) else spkN xs i)=fun i=>xs.getD i spkZ from by funext i;simp]
  exact (zk8 spkZ xs).symm
theorem zdf {f:Nat→SpkD→SpkD} {xs:List SpkD} {k i:Nat} (hi:i<xs.length):(zaB f xs k).getD i spkZ=if i<k then f i (spkN xs i) else spkN xs i:=zaE _ _ _ _ hi
theorem ziN {f:Nat→SpkD→SpkD} {xs:List SpkD} {k:Nat} (hk:k<xs.length):(zaB f xs k).set k (f k (spkN xs k))=zaB f xs (k+1):=by
  apply List.ext_getElem?
  intro i
  by_cases hi:i<xs.length
  · have e1:∀j,(zaB f xs j)[i]?=some (if i<j then f i (spkN xs i) else spkN xs i):=fun j=>by
      have:=zdf (f:=f) (k:=j) hi
      rw[List.getD_eq_getElem?_getD,List.getElem?_eq_getElem (by rw[zaq];exact hi),Option.getD_some] at this
      rw[List.getElem?_eq_getElem (by rw[zaq];exact hi),this]
    rw[e1 (k+1),List.getElem?_set]
    by_cases e:k=i
    · subst e
      rw[if_pos rfl,if_pos (by rw[zaq];exact hi),if_pos (Nat.lt_succ_self k)]
    · rw[if_neg e,e1 k]
      by_cases h:i<k
      · rw[if_pos h,if_pos (by omega)]
      · rw[if_neg h,if_neg (by omega)]
  · rw[List.getElem?_eq_none (by rw[List.length_set,zaq];omega),List.getElem?_eq_none (by rw[zaq];omega)]
noncomputable def w89 (ann:St→LoopAnn):InlF:={nt:=25,np:=2,body:=zcM Tryz.f89,rs:=[.cell 4 41],anns:=[ann]}
theorem ok89 (ann:St→LoopAnn):zqA Tryz.prog [(89,w89 ann)]:=zrI Tryz.func89 rfl rfl rfl (by kernel_rfl) (by kernel_rfl) rfl (by kernel_rfl)
end Go.Eng.Ar
namespace Go.Eng.Ar
open Go.Eng Go.Proofs Go.ChangeShapes Go.WideShapes Go.ChangeAt Go.RowKit
set_option linter.all false
set_option maxRecDepth 100000
abbrev zeD:List (String×DataW Unit):=Go.Proofs.YtjgfbifggolibaaGreatDoor.Rows.arrayWaysRow.laid
theorem own:ownKnob Tryz.prog.godebug=none:=by kernel_rfl
theorem zwt:laidOutB Tryz.prog=true:=by kernel_rfl
theorem gSyn:Tryz.prog.globalNamed "strconv.ErrSyntax" = some 3:=by kernel_rfl
theorem tSyn:(Tryz.prog.globals[3]?).map (·.type)=some 215:=by kernel_rfl
theorem gRng:Tryz.prog.globalNamed "strconv.ErrRange" = some 4:=by kernel_rfl
theorem tRng:(Tryz.prog.globals[4]?).map (·.type)=some 215:=by kernel_rfl
theorem gPow:Tryz.prog.globalNamed "internal/strconv.uint64pow10" = some 2:=by kernel_rfl
theorem tPow:(Tryz.prog.globals[2]?).map (·.type)=some 257:=by kernel_rfl
theorem uPow:∃e,Tryz.prog.underlying 257=some (.array 20 e)∧Tryz.prog.underlying e=some (.int .u64)∧Tryz.prog.cellsOf e=1∧Tryz.prog.cellsOf 257=20:=⟨_,Tryz.underlying257,by kernel_rfl,by kernel_rfl,by kernel_rfl⟩
section
variable {P:Program} {W:World}
theorem zou {n:String} {g:Nat} {cs:Array Value} (hg:P.globalNamed n=some g) (hv:W.var? P n=some cs):∃el f,W.heap[g]?=some (.cells cs el f):=by
  simp only[World.var?,hg,Option.bind_some] at hv
  split at hv
  · rename_i c el f hh
    simp only[Option.some.injEq] at hv
    exact⟨el,f,by rw[hh,hv]⟩
  · cases hv
theorem zvn {n nm:String} {d:DataW Unit} {r:List (String×DataW Unit)} {g:Nat} {ti:TypeId} {ms:Array (String×TypeId)}
    (h:laidMet P ((n,.iface nm d)::r) W) (hg:P.globalNamed n=some g) (ht:(P.globals[g]?).map (·.type)=some ti) (hi:P.underlying ti=some (.interface ms)) :
    ∃c el f,W.heap[g]?=some (.cells c el f)∧c.size=1∧∃u v,c.toList=[.iface u v]:=by
  obtain⟨ps,⟨g0,t0,cs0,f0,p0,q0,hg0,ht0,hv0,hd0,_,_⟩,_,_⟩:=h
  obtain rfl:=Option.some.inj (hg.symm.trans hg0)
  obtain rfl:=Option.some.inj (ht.symm.trans ht0)
  obtain⟨el,f,hh⟩:=zou hg hv0
  obtain⟨f1,u,v,e,_,_⟩:=iface_of_trod hi hd0
  exact⟨cs0,el,f,hh,by rw[←Array.length_toList,e];rfl,u,v,e⟩
theorem zwz {n:String} {k:IntKind} {l:List Int} {r:List (String×DataW Unit)} {g:Nat} {t e:TypeId} {m:Nat}
    (h:laidMet P ((n,.agg (l.map fun a=>.lit (.int k a)))::r) W) (hg:P.globalNamed n=some g) (ht:(P.globals[g]?).map (·.type)=some t)
    (hu:P.underlying t=some (.array m e)) (he:P.underlying e=some (.int k)) (hc:P.cellsOf e=1) (hct:P.cellsOf t=m) (hl:l.length=m) :
    ∃c el f,W.heap[g]?=some (.cells c el f)∧c.toList=l.map (Value.int k):=by
  obtain⟨ps,⟨g0,t0,cs0,f0,p0,q0,hg0,ht0,hv0,hd0,_,_⟩,_,_⟩:=h
  obtain rfl:=Option.some.inj (hg.symm.trans hg0)
  obtain rfl:=Option.some.inj (ht.symm.trans ht0)
  obtain⟨el,f,hh⟩:=zou hg hv0
  refine⟨cs0,el,f,hh,?_⟩
  obtain⟨xs,n',_,hx,hlen,hn,hel⟩:=DataW.trod_array hu hd0
  rw[hct] at hlen
  simp only[Prod.mk.injEq,DataW.agg.injEq] at hx
  obtain⟨hx,_⟩:=hx
  refine List.ext_getElem? fun i=>?_
  rcases Nat.lt_or_ge i m with hi|hi
  · have hE:=hel i hi
    rw[hc] at hE
    have hxi:xs[i]?=some xs[i]:=List.getElem?_eq_getElem (by omega)
    rw[hxi] at hE
    obtain⟨a,e1,e2,_⟩:=DataW.trod_int he hE
    have hd:xs[i].1=.lit (.int k a):=by rw[e2]
    have h1:(xs.map (·.1))[i]?=some (.lit (.int k a)):=by rw[List.getElem?_map,hxi,Option.map_some,hd]
    rw[←hx,List.getElem?_map] at h1
    have h2:l[i]?=some a:=by
      cases hq:l[i]? with
      | none=>rw[hq] at h1;cases h1
      | some b=>
        rw[hq] at h1
        simp only[Option.map_some,Option.some.injEq,DataW.lit.injEq,Lit.int.injEq,true_and] at h1
        rw[h1]
    rw[List.getElem?_map,h2]
    have h3:((cs0.toList.drop (i*1)).take 1)[0]?=some (.int k a):=by rw[e1];rfl
    rw[List.getElem?_take,if_pos (by decide),List.getElem?_drop] at h3
    simpa using h3
  · rw[List.getElem?_eq_none (by rw[hlen];exact hi),List.getElem?_eq_none (by rw[List.length_map,hl];exact hi)]
end
theorem zmj {V:View} {k:IntKind}:∀(n:Nat) (x:(zbs (List.replicate n (.int k))).Den),Rep V (zbs (List.replicate n (.int k))) x ((chL (.int k) n x).map (Value.int k))
  | 0,_=>rfl
  | n+1,x=>⟨[.int k x.1],_,rfl,rfl,zmj n x.2⟩
def zqB (W:World):Prop:=∃b0 b1 mx,zdo OB W (fun _=>False) [.gw 3 .err,.gw 4 .err,.gw 2 PowT,.gw 1 I64] (b0,b1,powD,mx,()) [] []
theorem zuk {W:World} (h:laidMetH Tryz.prog zeD W) (hs:W.ShapedOpen Tryz.prog):zqB W:=by
  rw[MakeChecks.laidMetH_plain _ _ _ (by kernel_rfl)] at h
  have hp:=h.tail.tail
  obtain⟨e,u1,u2,u3,u4⟩:=uPow
  obtain⟨c2,el2,f2,hh2,hl2⟩:=zwz (l:=[1,10,100,1000,10000,100000,1000000,10000000,100000000,1000000000,10000000000,100000000000,1000000000000,10000000000000,100000000000000,1000000000000000,10000000000000000,100000000000000000,1000000000000000000,10000000000000000000]) (k:=.u64) hp gPow tPow u1 u2 u3 u4 rfl
  obtain⟨ms,u215⟩:∃ms,Tryz.prog.underlying 215=some (.interface ms):=⟨_,Tryz.underlying215⟩
  obtain⟨c1,el1,f1,hh1,hn1,t1,v1,hl1⟩:=zvn hp.tail.tail gRng tRng u215
  obtain⟨c0,el0,f0,hh0,hn0,t0,v0,hl0⟩:=zvn hp.tail.tail.tail gSyn tSyn u215
  have h0:((begin Tryz.prog (fun _ _=>0) default).world.heap[1]?).bind Obj.row?=some (#[.int .i64 0],3):=by kernel_rfl
  obtain⟨mx,hmx⟩:=cell_of_shapedOpen_int hs (g:=1) (of_decide_eq_true (by kernel_rfl)) h0 rfl (by kernel_rfl) (by kernel_rfl) Tryz.underlying3
  obtain⟨c3,hh3,hn3,_⟩:=hs.1 1 _ _ (of_decide_eq_true (by kernel_rfl)) h0
  have hl3:c3.toList=[.int .i64 mx]:=by
    simp only[World.cell?,hh3] at hmx
    have hn3:c3.size=1:=hn3
    match hc:c3.toList,(show c3.toList.length=1 by rw[Array.length_toList];exact hn3) with
    | [v],_=>
      have:c3 = #[v]:=by rw[←Array.toArray_toList (xs:=c3),hc]
      rw[this] at hmx
      simp at hmx
      rw[hmx]
  refine⟨true,true,mx,⟨c0,el0,f0,hh0,id,hn0,?_⟩,⟨c1,el1,f1,hh1,id,hn1,?_⟩,⟨c2,el2,f2,hh2,id,?_,?_⟩,⟨c3,_,_,hh3,id,hn3,?_⟩,rfl,rfl⟩
  · exact .inr ⟨rfl,t0,v0,hl0⟩
  · exact .inr ⟨rfl,t1,v1,hl1⟩
  · rw[←Array.length_toList,hl2];rfl
  · have:Rep (fun b c=>¬False∧∃el f,W.heap[b]?=some (.cells c el f)) PowT powD _:=zmj 20 powD
    rw[hl2]
    have e:chL (.int .u64) 20 powD=[1,10,100,1000,10000,100000,1000000,10000000,100000000,1000000000,10000000000,100000000000,1000000000000,10000000000000,100000000000000,1000000000000000,10000000000000000,100000000000000000,1000000000000000000,10000000000000000000]:=by decide +kernel
    rw[e] at this
    exact this
  · rw[hl3];rfl
theorem zwx {W W':World} (h:Below W.heap.size W W') (may:MemPlace→Prop):W.keptBut W' may:=by
  refine⟨h.os,h.output,fun i hi=>?_⟩
  rw[h.block i hi]
  split
  · rename_i h1 h2
    rw[h1] at h2
    simp only[Option.some.injEq,Obj.cells.injEq] at h2
    obtain⟨rfl,rfl,rfl⟩:=h2
    exact⟨rfl,rfl,rfl,fun _ _=>rfl⟩
  · rename_i h1 h2
    rw[h1] at h2
    simp only[Option.some.injEq,Obj.map.injEq] at h2
    obtain⟨rfl,rfl⟩:=h2
    exact .inr ⟨rfl,rfl⟩
  · rfl
def ziw (P:Program):List TypeId→Bool
  | []=>true
  | t::r=>P.readableRec t&&decide (t<P.types.size)&&ziw P r
theorem zfY {P:Program} (hl:laidOutB P=true) {H:Type} {enc:TypeId×Value→H} {W W':World} (hb:Below W.heap.size W W'):∀ {ts:List TypeId} {vs:List Value} {ds:List (DataW H)} {ps:List MemPlace},ziw P ts=true→
    DataW.TrodAll enc P W 0 (fun _=>true) true ts vs ds ps→DataW.TrodAll enc P W' 0 (fun b=>decide (b<W.heap.size)) true ts vs ds ps
  | [],[],[],_,_,h=>h
  | t::ts,v::vs,d::ds,ps,hr,⟨p,q,h1,h2,h3⟩=>by
    simp only[ziw,Bool.and_eq_true,decide_eq_true_eq] at hr
    have hlt:=DataW.TrodAll.lt (show DataW.TrodAll enc P W 0 (fun _=>true) true (t::ts) (v::vs) (d::ds) ps from ⟨p,q,h1,h2,h3⟩)
    subst h3
    exact⟨p,q,Below.trod hl hr.1.1 hr.1.2 h1 hb (fun x hx=>hlt x (List.mem_append.2 (.inl hx))),zfY hl hb hr.2 h2,rfl⟩
theorem zue {H:Type} {enc:TypeId×Value→H} {f:Func} {s:ChangeSpec} {W W':World} {args:Array Value} {ds gs:List (DataW H)} {before:List MemPlace}
    (hW:DataW.Whole enc Tryz.prog f.params.toList s.vars false W args.toList ds gs before) (hv:s.vars=[]) (hr:f.resultTypes.toList=[4]) (hs:f.resultTypes.size=1) (hfn:s.fn H (ds++gs) = {results:=[.lit (.bool true)],args:=ds}) (hread:ziw Tryz.prog f.params.toList=true)
    (hb:Below W.heap.size W W'):s.post enc Tryz.prog f false true false false W args (.bool true) W':=by
  have hW0:=hW
  obtain⟨p,q,hA,hV,rfl,_,_⟩:=hW
  rw[hv] at hV
  obtain⟨rfl,rfl⟩:=trodVars_none hV
  refine⟨ds,[],p++[],[],p,[],hW0,?_,?_,?_,zwx hb _,fun h=>by cases h⟩
  · rw[hfn,hr,hs]
    exact trodAll_cons_mk (shut_bool Tryz.underlying4 true) trodAll_mk0
  · rw[hfn]
    exact zfY zwt hb hread hA
  · rw[hfn,hv]
    rfl
theorem zhY (os:Os) (args:Array Value):laidMetH Tryz.prog zeD ((World.laidAll Tryz.prog os zeD).forCall (fun _ _=>0) ⟨#[],args,[]⟩).memory:=by
  rw[MakeChecks.laidMetH_plain _ _ _ (by kernel_rfl)];exact laidMet_laidAll _ (by kernel_rfl) (by kernel_rfl)
theorem zfe {F:Nat} {fn:Func} {s:ChangeSpec} (h:∀(H:Type) (enc:TypeId×Value→H) (W:World) (args:Array Value) (ds:List (DataW H)) (ps:List MemPlace) (base:Nat),zqB W→DataW.TrodAll enc Tryz.prog W 0 (fun _=>true) true fn.params.toList args.toList ds ps→(∀(j:Nat) t v,fn.params.toList[j]?=some t→args.toList[j]?=some v→Value.okWide Tryz.prog W .any base t v)→
      Calls Tryz.prog F args W fun e W'=>e=.returned (.bool true)∧Below W.heap.size W W')
    (hf:Tryz.prog.funcs[F]?=some fn) (hinit:Tryz.prog.inits.idxOf? F=none) (hv:s.vars=[]) (hr:fn.resultTypes.toList=[4]) (hs:fn.resultTypes.size=1)
    (hread:ziw Tryz.prog fn.params.toList=true) (hfn:∀(H:Type) (ds:List (DataW H)),ds.length=fn.params.size→s.fn H (ds++[]) = {results:=[.lit (.bool true)],args:=ds})
    (os:Os) (started:os.Started) (H:Type) (enc:TypeId×Value→H)
    (wit:∃(w:World) (tape:Tape) (i:Input),w.os=os∧(w.forCall tape i).Shaped Tryz.checked.prog∧i.vars=[]∧Input.okWide Tryz.checked.prog (w.forCall tape i) .any w.heap.size F i∧
      ((s.pre enc Tryz.checked.prog fn [] false (w.forCall tape i).memory i.args∧laidMetH Tryz.prog zeD (w.forCall tape i).memory)∧sizedMet enc Tryz.checked.prog fn (OpenSpec.ofChange s) false (w.forCall tape i).memory i.args)∧({}:Assume).holds Tryz.checked.prog (lone (Frame.enter Tryz.checked.prog F i.args .normal) [] (w.forCall tape i))) :
    ReturnsInHanded {} Tryz.checked os F .any (fun w args=>(s.pre enc Tryz.prog fn [] false w args∧laidMetH Tryz.prog zeD w)∧sizedMet enc Tryz.prog fn (OpenSpec.ofChange s) false w args) (s.post enc Tryz.prog fn false true false false):=by
  refine returnsInHanded_of_calls (C:=Tryz.checked) own started hinit wit ?_
  intro w tape i _ hsh _ hok hpre hholds
  obtain⟨_,_,_,fn',hfn',_,_,_,_,hval⟩:=hok
  have e:fn'=fn:=Option.some.inj (hfn'.symm.trans hf)
  subst e
  obtain⟨⟨⟨ds,gs,before,hw,hc⟩,hx⟩,hz⟩:=hpre
  have hW0:=DataW.Whole.of_heap (w':=w.forCall tape i) (by rfl) hw
  have hL:laidMetH Tryz.prog zeD (w.forCall tape i):=hx.of_heap (by rfl)
  have hW:=hW0
  obtain⟨p,q,hA,hV,rfl,_,_⟩:=hW
  have hV':DataW.TrodVars enc Tryz.prog (w.forCall tape i) (fun _=>true) [] gs q:=by rw[←hv];exact hV
  obtain⟨rfl,rfl⟩:=trodVars_none hV'
  have hlen:ds.length=fn'.params.size:=by
    have:=(Go.trodAll_length hA).2
    simpa using this
  refine (h _ _ _ _ _ _ _ (zuk hL hsh) hA (fun j t v h1 h2=>hval j t v (by simpa using h1) (by simpa using h2))).mono fun e W' ⟨he,hb⟩=>?_
  subst he
  exact ChangeSpec.post_blind (zue hW0 hv hr hs (hfn H ds hlen) hread hb)
end Go.Eng.Ar
