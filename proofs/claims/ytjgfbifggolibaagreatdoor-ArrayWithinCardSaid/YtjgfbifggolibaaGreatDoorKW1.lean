/- Texts A16 A17 F0 F1 F2 A24 A25 A27 W10, as far as they are used. Conditions: each lemma's own. -/
import Derived.Test.YtjgfbifggolibaaGreatDoorKM6
namespace Go.Eng.Ar
open Go.Eng Go.Proofs
set_option linter.all false
set_option maxRecDepth 100000
set_option maxHeartbeats 8000000
theorem ztJ {x:RayD} (h:goodRay x) (j:Nat):(-100000000≤rvR x j∧rvR x j≤100000000)∧(-100000000≤rvI x j∧rvI x j≤100000000):=by
  refine zuU ?_
  have h1:=ziJ h.g h.s
  have h2:=ziJ h.g (show 0≤(x.2.1.2.1:Int)∧(x.2.1.2.1:Int)≤100000 from ⟨Int.le_trans h.s.1 h.su.1,h.su.2⟩)
  split
  · exact h1
  · exact h2
theorem zrX {x:RayD} (h:goodRay x):∃k,2*nEn x=k+1:=by
  obtain ⟨n,hn⟩:∃n:Nat,nEn x=n+1:=⟨nEn x - 1,by
    have h1:(x.2.2.1.1:Int)≤(x.2.2.1.2.1:Int):=h.nu.1
    have h2:0<(x.2.2.1.2.1:Int) - (x.2.2.1.1:Int)+1:=Int.lt_add_one_iff.2 (Int.sub_nonneg.2 h1)
    have h3:0<nEn x:=Int.lt_toNat.2 h2
    omega⟩
  exact⟨2*n+1,by omega⟩
structure endBd (e:EndD):Prop where
  a : -100000000≤(e.1.1:Int)∧(e.1.1:Int)≤(e.1.2.1:Int)∧(e.1.2.1:Int)≤100000000
  b : -100000000≤(e.2.1.1:Int)∧(e.2.1.1:Int)≤(e.2.1.2.1:Int)∧(e.2.1.2.1:Int)≤100000000
theorem zwR {x:RayD} (h:goodRay x):endBd (endR x):=by
  obtain⟨k,hk⟩:=zrX h
  have h1:=zgf (f:=rvR x) (B:=100000000) (fun i=>(ztJ h i).1) k
  have h2:=zgf (f:=rvI x) (B:=100000000) (fun i=>(ztJ h i).2) k
  refine⟨?_,?_⟩
  · show -100000000≤mnS (rvR x) (2*nEn x)∧mnS (rvR x) (2*nEn x)≤mxS (rvR x) (2*nEn x)∧mxS (rvR x) (2*nEn x)≤100000000
    rw[hk,znW,znV];omega
  · show -100000000≤mnS (rvI x) (2*nEn x)∧mnS (rvI x) (2*nEn x)≤mxS (rvI x) (2*nEn x)∧mxS (rvI x) (2*nEn x)≤100000000
    rw[hk,znW,znV];omega
def e0 (L:List RayD) (k:Nat):Int:=sm (fun i=>(endR (rayN L i)).1.1) k
def e1 (L:List RayD) (k:Nat):Int:=sm (fun i=>(endR (rayN L i)).1.2.1) k
def e2 (L:List RayD) (k:Nat):Int:=sm (fun i=>(endR (rayN L i)).2.1.1) k
def e3 (L:List RayD) (k:Nat):Int:=sm (fun i=>(endR (rayN L i)).2.1.2.1) k
theorem zih {f g:Nat→Int}:∀k:Nat,(∀i,i<k→f i≤g i)→sm f k≤sm g k
  | 0,_=>Int.le_refl _
  | k+1,h=>Int.add_le_add (zih k fun i hi=>h i (by omega)) (h k (by omega))
theorem zwS {L:List RayD} {k:Nat} (h:∀i,i<k→goodRay (rayN L i)) (hk:k≤8):(-800000000≤e0 L k∧e0 L k≤e1 L k∧e1 L k≤800000000)∧(-800000000≤e2 L k∧e2 L k≤e3 L k∧e3 L k≤800000000):=by
  have b:=fun i hi=>zwR (h i hi)
  have h0:=zjv (f:=fun i=>(endR (rayN L i)).1.1) (B:=100000000) k fun i hi=>⟨(b i hi).a.1,Int.le_trans (b i hi).a.2.1 (b i hi).a.2.2⟩
  have h1:=zjv (f:=fun i=>(endR (rayN L i)).1.2.1) (B:=100000000) k fun i hi=>⟨Int.le_trans (b i hi).a.1 (b i hi).a.2.1,(b i hi).a.2.2⟩
  have h2:=zjv (f:=fun i=>(endR (rayN L i)).2.1.1) (B:=100000000) k fun i hi=>⟨(b i hi).b.1,Int.le_trans (b i hi).b.2.1 (b i hi).b.2.2⟩
  have h3:=zjv (f:=fun i=>(endR (rayN L i)).2.1.2.1) (B:=100000000) k fun i hi=>⟨Int.le_trans (b i hi).b.1 (b i hi).b.2.1,(b i hi).b.2.2⟩
  have h4:e0 L k≤e1 L k:=zih k fun i hi=>(b i hi).a.2.1
  have h5:e2 L k≤e3 L k:=zih k fun i hi=>(b i hi).b.2.1
  refine⟨⟨?_,h4,?_⟩,?_,h5,?_⟩
  · have : -((k:Int)*100000000)≤e0 L k:=h0.1
    omega
  · have:e1 L k≤(k:Int)*100000000:=h1.2
    omega
  · have : -((k:Int)*100000000)≤e2 L k:=h2.1
    omega
  · have:e3 L k≤(k:Int)*100000000:=h3.2
    omega
def endT (L:List RayD):EndD:=((e0 L L.length,e1 L L.length,()),(e2 L L.length,e3 L L.length,()),())
def endC (o:List RayD×Int×Unit):EndD:=if o.2.1=0 then endT o.1 else ((0,0,()),(0,0,()),())
@[reducible] def znC:Spec:={pats:=[.dat ArrT,.dat zbA],res:=[{t:=zxl},{t:=I64}],pre:=fun x=>pLen (List.length (α:=SpkD) x.1.2.2.1),f:=fun x=>(endC (zcr x.1.1 x.1.2.1 x.1.2.2.1 x.2.1),zcG x.1.1 x.1.2.1 x.1.2.2.1 x.2.1,())}
def zAM (l:List RayD):LoopAnn:={σ:=Nat,pat:=fun k=>[sI 25 k,cI 8 0 (e0 l k),cI 8 1 (e1 l k),cI 8 2 (e2 l k),cI 8 3 (e3 l k)],inv:=fun k=>k≤l.length,meas:=fun k=>l.length - k}
theorem h47:Ok 47 znC:=by
  refine mkX (X:=xF4) (hX:=zot) (ctr:=[(93,zvS),(111,zx0)]) ⟨h93,h111,trivial⟩ (nt:=55) Tryz.func47 rfl rfl rfl rfl (by kernel_rfl) (by kernel_rfl) (fun x=>[fun _=>zAM (zcr x.1.1 x.1.2.1 x.1.2.2.1 x.2.1).1]) ?_
  rintro⟨⟨(r:Int),(v:Int),(xs:List SpkD),⟨⟩⟩,⟨(pa:Int),(pb:Int),(pc:Int),⟨⟩⟩,⟨⟩⟩ (hp:pLen xs.length)
  obtain⟨L,e,he,hl,hg,hz⟩:=ziD r v xs (pa,pb,pc,())
  have hb:=fun (k:Nat) (hk:k≤L.length)=>zwS (L:=L) (k:=k) (fun i hi=>hg i (by omega)) (by omega)
  repeat' (intro hzz;(try (rename Two=>hq;cases hq));(try dsimp only at hzz);(try simp only[zad,zac,eqD,inR,big,zab,zB] at hzz);(try simp only[zad,zac,eqD,inR,big,zab,zB,he,pLen,Int.toNat_natCast] at hzz);(try (revert hzz;intro _)))
  all_goals try (rename Unit=>hq;clear hq)
  all_goals try ((with_reducible refine Held.mk ?_);(with_reducible (first|refine Frz.mk ?_|refine And.intro (Frz.mk ?_) ?_|refine And.intro ?_ (Frz.mk ?_)));repeat' first|exact True.intro|(change _=_;with_reducible rfl)|refine And.intro ?_ ?_|(with_reducible refine Frz.mk ?_))
  all_goals try (refine Held.mk ?_;(try dsimp only at *);(try simp only[zad,zac,eqD,inR,big,zab,zB] at *);(try simp only[zad,zac,eqD,inR,big,zab,zB,he,pLen,Int.toNat_natCast] at *))
  all_goals try omega
  all_goals try simp only[he,Int.toNat_natCast]
  · rename_i h
    have q:endC (L,e,())=((0,0,()),(0,0,()),()):=if_neg h
    rw[q];exact⟨⟨⟨rfl,rfl⟩,rfl,rfl⟩,hz⟩
  · rename_i h
    refine zai.mk ?_
    refine Exists.intro (0:Nat) ?_
    refine And.intro (Leaf.mk ?_) ?_
    · repeat' first|exact True.intro|refine And.intro ?_ ?_
      all_goals try ((change _=_<;>try dsimp only)<;>try with_reducible rfl)
      all_goals try omega
      all_goals (first|rfl|exact e)
    exact Nat.zero_le _
  · rename_i k hk hlt
    exact hg k (by omega)
  · rename_i k hk hlt _
    have:=(hb (k+1) (by omega)).1
    exact⟨Int.le_trans (by decide) this.1,Int.le_trans (Int.le_trans this.2.1 this.2.2) (by decide)⟩
  · rename_i k hk hlt _
    have:=(hb (k+1) (by omega)).1
    exact⟨Int.le_trans (by decide) (Int.le_trans this.1 this.2.1),Int.le_trans this.2.2 (by decide)⟩
  · rename_i k hk hlt _ _
    have:=(hb (k+1) (by omega)).2
    exact⟨Int.le_trans (by decide) this.1,Int.le_trans (Int.le_trans this.2.1 this.2.2) (by decide)⟩
  · rename_i k hk hlt _ _
    have:=(hb (k+1) (by omega)).2
    exact⟨Int.le_trans (by decide) (Int.le_trans this.1 this.2.1),Int.le_trans this.2.2 (by decide)⟩
  · rename_i k hk hlt _ _ _
    refine zai.mk ?_
    refine Exists.intro (k+1) ?_
    refine And.intro (Leaf.mk ?_) ?_
    · repeat' first|exact True.intro|refine And.intro ?_ ?_
      all_goals try ((change _=_<;>try dsimp only)<;>try with_reducible rfl)
      all_goals try omega
      all_goals (first|rfl|exact e)
    exact⟨by show k+1≤L.length;omega,by show L.length - (k+1)<L.length - k;omega⟩
  · rename_i h k hk hlt
    have e2:k=L.length:=by omega
    subst e2
    have q:endC (L,e,())=endT L:=if_pos h
    rw[q];exact⟨⟨⟨rfl,rfl⟩,rfl,rfl⟩,h.symm.trans hz⟩
abbrev R64 (n:Int):Prop:=-9223372036854775808≤n∧n≤9223372036854775807
def lstI (lo hi:Int):Int:=maxI (maxI 0 lo) (-hi)
def mstI (lo hi:Int):Int:=maxI hi (-lo)
def sizT (e:EndD):Int×Int×Unit:=(rtI (lstI e.1.1 e.1.2.1*lstI e.1.1 e.1.2.1+lstI e.2.1.1 e.2.1.2.1*lstI e.2.1.1 e.2.1.2.1),rtU (mstI e.1.1 e.1.2.1*mstI e.1.1 e.1.2.1+mstI e.2.1.1 e.2.1.2.1*mstI e.2.1.1 e.2.1.2.1),())
theorem zpg {lo hi:Int} (h : -800000000≤lo∧lo≤hi∧hi≤800000000):0≤lstI lo hi∧lstI lo hi≤mstI lo hi∧mstI lo hi≤800000000:=by
  unfold lstI mstI maxI
  refine⟨?_,?_,?_⟩<;>(repeat' split)<;>omega
def sizC (o:List RayD×Int×Unit):Int×Int×Unit:=if o.2.1=0 then sizT (endT o.1) else (0,0,())
@[reducible] def zq3:Spec:={pats:=[.dat ArrT,.dat zbA],res:=[{t:=zdn},{t:=I64}],pre:=fun x=>pLen (List.length (α:=SpkD) x.1.2.2.1),f:=fun x=>(sizC (zcr x.1.1 x.1.2.1 x.1.2.2.1 x.2.1),zcG x.1.1 x.1.2.1 x.1.2.2.1 x.2.1,())}
theorem h48:Ok 48 zq3:=by
  refine mkX (X:=xF4) (hX:=zot) (ctr:=[(47,znC),(112,zoI),(113,zoJ)]) ⟨h47,zzb,zAB,trivial⟩ (nt:=56) Tryz.func48 rfl rfl rfl rfl (by kernel_rfl) (by kernel_rfl) (fun x=>[]) ?_
  rintro⟨⟨(r:Int),(v:Int),(xs:List SpkD),⟨⟩⟩,⟨(pa:Int),(pb:Int),(pc:Int),⟨⟩⟩,⟨⟩⟩ (hp:pLen xs.length)
  obtain⟨L,e,he,hl,hg,hz⟩:=ziD r v xs (pa,pb,pc,())
  have hb:=zwS (L:=L) (k:=L.length) (fun i hi=>hg i hi) hl
  by_cases hc:e=0
  · have q:endC (L,e,())=((e0 L L.length,e1 L L.length,()),(e2 L L.length,e3 L L.length,()),()):=if_pos hc
    have q2:sizC (L,e,())=sizT ((e0 L L.length,e1 L L.length,()),(e2 L L.length,e3 L L.length,()),()):=if_pos hc
    have hc2:zcG r v xs (pa,pb,pc,())=0:=hz.symm.trans hc
    generalize e0 L L.length=a0 at *
    generalize e1 L L.length=a1 at *
    generalize e2 L L.length=a2 at *
    generalize e3 L L.length=a3 at *
    have b1:=zpg hb.1
    have b2:=zpg hb.2
    have s1:=zeH b1.1 (Int.le_trans b1.2.1 b1.2.2)
    have s2:=zeH b2.1 (Int.le_trans b2.2.1 b2.2.2)
    have s3:=zeH (Int.le_trans b1.1 b1.2.1) b1.2.2
    have s4:=zeH (Int.le_trans b2.1 b2.2.1) b2.2.2
    have r1:R64 (-a1):=by omega
    have r2:R64 (-a0):=by omega
    have r3:R64 (-a3):=by omega
    have r4:R64 (-a2):=by omega
    have p1:R64 (lstI a0 a1*lstI a0 a1):=by omega
    have p2:R64 (mstI a0 a1*mstI a0 a1):=by omega
    have p3:R64 (lstI a2 a3*lstI a2 a3):=by omega
    have p4:R64 (mstI a2 a3*mstI a2 a3):=by omega
    have p5:R64 (0+lstI a0 a1*lstI a0 a1):=by omega
    have p6:R64 (0+mstI a0 a1*mstI a0 a1):=by omega
    have p7:R64 (0+lstI a0 a1*lstI a0 a1+lstI a2 a3*lstI a2 a3):=by omega
    have p8:R64 (0+mstI a0 a1*mstI a0 a1+mstI a2 a3*mstI a2 a3):=by omega
    have p9:zfx (0+lstI a0 a1*lstI a0 a1+lstI a2 a3*lstI a2 a3):=by constructor<;>omega
    have pA:zfx (0+mstI a0 a1*mstI a0 a1+mstI a2 a3*mstI a2 a3):=by constructor<;>omega
    have pB:rtI (0+lstI a0 a1*lstI a0 a1+lstI a2 a3*lstI a2 a3)=rtI (lstI a0 a1*lstI a0 a1+lstI a2 a3*lstI a2 a3):=by rw[Int.zero_add]
    have pC:rtU (0+mstI a0 a1*mstI a0 a1+mstI a2 a3*mstI a2 a3)=rtU (mstI a0 a1*mstI a0 a1+mstI a2 a3*mstI a2 a3):=by rw[Int.zero_add]
    repeat' (intro hzz;(try (rename Two=>hq;cases hq));(try dsimp only at hzz);(try simp only[zad,zac,eqD,inR,big,zab,zB] at hzz);(try simp only[zad,zac,eqD,inR,big,zab,zB,he,pLen,hc2,q] at hzz);(try (first|contradiction|(exfalso;omega)));(try (revert hzz;intro _)))
    all_goals try (rename Unit=>hq;clear hq)
    all_goals try ((with_reducible refine Held.mk ?_);(with_reducible (first|refine Frz.mk ?_|refine And.intro (Frz.mk ?_) ?_|refine And.intro ?_ (Frz.mk ?_)));repeat' first|exact True.intro|(change _=_;with_reducible rfl)|refine And.intro ?_ ?_|(with_reducible refine Frz.mk ?_))
    all_goals try (refine Held.mk ?_;(try dsimp only at *);(try simp only[zad,zac,eqD,inR,big,zab,zB] at *);(try simp only[zad,zac,eqD,inR,big,zab,zB,he,pLen,hc2,q] at *))
    all_goals try omega
    all_goals try simp only[he,q,q2]
    all_goals repeat' first|exact r1|exact r2|exact r3|exact r4|exact p1|exact p2|exact p3|exact p4|exact p5|exact p6|exact p7|exact p8|exact p9|exact pA|exact pB|exact pC|exact hz|exact hz.symm|refine And.intro ?_ ?_
  · have q:endC (L,e,())=((0,0,()),(0,0,()),()):=if_neg hc
    have q2:sizC (L,e,())=(0,0,()):=if_neg hc
    have hc2:¬zcG r v xs (pa,pb,pc,())=0:=fun h=>hc (hz.trans h)
    repeat' (intro hzz;(try (rename Two=>hq;cases hq));(try dsimp only at hzz);(try simp only[zad,zac,eqD,inR,big,zab,zB] at hzz);(try simp only[zad,zac,eqD,inR,big,zab,zB,he,pLen,hc2,q] at hzz);(try (first|contradiction|(exfalso;omega)));(try (revert hzz;intro _)))
    all_goals try (rename Unit=>hq;clear hq)
    all_goals try ((with_reducible refine Held.mk ?_);(with_reducible (first|refine Frz.mk ?_|refine And.intro (Frz.mk ?_) ?_|refine And.intro ?_ (Frz.mk ?_)));repeat' first|exact True.intro|(change _=_;with_reducible rfl)|refine And.intro ?_ ?_|(with_reducible refine Frz.mk ?_))
    all_goals try (refine Held.mk ?_;(try dsimp only at *);(try simp only[zad,zac,eqD,inR,big,zab,zB] at *);(try simp only[zad,zac,eqD,inR,big,zab,zB,he,pLen,hc2,q] at *))
    all_goals try omega
    all_goals try simp only[he,q,q2]
    all_goals exact⟨trivial,trivial⟩
def gL (x:RayD):Int:=x.1.2.1*x.2.1.1
def gU (x:RayD):Int:=x.1.2.1*x.2.1.2.1
def n0 (L:List RayD) (k:Nat):Int:=sm (fun i=>gL (rayN L i)*gL (rayN L i)) k
def n1 (L:List RayD) (k:Nat):Int:=sm (fun i=>gU (rayN L i)*gU (rayN L i)) k
end Go.Eng.Ar
namespace Go.Eng.Ar
open Go.Eng Go.Proofs
set_option linter.all false
set_option maxRecDepth 100000
set_option maxHeartbeats 8000000
abbrev zjy (r v:Int) (xs:List SpkD) (p:zan):Prop:=zcG r v xs p=0
theorem ziX {r v:Int} {xs:List SpkD} {p:zan} (h:zjy r v xs p):goodArr r v xs∧inP p∧(∀i,i<xs.length→100≤sqP (spkN xs i).1 p)∧∀i,i<xs.length→goodRay (zkY r v p (spkN xs i)):=by
  unfold zjy zcG at h
  split at h
  · rename_i h1
    have ha:=zjo h1
    have hs:=zkN h
    have hf:∀i,i<xs.length→100≤sqP (spkN xs i).1 p:=fun i hi=>zsF (ha.sp i hi).1 hs.1 (hs.2 i hi)
    exact⟨ha,hs.1,hf,fun i hi=>zjU ha.snd (ha.sp i hi) hs.1 (hf i hi)⟩
  · rename_i h1;exact absurd h h1
def zbo (r v:Int) (xs:List SpkD) (p:zan):List RayD:=zgO r v xs p xs.length
theorem zeM {r v:Int} {xs:List SpkD} {p:zan}:(zbo r v xs p).length=xs.length:=zam _ _
theorem zf9 {r v:Int} {xs:List SpkD} {p:zan} {i:Nat} (hi:i<xs.length):rayN (zbo r v xs p) i=zkY r v p (spkN xs i):=zaE _ _ _ _ hi
theorem zpY {r v:Int} {xs:List SpkD} {p:zan} (h:zjy r v xs p):xs.length≤8∧∀i,i<xs.length→goodRay (rayN (zbo r v xs p) i):=by
  obtain⟨h1,h2,h3,h4⟩:=ziX h
  exact⟨h1.le,fun i hi=>by rw[zf9 hi];exact h4 i hi⟩
end Go.Eng.Ar
namespace Go.Eng.Ar
open Go Go.Eng Ieee
set_option linter.all false
set_option maxRecDepth 100000
set_option maxHeartbeats 8000000
theorem zm7 (neg:Bool) (n d:Nat) (h:n % 2 ^ d=0) (hd:d≤n.log2+2):Toward.even.cut neg n d=n / 2 ^ d:=by
  unfold Toward.cut
  simp only[Nat.min_eq_left hd,Nat.one_shiftLeft,h]
  have h0:0<2 ^ d:=Nat.two_pow_pos d
  have e1:decide (2 ^ d<2*0)=false:=by simp
  have e2:(2 ^ d == 2*0)=false:=by simp
  rw[e1,e2]
  simp
theorem zhu (m j:Nat) (hm:m≠0):(m*2 ^ j).log2=m.log2+j:=by
  have h0:0<2 ^ j:=Nat.two_pow_pos j
  have hne:m*2 ^ j≠0:=Nat.mul_ne_zero hm (by omega)
  have a1:=(Nat.log2_lt (k:=m.log2+j+1) hne).2 (by
    have:=Nat.lt_log2_self (n:=m)
    rw[show m.log2+j+1=(m.log2+1)+j by omega,Nat.pow_add]
    exact Nat.mul_lt_mul_of_pos_right this h0)
  have a2:¬(m*2 ^ j).log2<m.log2+j:=fun h=>by
    have h1:=(Nat.log2_lt hne).1 h
    have h2:=Nat.log2_self_le hm
    rw[Nat.pow_add] at h1
    have:=Nat.mul_le_mul_right (2 ^ j) h2
    omega
  omega
theorem zmw (f:Format) (neg:Bool) (m j:Nat) (place:Int) (he:2≤f.exponentBits) (hm:m≠0) (h1:m.log2≤f.fractionBits) (h2:f.leastPlace≤place+j)
    (h3:place+j+m.log2+3≤f.leastPlace+f.fractionBits+2 ^ f.exponentBits):∃(k:Nat) (i:Int),f.read (f.nearest neg (m*2 ^ j) place)=.number neg k i∧f.leastPlace≤i∧i≤place+j∧k=m*2 ^ (place+j - i).toNat:=by
  have hne:m*2 ^ j≠0:=Nat.mul_ne_zero hm (by have:=Nat.two_pow_pos j;omega)
  have hl:=zhu m j hm
  unfold Format.nearest
  rw[if_neg hne,hl]
  simp only[]
  generalize hL:max (place+((m.log2+j:Nat):Int) - f.fractionBits) f.leastPlace=last
  have hL1:f.leastPlace≤last:=by omega
  have hL2:last≤place+j:=by omega
  have hk:Toward.even.cut neg ((m*2 ^ j) <<< (place - last).toNat) (last - place).toNat=m*2 ^ (place+j - last).toNat:=by
    rw[Nat.shiftLeft_eq]
    by_cases hp:last≤place
    · rw[show (last - place).toNat=0 by omega,zm7 _ _ _ (by simp[Nat.mod_one]) (by omega),Nat.pow_zero,Nat.div_one,Nat.mul_assoc,←Nat.pow_add]
      congr 2;omega
    · rw[show (place - last).toNat=0 by omega,Nat.pow_zero,Nat.mul_one]
      have hd:(last - place).toNat≤j:=by omega
      have e:m*2 ^ j=m*2 ^ (j - (last - place).toNat)*2 ^ (last - place).toNat:=by rw[Nat.mul_assoc,←Nat.pow_add];congr 2;omega
      rw[zm7 _ _ _ (by rw[e];exact Nat.mul_mod_left _ _) (by rw[hl];omega)]
      rw[e,Nat.mul_div_cancel _ (Nat.two_pow_pos _)]
      congr 2;omega
  rw[hk]
  generalize hK:m*2 ^ (place+j - last).toNat=kept
  have hB:f.binade=2 ^ f.fractionBits:=rfl
  have hB0:0<f.binade:=Nat.two_pow_pos _
  have hk0:kept≠0:=by rw[←hK];exact Nat.mul_ne_zero hm (by have:=Nat.two_pow_pos (place+j - last).toNat;omega)
  have hkl:kept.log2=m.log2+(place+j - last).toNat:=by rw[←hK];exact zhu _ _ hm
  have hk2:kept<2*f.binade:=by
    rw[hB,Nat.mul_comm,←Nat.pow_succ]
    exact (Nat.log2_lt hk0).1 (by rw[hkl];omega)
  have hrung:(last - f.leastPlace).toNat*f.binade+kept<f.infRung:=by
    unfold Format.infRung
    have h2e:=Nat.two_pow_pos f.exponentBits
    have hc:(((2:Nat) ^ f.exponentBits:Nat):Int)=2 ^ f.exponentBits:=by simp
    have : (last - f.leastPlace).toNat+2≤2 ^ f.exponentBits - 1:=by
      by_cases hq:last=f.leastPlace
      · have:2 ^ 2≤2 ^ f.exponentBits:=Nat.pow_le_pow_right (by omega) he
        omega
      · omega
    have:=Nat.mul_le_mul_right f.binade this
    rw[Nat.add_mul] at this
    omega
  rw[Nat.min_eq_left (by omega)]
  have hw:∀r,r<f.signWeight→f.word neg r % f.signWeight=r∧(f.word neg r / f.signWeight % 2 == 1)=neg:=by
    intro r hr
    unfold Format.word
    cases neg with
    | false=>exact⟨Nat.mod_eq_of_lt hr,by rw[if_neg (by simp),Nat.div_eq_of_lt hr];rfl⟩
    | true=>
      rw[if_pos rfl,Nat.add_mod_left,Nat.mod_eq_of_lt hr,Nat.add_div_left _ (by omega),Nat.div_eq_of_lt hr]
      exact⟨rfl,rfl⟩
  have hsw:f.infRung<f.signWeight:=f.infRung_lt
  obtain⟨w1,w2⟩:=hw _ (show (last - f.leastPlace).toNat*f.binade+kept<f.signWeight by omega)
  unfold Format.read
  simp only[w1,w2]
  by_cases hq:last=f.leastPlace
  · have e0:(last - f.leastPlace).toNat=0:=by omega
    rw[e0,Nat.zero_mul,Nat.zero_add]
    by_cases hb:kept<f.binade
    · rw[if_pos hb]
      exact⟨kept,f.leastPlace,rfl,Int.le_refl _,h2,by rw[←hK,hq]⟩
    · rw[if_neg hb,if_pos (by rw[e0,Nat.zero_mul,Nat.zero_add] at hrung;exact hrung)]
      have d1:kept / f.binade=1:=Nat.div_eq_of_lt_le (by omega) (by omega)
      have d2:kept % f.binade=kept - f.binade:=by rw[Nat.mod_eq_sub_mod (by omega),Nat.mod_eq_of_lt (by omega)]
      refine⟨f.binade+kept % f.binade,f.leastPlace+(kept / f.binade - 1:Nat),rfl,by omega,by rw[d1];simpa using h2,?_⟩
      rw[d1,d2,show f.binade+(kept - f.binade)=kept by omega,←hK,hq]
      simp
  · have hlast:last=place+((m.log2+j:Nat):Int) - f.fractionBits:=by omega
    have hbk:f.binade≤kept:=by
      rw[hB]
      have:=Nat.log2_self_le hk0
      rwa [hkl,show m.log2+(place+j - last).toNat=f.fractionBits by omega] at this
    have hpos:1≤(last - f.leastPlace).toNat:=by omega
    have hmul:=Nat.mul_le_mul_right f.binade hpos
    rw[if_neg (by omega),if_pos hrung]
    have d1:((last - f.leastPlace).toNat*f.binade+kept) / f.binade=(last - f.leastPlace).toNat+1:=by
      rw[Nat.mul_comm,Nat.mul_add_div hB0,Nat.div_eq_of_lt_le (m:=kept) (k:=1) (by omega) (by omega)]
    have d2:((last - f.leastPlace).toNat*f.binade+kept) % f.binade=kept - f.binade:=by
      rw[Nat.mul_comm,Nat.mul_add_mod,Nat.mod_eq_sub_mod (by omega),Nat.mod_eq_of_lt (by omega)]
    refine⟨_,_,rfl,by omega,?_,?_⟩
    · rw[d1];omega
    · rw[d1,d2,show f.binade+(kept - f.binade)=kept by omega,←hK]
      congr 2;omega
/-! ### Numbers, scaled -/
theorem zjP (s:Bool) (m a b:Nat):signed s m (a+b)=signed s m a*2 ^ b:=by
  unfold signed
  have e:((m <<< (a+b):Nat):Int)=((m <<< a:Nat):Int)*2 ^ b:=by
    rw[Nat.shiftLeft_eq,Nat.shiftLeft_eq,Nat.pow_add,←Nat.mul_assoc,Int.natCast_mul,Int.natCast_pow];rfl
  cases s
  · simp only[Bool.false_eq_true,if_false];exact e
  · simp only[if_true];rw[e,Int.neg_mul]
def dv (f:Format):Datum→Int
  | .number s m i=>signed s m (i - f.leastPlace).toNat
  | _=>0
def isN:Datum→Bool
  | .number ..=>true
  | _=>false
theorem zyZ {d:Datum} (h:isN d=true):∃s m i,d=.number s m i:=by
  cases d with
  | number s m i=>exact⟨s,m,i,rfl⟩
  | _=>cases h
theorem zwa (f:Format) (x:Nat) {s:Bool} {m:Nat} {i:Int} (h:f.read x=.number s m i):m<2*f.binade∧f.leastPlace≤i∧i+3≤f.leastPlace+2 ^ f.exponentBits∨m<f.binade∧i=f.leastPlace:=by
  unfold Format.read at h
  simp only[] at h
  have hB0:0<f.binade:=Nat.two_pow_pos _
  split at h
  · rename_i h1
    cases h
    exact .inr ⟨h1,rfl⟩
  · rename_i h1
    split at h
    · rename_i h2
      cases h
      left
      have hm:=Nat.mod_lt (x % f.signWeight) hB0
      have hd:x % f.signWeight / f.binade<2 ^ f.exponentBits - 1:=by
        rw[Nat.div_lt_iff_lt_mul hB0];exact h2
      have hc:(((2:Nat) ^ f.exponentBits:Nat):Int)=2 ^ f.exponentBits:=by simp
      have hd1:1≤x % f.signWeight / f.binade:=(Nat.one_le_div_iff hB0).2 (by omega)
      refine⟨by omega,by omega,by omega⟩
    · split at h<;>cases h
theorem zkX (f:Format) (x:Nat) {s:Bool} {m:Nat} {i:Int} (he:2≤f.exponentBits) (h:f.read x=.number s m i):f.leastPlace≤i∧m<2*f.binade∧(m≠0→m.log2≤f.fractionBits∧i+m.log2+3≤f.leastPlace+f.fractionBits+2 ^ f.exponentBits):=by
  have hB:f.binade=2 ^ f.fractionBits:=rfl
  have key:m<2*f.binade→m≠0→m.log2≤f.fractionBits:=fun h1 h2=>by
    have:m.log2<f.fractionBits+1:=(Nat.log2_lt h2).2 (by rw[Nat.pow_succ,Nat.mul_comm,←hB];exact h1)
    omega
  have hp:2 ^ 2≤2 ^ f.exponentBits:=Nat.pow_le_pow_right (by omega) he
  have hc:(((2:Nat) ^ f.exponentBits:Nat):Int)=2 ^ f.exponentBits:=by simp
  rcases zwa f x h with ⟨h1,h2,h3⟩|⟨h1,h2⟩
  · refine⟨h2,h1,fun h0=>?_⟩
    have:=key h1 h0
    omega
  · refine⟨by omega,by omega,fun h0=>?_⟩
    have:=key (by omega) h0
    omega
theorem zok (a b c:Int) (h:0<c):compare (a*c) (b*c)=compare a b:=by
  simp only[compare,compareOfLessAndEq]
  by_cases h1:a<b
  · rw[if_pos h1,if_pos (Int.mul_lt_mul_of_pos_right h1 h)]
  · rw[if_neg h1,if_neg (fun hh=>h1 (Int.lt_of_mul_lt_mul_right hh (by omega)))]
    by_cases h2:a=b
    · rw[if_pos h2,if_pos (by rw[h2])]
    · rw[if_neg h2,if_neg (fun hh=>h2 (Int.eq_of_mul_eq_mul_right (by omega) hh))]
theorem zrF (f:Format) {x y:Nat} {s t:Bool} {m n:Nat} {i j:Int} (hx:f.read x=.number s m i) (hy:f.read y=.number t n j) (he:2≤f.exponentBits) :
    f.order x y=some (compare (dv f (f.read x)) (dv f (f.read y))):=by
  have h1:=(zkX f x he hx).1
  have h2:=(zkX f y he hy).1
  unfold Format.order
  rw[hx,hy]
  simp only[Datum.order,dv]
  rw[show (i - f.leastPlace).toNat=(i - min i j).toNat+(min i j - f.leastPlace).toNat by omega,show (j - f.leastPlace).toNat=(j - min i j).toNat+(min i j - f.leastPlace).toNat by omega,zjP,zjP,zok _ _ _ (Int.pow_pos (by omega))]
/-! ### Numbers made whole -/
theorem zuw (neg:Bool) (n d:Nat):Toward.zero.cut neg n d=n / 2 ^ d:=by
  unfold Toward.cut
  simp only[Nat.one_shiftLeft,Bool.toNat_false,Nat.add_zero]
  by_cases hd:d≤n.log2+2
  · rw[Nat.min_eq_left hd]
  · rw[Nat.min_eq_right (by omega)]
    have h1:n<2 ^ (n.log2+2):=Nat.lt_of_lt_of_le (Nat.lt_log2_self) (Nat.pow_le_pow_right (by omega) (by omega))
    have h2:n<2 ^ d:=Nat.lt_of_lt_of_le h1 (Nat.pow_le_pow_right (by omega) (by omega))
    rw[Nat.div_eq_of_lt h1,Nat.div_eq_of_lt h2]
def scF (f:Format):Nat:=(-f.leastPlace).toNat
def sg (s:Bool) (n:Nat):Int:=if s then -(n:Int) else n
theorem zij (s:Bool) (m a:Nat):signed s m a=sg s (m*2 ^ a):=by
  unfold signed sg
  rw[Nat.shiftLeft_eq]
theorem zvM (s:Bool) (a b:Nat):(sg s a).tdiv (b:Int)=sg s (a / b):=by
  unfold sg
  cases s
  · simp only[Bool.false_eq_true,if_false];rw[Int.tdiv_eq_ediv_of_nonneg (by omega)];rfl
  · simp only[if_true];rw[Int.neg_tdiv,Int.tdiv_eq_ediv_of_nonneg (by omega)];rfl
def tru (f:Format) (m:Nat) (i:Int):Nat:=m*2 ^ i.toNat / 2 ^ (-i).toNat
theorem zqJ (f:Format) (s:Bool) (m:Nat) (i:Int):(Datum.number s m i).toInt .zero=some (sg s (tru f m i)):=by
  unfold Datum.toInt Datum.integral
  simp only[zuw,zij,Nat.shiftLeft_eq,Nat.pow_zero,Nat.mul_one,tru]
theorem zxB (f:Format) {s:Bool} {m:Nat} {i:Int} (h0:f.leastPlace≤0) (hi:f.leastPlace≤i):sg s (tru f m i)=(dv f (.number s m i)).tdiv ((2 ^ scF f:Nat):Int):=by
  show sg s (tru f m i)=(signed s m (i - f.leastPlace).toNat).tdiv ((2 ^ scF f:Nat):Int)
  rw[zij,zvM]
  congr 1
  unfold tru scF
  by_cases hp:0≤i
  · rw[show (-i).toNat=0 by omega,Nat.pow_zero,Nat.div_one,show (i - f.leastPlace).toNat=i.toNat+(-f.leastPlace).toNat by omega,Nat.pow_add,←Nat.mul_assoc,Nat.mul_div_cancel _ (Nat.two_pow_pos _)]
  · rw[show i.toNat=0 by omega,Nat.pow_zero,Nat.mul_one,show (-f.leastPlace).toNat=(-i).toNat+(i - f.leastPlace).toNat by omega,Nat.pow_add,Nat.mul_div_mul_right _ _ (Nat.two_pow_pos _)]
end Go.Eng.Ar
namespace Go.Eng.Ar
open Go Go.Eng Ieee
set_option linter.all false
set_option maxRecDepth 100000
set_option maxHeartbeats 8000000
theorem zoa (k:FloatKind):2≤k.format.exponentBits:=by cases k<;>decide
theorem zzg (k:FloatKind):k.format.leastPlace≤0:=by cases k<;>decide
def fN (k:FloatKind) (x:Nat):Bool:=isN (k.format.read x)
def fV (k:FloatKind) (x:Nat):Int:=dv k.format (k.format.read x)
def fS (k:FloatKind):Int:=((2 ^ scF k.format:Nat):Int)
def fT (k:FloatKind) (x:Nat):Int:=(fV k x).tdiv (fS k)
theorem zsH (k:FloatKind):0<fS k:=by
  have:=Nat.two_pow_pos (scF k.format)
  unfold fS;omega
theorem zuq {k:FloatKind} {x:Nat} (h:fN k x=true):∃s m i,k.format.read x=.number s m i:=zyZ h
theorem zk1 {k:FloatKind} {x y:Nat} (hx:fN k x=true) (hy:fN k y=true):k.format.order x y=some (compare (fV k x) (fV k y)):=by
  obtain⟨s,m,i,e1⟩:=zuq hx
  obtain⟨t,n,j,e2⟩:=zuq hy
  exact zrF k.format e1 e2 (zoa k)
theorem zhy {k:FloatKind} {x y:Nat} (hx:fN k x=true) (hy:fN k y=true):(k.format.order x y == some .lt)=decide (fV k x<fV k y):=by
  rw[zk1 hx hy]
  simp only[compare,compareOfLessAndEq]
  by_cases h:fV k x<fV k y
  · simp[h]
  · rw[if_neg h];split<;>simp[h]
theorem zpF {k:FloatKind} {x y:Nat} (hx:fN k x=true) (hy:fN k y=true):(k.format.order x y == some .eq)=decide (fV k x=fV k y):=by
  rw[zk1 hx hy]
  simp only[compare,compareOfLessAndEq]
  by_cases h:fV k x<fV k y
  · rw[if_pos h];simp;omega
  · rw[if_neg h];split<;>rename_i h2<;>simp[h2]
theorem zkq {k:FloatKind} {x y:Nat} (hx:fN k x=true) (hy:fN k y=true):(k.format.order x y == some .gt)=decide (fV k y<fV k x):=by
  rw[zk1 hx hy]
  simp only[compare,compareOfLessAndEq]
  by_cases h:fV k x<fV k y
  · rw[if_pos h];simp;omega
  · rw[if_neg h];split<;>rename_i h2<;>simp<;>omega
theorem zvH {k:FloatKind} {x:Nat} (h:fN k x=true):k.format.sub x x=some 0:=by
  obtain⟨s,m,i,e⟩:=zuq h
  unfold Format.sub
  rw[e]
  simp only[Datum.opposite,Datum.sum,Option.map_some]
  have e0:signed s m (i - min i i).toNat+signed (!s) m (i - min i i).toNat=0:=by
    unfold signed
    cases s<;>simp<;>omega
  rw[e0]
  cases s<;>simp[Format.write,Format.nearest,Format.word]
theorem zzl {k:FloatKind} {x:Nat} (h:fN k x=true) (h1 : -9223372036854775808≤fT k x) (h2:fT k x≤9223372036854775807):floatToIntVal k x .i64=some (fT k x):=by
  obtain⟨s,m,i,e⟩:=zuq h
  have hi:=(zkX k.format x (zoa k) e).1
  have ht:fT k x=sg s (tru k.format m i):=by
    unfold fT fV fS
    rw[e]
    exact (zxB k.format (zzg k) hi).symm
  unfold floatToIntVal
  show (match (k.format.read x).toInt .zero with|some n=>if IntKind.i64.min≤n∧n≤IntKind.i64.max then some n else none|none=>none)=_
  rw[e,zqJ k.format]
  simp only[]
  rw[←ht,if_pos ⟨h1,h2⟩]
end Go.Eng.Ar
namespace Go.Eng.Ar
open Go.Eng Go.Proofs
set_option linter.all false
set_option maxRecDepth 100000
set_option maxHeartbeats 8000000
abbrev smZ (n:Int):Prop:=-1000000000≤n∧n≤1000000000
theorem zuo {n:Int} (h:smZ n):fN .f64 (floatOfInt .f64 n)=true∧fV .f64 (floatOfInt .f64 n)=n*fS .f64:=by
  obtain⟨h1,h2⟩:=h
  by_cases h0:n=0
  · subst h0;decide +kernel
  · have hm:n.natAbs≠0:=by omega
    have hl:n.natAbs.log2≤29:=by
      have:n.natAbs.log2<30:=(Nat.log2_lt hm).2 (by omega)
      omega
    have l32:FloatKind.f64.format.leastPlace = -1074:=by decide
    have b32:FloatKind.f64.format.fractionBits=52:=by decide
    have e32:FloatKind.f64.format.exponentBits=11:=by decide
    obtain⟨q,l,g1,g2,g3,g4⟩:=zmw FloatKind.f64.format (decide (n<0)) n.natAbs 0 0 (zoa .f64) hm (by rw[b32];omega) (by rw[l32];omega) (by rw[l32,b32,e32];omega)
    rw[Nat.pow_zero,Nat.mul_one] at g1
    have hw:floatOfInt .f64 n=FloatKind.f64.format.nearest (decide (n<0)) n.natAbs 0:=rfl
    rw[hw]
    unfold fN fV
    rw[g1]
    refine⟨rfl,?_⟩
    show Ieee.signed _ q (l - FloatKind.f64.format.leastPlace).toNat=_
    rw[l32] at g2 ⊢
    rw[zij,g4,Nat.mul_assoc,←Nat.pow_add]
    have e:((0:Int)+(0:Nat) - l).toNat+(l - -1074).toNat=1074:=by omega
    rw[e]
    have hs:fS .f64=((2 ^ 1074:Nat):Int):=by decide +kernel
    rw[hs]
    generalize (2:Nat) ^ 1074=C
    unfold sg
    by_cases hn:n<0
    · rw[if_pos (by simp;exact hn),Int.natCast_mul,show ((n.natAbs:Nat):Int) = -n by omega,Int.neg_mul,Int.neg_neg]
    · rw[if_neg (by simp;omega),Int.natCast_mul,show ((n.natAbs:Nat):Int)=n by omega]
theorem fT64 {n:Int} (h:smZ n):fT .f64 (floatOfInt .f64 n)=n:=by
  unfold fT
  rw[(zuo h).2]
  exact Int.mul_tdiv_cancel _ (by have:=zsH .f64;omega)
theorem zwN {n:Int} (h:smZ n):floatToIntVal .f64 (floatOfInt .f64 n) .i64=some n:=by
  have:=zzl (zuo h).1 (by rw[fT64 h];omega) (by rw[fT64 h];omega)
  rw[fT64 h] at this;exact this
theorem zz64:(FloatKind.f64.format.order 0 0 != some .eq)=false:=by decide
theorem zzK {α:Type} [BEq α] {a b:α} (h:(a == b)=true):(a != b)=false:=by simp[bne,h]
theorem c64:fN .f64 14069741636278059008=true∧fN .f64 4846369599423283200=true∧fV .f64 14069741636278059008 = -(10000000000000000*fS .f64)∧fV .f64 4846369599423283200=10000000000000000*fS .f64:=by decide +kernel
theorem c12:fN .f64 4786511204640096256=true∧fN .f64 14009883241494872064=true∧fV .f64 4786511204640096256=1000000000000*fS .f64∧fV .f64 14009883241494872064 = -(1000000000000*fS .f64):=by decide +kernel
def whZ (x:Nat):Prop:=∃n:Int,smZ n∧x=floatOfInt .f64 n
@[reducible] def zuV:Spec:={pats:=[.dat F64],res:=[{t:=.bool}],pre:=fun x=>whZ x.1,f:=fun _=>(true,())}
theorem h99:Ok 99 zuV:=by
  refine mk (ctr:=[]) trivial (nt:=24) Tryz.func99 rfl rfl rfl rfl (by kernel_rfl) (by kernel_rfl) (fun _=>[]) ?_
  rintro⟨(x:Nat),⟨⟩⟩ ⟨n,hn,rfl⟩
  obtain⟨hN,hV⟩:=zuo hn
  have hT:=zwN hn
  have hS:=zsH .f64
  obtain⟨x,hx⟩:∃x,floatOfInt .f64 n=x:=⟨_,rfl⟩
  rw[hx] at hN hV hT
  have o1:=zzK (show (FloatKind.f64.format.order x x == some .eq)=true by rw[zpF hN hN];simp)
  have s1:=zvH hN
  have g1:=zkq hN c64.1
  have g1e:=zpF hN c64.1
  have g2:=zhy hN c64.2.1
  have g2e:=zpF hN c64.2.1
  have g3:(FloatKind.f64.format.order x x == some .eq)=true:=by rw[zpF hN hN];simp
  have hb : -1000000000*fS .f64≤n*fS .f64∧n*fS .f64≤1000000000*fS .f64:=⟨Int.mul_le_mul_of_nonneg_right hn.1 (by omega),Int.mul_le_mul_of_nonneg_right hn.2 (by omega)⟩
  rw[c64.2.2.1,hV] at g1 g1e
  rw[c64.2.2.2,hV] at g2 g2e
  have w1:(decide (-(10000000000000000*fS .f64)<n*fS .f64) || decide (n*fS .f64 = -(10000000000000000*fS .f64)))=true:=by
    rw[decide_eq_true (by omega)];rfl
  have w2:(decide (n*fS .f64<10000000000000000*fS .f64) || decide (n*fS .f64=10000000000000000*fS .f64))=true:=by
    rw[decide_eq_true (by omega)];rfl
  rw[←g1,←g1e] at w1
  rw[←g2,←g2e] at w2
  have z:=zz64
  rw[hx]
  clear g1 g1e g2 g2e hb
  repeat' (intro hzz;(try (rename Two=>hq;cases hq));(try dsimp only at hzz);(try simp only[zad,zac,eqD,inR,big,zab,zB] at hzz);(try simp only[zad,zac,eqD,inR,big,zab,zB,o1,s1,w1,w2,hT,hx,g3,z,Option.getD_some,Option.isSome_some] at hzz);(try (revert hzz;intro _)))
  all_goals try (rename Unit=>hq;clear hq)
  all_goals try ((with_reducible refine Held.mk ?_);(with_reducible (first|refine Frz.mk ?_|refine And.intro (Frz.mk ?_) ?_|refine And.intro ?_ (Frz.mk ?_)));repeat' first|exact True.intro|(change _=_;with_reducible rfl)|refine And.intro ?_ ?_|(with_reducible refine Frz.mk ?_))
  all_goals try (refine Held.mk ?_;(try dsimp only at *);(try simp only[zad,zac,eqD,inR,big,zab,zB] at *);(try simp only[zad,zac,eqD,inR,big,zab,zB,o1,s1,w1,w2,hT,hx,g3,z,Option.getD_some,Option.isSome_some] at *))
  all_goals (rename_i h;cases h)
def whC (z:CD):Prop:=whZ z.1∧whZ z.2
theorem zxu {a b:Int} (ha:smZ a) (hb:smZ b):whC (cpxI a b):=⟨⟨a,ha,rfl⟩,b,hb,rfl⟩
def fTp (z:CD):Int×Int:=(fT .f64 z.1,fT .f64 z.2)
theorem zzk {a b:Int} (ha:smZ a) (hb:smZ b):fTp (cpxI a b)=(a,b):=by
  show (fT .f64 (floatOfInt .f64 a),fT .f64 (floatOfInt .f64 b))=_
  rw[fT64 ha,fT64 hb]
@[reducible] def znA:Spec:={pats:=[.dat C128],res:=[{t:=I64},{t:=I64}],pre:=fun x=>whC x.1,f:=fun x=>((fTp x.1).1,(fTp x.1).2,())}
theorem h100:Ok 100 znA:=by
  refine mk (ctr:=[]) trivial (nt:=10) Tryz.func100 rfl rfl rfl rfl (by kernel_rfl) (by kernel_rfl) (fun _=>[]) ?_
  rintro⟨⟨(x:Nat),(y:Nat)⟩,⟨⟩⟩ ⟨⟨a,ha,(ea:x=_)⟩,b,hb,(eb:y=_)⟩
  have h1:=zwN ha
  have h2:=zwN hb
  rw[←ea] at h1
  rw[←eb] at h2
  have q1:(fTp (x,y)).1=a:=by show fT .f64 x=a;rw[ea];exact fT64 ha
  have q2:(fTp (x,y)).2=b:=by show fT .f64 y=b;rw[eb];exact fT64 hb
  repeat' (intro hzz;(try (rename Two=>hq;cases hq));(try dsimp only at hzz);(try simp only[zad,zac,eqD,inR,big,zab,zB] at hzz);(try simp only[zad,zac,eqD,inR,big,zab,zB,h1,h2,Option.getD_some,Option.isSome_some,q1,q2] at hzz);(try (revert hzz;intro _)))
  all_goals try (rename Unit=>hq;clear hq)
  all_goals try ((with_reducible refine Held.mk ?_);(with_reducible (first|refine Frz.mk ?_|refine And.intro (Frz.mk ?_) ?_|refine And.intro ?_ (Frz.mk ?_)));repeat' first|exact True.intro|(change _=_;with_reducible rfl)|refine And.intro ?_ ?_|(with_reducible refine Frz.mk ?_))
  all_goals try (refine Held.mk ?_;(try dsimp only at *);(try simp only[zad,zac,eqD,inR,big,zab,zB] at *);(try simp only[zad,zac,eqD,inR,big,zab,zB,h1,h2,Option.getD_some,Option.isSome_some,q1,q2] at *))
@[reducible] def zq9:Spec:={znA with res:=[{t:=I64},{t:=I64},{t:=.bool}],f:=fun x=>((fTp x.1).1,(fTp x.1).2,true,())}
theorem h35:Ok 35 zq9:=by
  refine mk (ctr:=[(99,zuV),(100,znA)]) ⟨h99,h100,trivial⟩ (nt:=44) Tryz.func35 rfl rfl rfl rfl (by kernel_rfl) (by kernel_rfl) (fun _=>[]) ?_
  rintro⟨⟨(x:Nat),(y:Nat)⟩,⟨⟩⟩ hw
  have hw1:whZ x:=hw.1
  have hw2:whZ y:=hw.2
  obtain⟨⟨a,ha,(ea:x=_)⟩,b,hb,(eb:y=_)⟩:=(hw:whZ x∧whZ y)
  have hS:=zsH .f64
  have key:∀(x:Nat) (n:Int),smZ n→x=floatOfInt .f64 n→(FloatKind.f64.format.order x 4786511204640096256 == some .gt)=false∧(FloatKind.f64.format.order x 14009883241494872064 == some .lt)=false:=fun x n hn e=>by
    obtain⟨hN,hV⟩:=zuo hn
    have hb : -1000000000*fS .f64≤n*fS .f64∧n*fS .f64≤1000000000*fS .f64:=⟨Int.mul_le_mul_of_nonneg_right hn.1 (by omega),Int.mul_le_mul_of_nonneg_right hn.2 (by omega)⟩
    rw[e]
    rw[zkq hN c12.1,zhy hN c12.2.1,c12.2.2.1,c12.2.2.2,hV]
    exact⟨decide_eq_false (by omega),decide_eq_false (by omega)⟩
  obtain⟨k1,k2⟩:=key x a ha ea
  obtain⟨k3,k4⟩:=key y b hb eb
  clear key
  repeat' (intro hzz;(try (rename Two=>hq;cases hq));(try dsimp only at hzz);(try simp only[zad,zac,eqD,inR,big,zab,zB] at hzz);(try simp only[zad,zac,eqD,inR,big,zab,zB,k1,k2,k3,k4] at hzz);(try (revert hzz;intro _)))
  all_goals try (rename Unit=>hq;clear hq)
  all_goals try ((with_reducible refine Held.mk ?_);(with_reducible (first|refine Frz.mk ?_|refine And.intro (Frz.mk ?_) ?_|refine And.intro ?_ (Frz.mk ?_)));repeat' first|exact True.intro|(change _=_;with_reducible rfl)|refine And.intro ?_ ?_|(with_reducible refine Frz.mk ?_))
  all_goals try (refine Held.mk ?_;(try dsimp only at *);(try simp only[zad,zac,eqD,inR,big,zab,zB] at *);(try simp only[zad,zac,eqD,inR,big,zab,zB,k1,k2,k3,k4] at *))
  all_goals first|exact hw1|exact hw2|exact⟨hw1,hw2⟩|(rename_i h;cases h)
end Go.Eng.Ar
namespace Go.Eng.Ar
open Go.Eng Go.Proofs
set_option linter.all false
set_option maxRecDepth 100000
set_option maxHeartbeats 8000000
theorem zzV {s:SpkD} (h:inSp s):zeA s=0:=by
  unfold zeA
  rw[if_pos (zo0 h.1)]
  unfold zcO
  exact if_pos ⟨h.2.1,h.2.2⟩
theorem zpI {xs:List SpkD}:∀(k i:Nat),(∀j,i≤j→j<i+k→inSp (spkN xs j))→zg8 xs k i=(0,0)
  | 0,_,_=>rfl
  | k+1,i,h=>by
    simp only[zg8]
    rw[if_pos (zzV (h i (Nat.le_refl _) (by omega)))]
    exact zpI k (i+1) fun j h1 h2=>h j (by omega) (by omega)
theorem zzD {r v:Int} {xs:List SpkD} (h:goodArr r v xs):(chkA r v xs).2=0:=by
  have h1:zgI r v=0:=by unfold zgI;exact if_pos h.snd
  have h2:ziW r v xs.length=0:=by
    unfold ziW
    have:=h.pos
    rw[if_pos h1,if_neg (by omega),if_pos h.le]
  unfold chkA
  rw[if_pos h2,zpI xs.length 0 fun j _ hj=>h.sp j (by omega)]
theorem zq1 {xs:List SpkD} {p:zan} (hp:inP p) (h:∀i,i<xs.length→100≤sqP (spkN xs i).1 p) (hs:∀i,i<xs.length→inP (spkN xs i).1):zhB xs p=0:=by
  unfold zhB
  rw[if_pos (zo0 hp),if_neg]
  intro hn
  obtain⟨s,h1,h2⟩:=List.any_eq_true.1 hn
  obtain⟨i,hi,e⟩:=List.getElem_of_mem h1
  have e2:spkN xs i=s:=by simp[spkN,List.getD,List.getElem?_eq_getElem hi,e]
  have h3:=h i hi
  rw[e2] at h3
  have h4:=hs i hi
  rw[e2] at h4
  have h5:zhF s.1 p=true:=h2
  rw[zhO h4 hp] at h5
  have:=of_decide_eq_true h5
  omega
theorem zwG {r v:Int} {xs:List SpkD} {p:zan} (h1:goodArr r v xs) (hp:inP p) (h:∀i,i<xs.length→100≤sqP (spkN xs i).1 p):zjy r v xs p:=
  (if_pos (zzD h1)).trans (zq1 hp h fun i hi=>(h1.sp i hi).1)
end Go.Eng.Ar
namespace Go.Eng.Ar
open Go.Eng Go.Proofs
set_option linter.all false
set_option maxRecDepth 100000
set_option maxHeartbeats 8000000
def zvB (s:SpkD):SpkD:=(s.1,0,s.2.2.1,())
theorem zgX {f:Nat→SpkD→SpkD} {xs:List SpkD} {i:Nat} (hi:i<xs.length):spkN (zaB f xs xs.length) i=f i (spkN xs i):=by
  have e:=zdf (f:=f) (xs:=xs) (k:=xs.length) hi
  rw[if_pos hi] at e
  exact e
theorem zua {r v:Int} {f:Nat→SpkD→SpkD} {xs:List SpkD} {p:zan} (h:zjy r v xs p) (hf:∀i,i<xs.length→(f i (spkN xs i)).1=(spkN xs i).1∧inSp (f i (spkN xs i))):zjy r v (zaB f xs xs.length) p:=by
  obtain⟨g1,g2,g3,g4⟩:=ziX h
  refine zwG ⟨g1.snd,by rw[zaq];exact g1.pos,by rw[zaq];exact g1.le,fun i hi=>?_⟩ g2 fun i hi=>?_
  · rw[zaq] at hi
    rw[zgX hi];exact (hf i hi).2
  · rw[zaq] at hi
    rw[zgX hi,(hf i hi).1];exact g3 i hi
theorem ztn {s:SpkD} (h:inSp s):inSp (zvB s):=⟨h.1,⟨Int.le_refl _,(show (0:Int)≤1000 by decide)⟩,h.2.2⟩
theorem zzX (m:Int):shr m 0=(0,0):=by
  unfold shr
  split
  · rfl
  · split
    · rfl
    · split
      · rfl
      · rfl
theorem zAD {r v:Int} {p:zan} {s:SpkD}:giv (zkY r v p (zvB s))=(0,0):=by
  show shr _ (0*_)=_
  rw[Int.zero_mul,zzX]
end Go.Eng.Ar
namespace Go.Eng.Ar
open Go.Eng Go.Proofs
set_option linter.all false
set_option maxRecDepth 100000
set_option maxHeartbeats 8000000
def oneD (_:Nat) (s:SpkD):SpkD:=(s.1,s.2.1,(s.2.2.1:Int)+(1:Int),())
def allZ (_:Nat) (s:SpkD):SpkD:=zvB s
theorem zzW (m n:Int):shr (m+1) n=((shr m n).2,-(shr m n).1):=by
  have h:=Int.emod_nonneg m (show (4:Int)≠0 by decide)
  have h2:=Int.emod_lt_of_pos m (show (0:Int)<4 by decide)
  have e:(m+1) % 4=(m % 4+1) % 4:=by omega
  unfold shr
  have g:m % 4=0∨m % 4=1∨m % 4=2∨m % 4=3:=by omega
  rw[e]
  rcases g with g|g|g|g<;>rw[g]<;>simp
theorem zsu {r v:Int} {p:zan} {s:SpkD} (i:Nat):giv (zkY r v p (oneD i s))=((giv (zkY r v p s)).2,-(giv (zkY r v p s)).1):=by
  show shr (_+(s.2.2.1+1)) _=_
  rw[←Int.add_assoc,zzW];rfl
theorem zzd {x:RayD}:giv x=rv x 0:=by
  have:=rv_0 x 0
  rw[show 2*0=0 from rfl] at this
  rw[this]
  show _=shr (_+0+_) _
  rw[Int.add_zero];rfl
theorem zqZ (f:Nat→Int):∀n,sm (fun i=>-f i) n = -sm f n
  | 0=>rfl
  | n+1=>by simp only[sm,zqZ f n];omega
theorem zmH {r v:Int} {xs:List SpkD} {p:zan}:reT (zbo r v (zaB oneD xs xs.length) p) xs.length=imT (zbo r v xs p) xs.length∧imT (zbo r v (zaB oneD xs xs.length) p) xs.length = -reT (zbo r v xs p) xs.length:=by
  have key:∀i,i<xs.length→giv (rayN (zbo r v (zaB oneD xs xs.length) p) i)=((giv (rayN (zbo r v xs p) i)).2,-(giv (rayN (zbo r v xs p) i)).1):=fun i hi=>by
    rw[zf9 hi,zf9 (by rw[zaq];exact hi),zgX hi,zsu]
  unfold reT imT
  refine⟨zap _ fun i hi=>by rw[key i hi],?_⟩
  rw[←zqZ]
  exact zap _ fun i hi=>by rw[key i hi]
theorem zoE {r v:Int} {xs:List SpkD} {p:zan}:reT (zbo r v (zaB allZ xs xs.length) p) xs.length=0∧imT (zbo r v (zaB allZ xs xs.length) p) xs.length=0:=by
  have key:∀i,i<xs.length→giv (rayN (zbo r v (zaB allZ xs xs.length) p) i)=(0,0):=fun i hi=>by
    rw[zf9 (by rw[zaq];exact hi),zgX hi];exact zAD
  have z:∀n,sm (fun _=>0) n=0:=fun n=>by
    induction n with
    | zero=>rfl
    | succ n ih=>simp only[sm,ih];rfl
  unfold reT imT
  refine⟨(zap _ fun i hi=>by rw[key i hi]).trans (z _),(zap _ fun i hi=>by rw[key i hi]).trans (z _)⟩
theorem zwC {L:List RayD} {k:Nat} (h:∀i,i<k→goodRay (rayN L i)):(e0 L k≤reT L k∧reT L k≤e1 L k)∧e2 L k≤imT L k∧imT L k≤e3 L k:=by
  have key:∀i,i<k→((endR (rayN L i)).1.1≤(giv (rayN L i)).1∧(giv (rayN L i)).1≤(endR (rayN L i)).1.2.1)∧(endR (rayN L i)).2.1.1≤(giv (rayN L i)).2∧(giv (rayN L i)).2≤(endR (rayN L i)).2.1.2.1:=fun i hi=>by
    obtain⟨n,hn⟩:=zrX (h i hi)
    have h1:=(zgf (f:=rvR (rayN L i)) (B:=100000000) (fun j=>(ztJ (h i hi) j).1) n).2.2.2 0 (Nat.zero_le _)
    have h2:=(zgf (f:=rvI (rayN L i)) (B:=100000000) (fun j=>(ztJ (h i hi) j).2) n).2.2.2 0 (Nat.zero_le _)
    rw[zzd]
    show (mnS (rvR (rayN L i)) (2*nEn (rayN L i))≤rvR (rayN L i) 0∧rvR (rayN L i) 0≤mxS (rvR (rayN L i)) (2*nEn (rayN L i)))∧mnS (rvI (rayN L i)) (2*nEn (rayN L i))≤rvI (rayN L i) 0∧rvI (rayN L i) 0≤mxS (rvI (rayN L i)) (2*nEn (rayN L i))
    rw[hn,znW,znV,znW,znV]
    exact⟨h1,h2⟩
  exact⟨⟨zih k fun i hi=>(key i hi).1.1,zih k fun i hi=>(key i hi).1.2⟩,zih k fun i hi=>(key i hi).2.1,zih k fun i hi=>(key i hi).2.2⟩
theorem zie {a b:Int} (h0:0≤a) (h:a≤b):a*a≤b*b:=Int.mul_le_mul h h h0 (Int.le_trans h0 h)
theorem zxJ (a:Int):0≤a*a:=by
  rcases Int.le_total 0 a with h|h
  · exact Int.mul_nonneg h h
  · rw[←Int.neg_mul_neg];exact Int.mul_nonneg (by omega) (by omega)
theorem zpf {lo hi P:Int} (h1:lo≤P) (h2:P≤hi):lstI lo hi*lstI lo hi≤P*P∧P*P≤mstI lo hi*mstI lo hi:=by
  have a:0≤lstI lo hi∧(lstI lo hi=0∨lstI lo hi=lo∨lstI lo hi = -hi):=by
    unfold lstI maxI
    refine⟨?_,?_⟩<;>(repeat' split)<;>omega
  have b:hi≤mstI lo hi∧-lo≤mstI lo hi:=by
    unfold mstI maxI
    refine⟨?_,?_⟩<;>(repeat' split)<;>omega
  generalize lstI lo hi=l at *
  generalize mstI lo hi=m at *
  rcases Int.le_total 0 P with hP|hP
  · exact⟨zie a.1 (by omega),zie hP (by omega)⟩
  · rw[show P*P=(-P)*(-P) by rw[Int.neg_mul_neg]]
    exact⟨zie a.1 (by omega),zie (by omega) (by omega)⟩
theorem zxM {a b N:Int} (ha:0≤a) (h1:a≤N) (h2:N≤b) (hb:b≤1280000000000000000):(0≤rtI a∧rtI a≤rtU b∧rtU b≤2000000000)∧rtI a*rtI a≤N∧N≤rtU b*rtU b:=by
  have pa:zfx a:=⟨ha,by omega⟩
  have pb:zfx b:=⟨by omega,by omega⟩
  obtain⟨a1,a2,a3,a4⟩:=zir pa
  obtain⟨b1,b2,b3,b4⟩:=zir pb
  have u:rtI b≤rtU b∧rtU b≤rtI b+1∧b≤rtU b*rtU b:=by
    unfold rtU
    split
    · rename_i h;refine⟨by omega,Int.le_refl _,by omega⟩
    · rename_i h;exact⟨Int.le_refl _,by omega,by omega⟩
  refine⟨⟨a1,?_,by omega⟩,by omega,by omega⟩
  refine Int.not_lt.1 fun h=>?_
  have q:rtU b+1≤rtI a:=h
  have q2:=zie (a:=rtU b+1) (by omega) q
  have q3:(rtU b+1)*(rtU b+1)=rtU b*rtU b+2*rtU b+1:=by rw[Int.add_mul,Int.mul_add];omega
  omega
theorem zsV {r v:Int} {xs:List SpkD} {p:zan} (h:zjy r v xs p):zcG r v (zaB oneD xs xs.length) p=0∨zcG r v (zaB oneD xs xs.length) p=2:=by
  obtain⟨g1,g2,g3,g4⟩:=ziX h
  have two:∀s:SpkD,zeA s=0∨zeA s=2:=fun s=>by
    unfold zeA zdC zcO
    by_cases h1:(-5000≤s.1.1∧s.1.1≤5000)∧(-5000≤s.1.2.1∧s.1.2.1≤5000)∧(-5000≤s.1.2.2.1∧s.1.2.2.1≤5000)
    · rw[if_pos h1,if_pos rfl];split<;>simp
    · rw[if_neg h1,if_neg (by decide)];simp
  have go:∀(ys:List SpkD) (k i:Nat),(zg8 ys k i).2=0∨(zg8 ys k i).2=2:=fun ys k=>by
    induction k with
    | zero=>intro i;exact .inl rfl
    | succ k ih=>
      intro i
      simp only[zg8]
      split
      · exact ih (i+1)
      · exact two _
  have hl:(zaB oneD xs xs.length).length=xs.length:=zaq
  have hd:ziW r v (zaB oneD xs xs.length).length=0:=by
    have h1:zgI r v=0:=by unfold zgI;exact if_pos g1.snd
    unfold ziW
    have:=g1.pos
    have:=g1.le
    rw[hl,if_pos h1,if_neg (by omega),if_pos g1.le]
  have e:(chkA r v (zaB oneD xs xs.length)).2=0∨(chkA r v (zaB oneD xs xs.length)).2=2:=by
    unfold chkA
    rw[if_pos hd]
    exact go _ _ _
  unfold zcG
  rcases e with e|e
  · rw [if_pos e]
    refine .inl (zq1 g2 (fun i hi=>?_) fun i hi=>?_)
    · rw[hl] at hi
      rw[zgX hi];exact g3 i hi
    · rw[hl] at hi
      rw[zgX hi];exact (g1.sp i hi).1
  · rw[if_neg (by rw[e];decide)];exact .inr e
structure WithF (r v:Int) (xs:List SpkD) (p:zan):Type where
  P:Int
  Q:Int
  A:Int×Int×Int×Int
  s1:Int
  s2:Int
  bP : -800000000≤P∧P≤800000000
  bQ : -800000000≤Q∧Q≤800000000
  iP:A.1≤P∧P≤A.2.1
  iQ:A.2.2.1≤Q∧Q≤A.2.2.2
  bs:0≤s1∧s1≤s2∧s2≤2000000000
  sq:s1*s1≤P*P+Q*Q∧P*P+Q*Q≤s2*s2
  eP:prC (zcr r v xs p)=cpxI P Q
  eE:endC (zcr r v xs p)=((A.1,A.2.1,()),(A.2.2.1,A.2.2.2,()),())
  eS:sizC (zcr r v xs p)=(s1,s2,())
  oZ:zcG r v (zaB allZ xs xs.length) p=0
  eZ:prC (zcr r v (zaB allZ xs xs.length) p)=(0,0)
  lat:zcG r v (zaB oneD xs xs.length) p=2∨(zcG r v (zaB oneD xs xs.length) p=0∧prC (zcr r v (zaB oneD xs xs.length) p)=cpxI Q (-P))
theorem zgc {r v:Int} {xs:List SpkD} {p:zan} (h:zjy r v xs p):zcr r v xs p=(zbo r v xs p,0,()):=if_pos h
theorem zpR {r v:Int} {xs:List SpkD} {p:zan} (hc:zjy r v xs p):Nonempty (WithF r v xs p):=by
  obtain⟨hl8,hg⟩:=zpY hc
  have hP:=zvb (L:=zbo r v xs p) (k:=xs.length) hg hl8
  have hE:=zwC (L:=zbo r v xs p) (k:=xs.length) hg
  have hB:=zwS (L:=zbo r v xs p) (k:=xs.length) hg hl8
  have q1:=zpf hE.1.1 hE.1.2
  have q2:=zpf hE.2.1 hE.2.2
  have b1:=zpg hB.1
  have b2:=zpg hB.2
  have s3:=zeH (Int.le_trans b1.1 b1.2.1) b1.2.2
  have s4:=zeH (Int.le_trans b2.1 b2.2.1) b2.2.2
  have s5:=zeH b1.1 (Int.le_trans b1.2.1 b1.2.2)
  have s6:=zeH b2.1 (Int.le_trans b2.2.1 b2.2.2)
  obtain ⟨z1,z2,z3⟩:=zxM (a:=lstI (e0 (zbo r v xs p) xs.length) (e1 (zbo r v xs p) xs.length)*lstI (e0 (zbo r v xs p) xs.length) (e1 (zbo r v xs p) xs.length)+lstI (e2 (zbo r v xs p) xs.length) (e3 (zbo r v xs p) xs.length)*lstI (e2 (zbo r v xs p) xs.length) (e3 (zbo r v xs p) xs.length))
    (b:=mstI (e0 (zbo r v xs p) xs.length) (e1 (zbo r v xs p) xs.length)*mstI (e0 (zbo r v xs p) xs.length) (e1 (zbo r v xs p) xs.length)+mstI (e2 (zbo r v xs p) xs.length) (e3 (zbo r v xs p) xs.length)*mstI (e2 (zbo r v xs p) xs.length) (e3 (zbo r v xs p) xs.length))
    (N:=reT (zbo r v xs p) xs.length*reT (zbo r v xs p) xs.length+imT (zbo r v xs p) xs.length*imT (zbo r v xs p) xs.length) (by omega) (by omega) (by omega) (by omega)
  have gZ:zjy r v (zaB allZ xs xs.length) p:=zua hc fun i hi=>⟨rfl,ztn ((ziX hc).1.sp i hi)⟩
  refine⟨⟨reT (zbo r v xs p) xs.length,imT (zbo r v xs p) xs.length,(e0 (zbo r v xs p) xs.length,e1 (zbo r v xs p) xs.length,e2 (zbo r v xs p) xs.length,e3 (zbo r v xs p) xs.length),_,_,hP.1,hP.2,hE.1,hE.2,z1,⟨z2,z3⟩,?_,?_,?_,gZ,?_,?_⟩⟩
  · rw[zgc hc];unfold prC;rw[if_pos rfl,zeM]
  · rw[zgc hc];refine (if_pos rfl).trans ?_;unfold endT;rw[zeM]
  · rw[zgc hc];refine (if_pos rfl).trans ?_;unfold endT;rw[zeM];rfl
  · rw[zgc gZ];unfold prC;rw[if_pos rfl,zeM,zaq,zoE.1,zoE.2];decide +kernel
  · rcases zsV hc with h|h
    · refine .inr ⟨h,?_⟩
      rw[zgc h];unfold prC;rw[if_pos rfl,zeM,zaq,zmH.1,zmH.2]
    · exact .inl h
theorem zrH {xs:List SpkD} {j:Nat} (hj:j<xs.length):(zaB oneD xs j).set j (((zaB oneD xs j).getD j spkZ).1,((zaB oneD xs j).getD j spkZ).2.1,((zaB oneD xs j).getD j spkZ).2.2.1+1,())=zaB oneD xs (j+1):=by
  rw[zdf hj,if_neg (Nat.lt_irrefl _),←ziN hj];rfl
theorem zos {xs:List SpkD} {j:Nat} (hj:j<xs.length):(zaB allZ xs j).set j (((zaB allZ xs j).getD j spkZ).1,0,((zaB allZ xs j).getD j spkZ).2.2)=zaB allZ xs (j+1):=by
  rw[zdf hj,if_neg (Nat.lt_irrefl _),←ziN hj];rfl
@[reducible] def zxA:VaSpec:={cs:=[.dat I64,.dat I64,.dat (.sl SpkT)],outs:=[.dat I64,.dat I64,.own 53 SpkT],pats:=[],pre:=fun x _=>pTen (List.length (α:=SpkD) x.2.2.1),out:=fun x _=>x}
theorem ztx:zop Tryz.prog OB 26 zxA:=by
  refine ztw (c:=cfg {} [] 9) (zhH (X:={}) True.intro (ctr:=[]) trivial) (zb3 mixed (zhH (X:={}) True.intro (ctr:=[]) trivial)) Tryz.func26 (body:=zcM Tryz.f26) rfl rfl (by decide) (by decide) rfl rfl rfl (by kernel_rfl) (fun _ _=>[]) ?_
  rintro⟨(r:Int),(v:Int),(xs:List SpkD),⟨⟩⟩ ⟨⟩ (hp:xs.length≤1000)
  repeat' (intro hzz;(try (rename Two=>hq;cases hq));(try dsimp only at hzz);(try simp only[zad,zac,eqD,inR,big,zab,zB] at hzz);(try simp only[zad,zac,eqD,inR,big,zab,zB,List.nil_append,List.length_nil,Nat.zero_add] at hzz);(try (revert hzz;intro _)))
  all_goals try (rename Unit=>hq;clear hq)
  all_goals try ((with_reducible refine Held.mk ?_);(with_reducible (first|refine Frz.mk ?_|refine And.intro (Frz.mk ?_) ?_|refine And.intro ?_ (Frz.mk ?_)));repeat' first|exact True.intro|(change _=_;with_reducible rfl)|refine And.intro ?_ ?_|(with_reducible refine Frz.mk ?_))
  all_goals try (refine Held.mk ?_;(try dsimp only at *);(try simp only[zad,zac,eqD,inR,big,zab,zB] at *);(try simp only[zad,zac,eqD,inR,big,zab,zB,List.nil_append,List.length_nil,Nat.zero_add] at *))
  all_goals try omega
  all_goals first|(show xs.length≤2147483648;omega)|exact⟨rfl,rfl,rfl,trivial⟩|exact⟨rfl,rfl,rfl⟩|rfl
end Go.Eng.Ar
namespace Go.Eng.Ar
open Go.Eng Go.Proofs
set_option linter.all false
set_option maxRecDepth 100000
set_option maxHeartbeats 8000000
abbrev cWi:List (Nat×Spec):=[(14,zmf),(26,zvW),(29,zbi),(34,zq8),(35,zq9),(46,zvR),(47,znC),(48,zq3),(49,sNum)]
theorem zvv:All cWi:=⟨h14,h26,h29,h34,h35,h46,h47,h48,h49,trivial⟩
@[reducible] def cfV:Cfg:={cfg xF4 cWi 0 with vas:=[(26,zxA)],vno:=[30,41,48]}
theorem zzG (nt:Nat):CfgOk Tryz.prog OB {cfV with nt:=nt} where
  tbl:=tbl
  eqs:=zwQ
  ctr:=fun f sp hf=>zoo zvv hf
  ext:=(zhH (X:=xF4) True.intro (ctr:=cWi) (nt:=nt) zvv).ext
  extb:=zwO
  obs:=fun t i hi=>by simp[obOf] at hi
  its:=fun g isp h=>zlc (l:=[]) True.intro h
  vas := fun f sp h=>by
    simp only[zmN] at h
    cases hb:Nat.beq 26 f with
    | false=>rw[hb] at h;cases h
    | true=>
      rw[hb] at h
      have:=Nat.eq_of_beq_eq_true hb
      subst this
      simp only[cond_true,Option.some.injEq] at h
      subst h
      exact⟨ztx,h26.2⟩
def zzN (xs:List SpkD):LoopAnn:={σ:=Nat,pat:=fun j=>[sI 17 j,.row 200128 53 SpkT (zaB oneD xs j),.row 200130 53 SpkT (zaB allZ xs j)],inv:=fun j=>j≤xs.length,meas:=fun j=>xs.length - j}
@[reducible] def sWiL:Spec:={pats:=[.dat ArrT,.dat zbA,.gw 3 .err,.gw 4 .err,.gw 2 PowT,.gw 1 I64],res:=[{t:=.bool}],pre:=fun x=>x.2.2.2.2.1=powD,f:=fun _=>(true,())}
theorem zzn {n j:Nat} (h:j≤n) (hz:(n:Int)≤(j:Int)):j=n:=by omega
theorem zc5 (z:CD):zlj z z=true:=by simp[zlj]
theorem zAr : Ok 8 sWiL:=by
  refine mkI (sp:=sWiL) (c:=cfV) zzG (nt:=188) Tryz.func8 rfl rfl rfl rfl (by kernel_rfl) (by kernel_rfl) (fun x=>[fun _=>zzN x.1.2.2.1]) ?_
  rintro⟨⟨(r:Int),(v:Int),(xs:List SpkD),⟨⟩⟩,⟨(pa:Int),(pb:Int),(pc:Int),⟨⟩⟩,(b0:Bool),(b1:Bool),(pw:PowT.Den),(m:Int),⟨⟩⟩ (hpw:pw=powD)
  by_cases hl8:(8:Int)<xs.length
  · have z5:(0:Int)=0:=rfl
    repeat' (intro hzz;(try (rename Two=>hq;cases hq));(try dsimp only at hzz);(try simp only[zad,zac,eqD,inR,big,zab,zB] at hzz);(try simp only[zad,zac,eqD,inR,big,zab,zB,hl8,hpw] at hzz);(try (first|contradiction|(exfalso;omega)));(try (revert hzz;intro _)))
    all_goals try (rename Unit=>hq;clear hq)
    all_goals try ((with_reducible refine Held.mk ?_);(with_reducible (first|refine Frz.mk ?_|refine And.intro (Frz.mk ?_) ?_|refine And.intro ?_ (Frz.mk ?_)));repeat' first|exact True.intro|(change _=_;with_reducible rfl)|refine And.intro ?_ ?_|(with_reducible refine Frz.mk ?_))
    all_goals try (refine Held.mk ?_;(try dsimp only at *);(try simp only[zad,zac,eqD,inR,big,zab,zB] at *);(try simp only[zad,zac,eqD,inR,big,zab,zB,hl8,hpw] at *))
    all_goals try omega
  · have hp' : Hid (pLen xs.length):=by show (xs.length:Int)≤4611686018427387904;omega
    have hp2':Hid (pTen xs.length):=by show xs.length≤1000;omega
    by_cases hc:zcG r v xs (pa,pb,pc,())=0
    · obtain ⟨F⟩:=zpR hc
      obtain⟨P,Q,⟨A1,A2,A3,A4⟩,s1,s2,bP,bQ,iP,iQ,bs,sq,eP,eE,eS,oZ,eZ,lat⟩:=F
      dsimp only at eE iP iQ
      have zP:smZ P:=⟨by omega,by omega⟩
      have zQ:smZ Q:=⟨by omega,by omega⟩
      have f1:=zzk zP zQ
      have w1:Hid (whC (cpxI P Q)):=zxu zP zQ
      have g1:zal P A1 A2=true:=decide_eq_true iP
      have g2:zal Q A3 A4=true:=decide_eq_true iQ
      have g3:zal s1 0 s2=true:=decide_eq_true ⟨bs.1,bs.2.1⟩
      have g4:¬(2000000000:Int)<s2:=Int.not_lt.2 bs.2.2
      have k1:=zeH bs.1 (Int.le_trans bs.2.1 bs.2.2)
      have k2:=zeH (Int.le_trans bs.1 bs.2.1) bs.2.2
      have k3:=zpf bP.1 bP.2
      have k4:=zpf bQ.1 bQ.2
      have k5:mstI (-800000000) 800000000=800000000:=by decide
      rw[k5] at k3 k4
      have j1:0≤P*P:=zxJ P
      have j2:0≤Q*Q:=zxJ Q
      have r1:Hid (R64 (P*P)):=by show _∧_;omega
      have r2:Hid (R64 (Q*Q)):=by show _∧_;omega
      have r3:Hid (R64 (P*P+Q*Q)):=by show _∧_;omega
      have r4:Hid (R64 (s1*s1)):=by show _∧_;omega
      have r5:Hid (R64 (s2*s2)):=by show _∧_;omega
      have r6:Hid (R64 (-P)):=by show _∧_;omega
      have m1:¬P*P+Q*Q<s1*s1:=Int.not_lt.2 sq.1
      have m2:¬s2*s2<P*P+Q*Q:=Int.not_lt.2 sq.2
      have dl:∀j:Nat,j<xs.length→Hid (R64 (((zaB oneD xs j).getD j spkZ).2.2.1+1)):=fun j hj=>by
        have:=((ziX hc).1.sp j hj).2.2
        rw[zdf hj,if_neg (Nat.lt_irrefl _)]
        show -9223372036854775808≤((spkN xs j).2.2.1:Int)+(1:Int)∧((spkN xs j).2.2.1:Int)+(1:Int)≤9223372036854775807
        exact⟨Int.le_trans (by decide) (Int.add_le_add_right this.1 1),Int.le_trans (Int.add_le_add_right this.2 1) (by decide)⟩
      have hOp:Hid (pLen (zaB oneD xs xs.length).length):=by rw[zaq];exact hp'
      have hZp:Hid (pLen (zaB allZ xs xs.length).length):=by rw[zaq];exact hp'
      clear bP bQ iP iQ bs sq k1 k2 k3 k4 k5 j1 j2 zP zQ
      have lat2:zcG r v (zaB oneD xs xs.length) (pa,pb,pc,())=2∨(zcG r v (zaB oneD xs xs.length) (pa,pb,pc,())=0∧prC (zcr r v (zaB oneD xs xs.length) (pa,pb,pc,()))=cpxI Q (-P)):=lat
      clear lat
      rcases lat2 with o1|⟨o1,eL⟩
      · have z5:(0:Int)=0:=rfl
        repeat' (intro hzz;(try (rename Two=>hq;cases hq));(try dsimp only at hzz);(try simp only[zad,zac,eqD,inR,big,zab,zB] at hzz);(try simp only[zad,zac,eqD,inR,big,zab,zB,hl8,hc,eP,eE,eS,f1,g1,g2,g3,g4,m1,m2,o1,oZ,eZ,hpw,List.nil_append,List.length_nil,Nat.zero_add,zc5,not_true_eq_false,not_false_eq_true] at hzz);(try (have hej:=zzn (by assumption) hzz;subst hej));(try (revert hzz;intro _)))
        all_goals try (rename Unit=>hq;clear hq)
        all_goals try ((with_reducible refine Held.mk ?_);(with_reducible (first|refine Frz.mk ?_|refine And.intro (Frz.mk ?_) ?_|refine And.intro ?_ (Frz.mk ?_)));repeat' first|exact True.intro|(change _=_;with_reducible rfl)|refine And.intro ?_ ?_|(with_reducible refine Frz.mk ?_))
        all_goals try (refine Held.mk ?_;(try dsimp only at *);(try simp only[zad,zac,eqD,inR,big,zab,zB] at *);(try simp only[zad,zac,eqD,inR,big,zab,zB,hl8,hc,eP,eE,eS,f1,g1,g2,g3,g4,m1,m2,o1,oZ,eZ,hpw,List.nil_append,List.length_nil,Nat.zero_add,zc5,not_true_eq_false,not_false_eq_true] at *))
        all_goals try omega
        all_goals try first|exact hp'|exact hp2'|exact w1|exact r1|exact r2|exact r3|exact r4|exact r5|exact r6|exact hOp|exact hZp
        all_goals try (refine⟨Int.natCast_nonneg _,?_⟩;rw[zaq];assumption)
        all_goals try exact dl _ (Int.ofNat_lt.1 (by assumption))
        all_goals try first|exact zaq.symm|exact zaq
        ·
          refine zai.mk ?_
          refine Exists.intro (0:Nat) ?_
          refine And.intro (Leaf.mk ?_) ?_
          · repeat' first|exact True.intro|refine And.intro ?_ ?_
            all_goals try ((change _=_<;>try dsimp only)<;>try with_reducible rfl)
            all_goals try omega
            all_goals (first|rfl|exact zeR.symm|exact zeR)
          exact Nat.zero_le _
        · rename Nat=>j
          show -9223372036854775808≤(j:Int)+1∧(j:Int)+1≤9223372036854775807
          have h1:xs.length≤1000:=hp2'
          have h2:j<xs.length:=Int.ofNat_lt.1 (by assumption)
          omega
        · rename_i j hj hlt
          have hj':j<xs.length:=Int.ofNat_lt.1 hlt
          have e3:=zrH hj'
          have e4:=zos hj'
          refine zai.mk ?_
          refine Exists.intro (j+1) ?_
          refine And.intro (Leaf.mk ?_) ?_
          · repeat' first|exact True.intro|refine And.intro ?_ ?_
            all_goals try ((change _=_<;>try dsimp only)<;>try with_reducible rfl)
            all_goals try omega
            all_goals (first|rfl|exact e3|exact e4|exact e3.symm|exact e4.symm)
          exact⟨(show j+1≤xs.length by omega),(show xs.length - (j+1)<xs.length - j by omega)⟩
      · have z5:(0:Int)=0:=rfl
        repeat' (intro hzz;(try (rename Two=>hq;cases hq));(try dsimp only at hzz);(try simp only[zad,zac,eqD,inR,big,zab,zB] at hzz);(try simp only[zad,zac,eqD,inR,big,zab,zB,hl8,hc,eP,eE,eS,f1,g1,g2,g3,g4,m1,m2,o1,oZ,eZ,eL,hpw,List.nil_append,List.length_nil,Nat.zero_add,zc5,not_true_eq_false,not_false_eq_true] at hzz);(try (have hej:=zzn (by assumption) hzz;subst hej));(try (revert hzz;intro _)))
        all_goals try (rename Unit=>hq;clear hq)
        all_goals try ((with_reducible refine Held.mk ?_);(with_reducible (first|refine Frz.mk ?_|refine And.intro (Frz.mk ?_) ?_|refine And.intro ?_ (Frz.mk ?_)));repeat' first|exact True.intro|(change _=_;with_reducible rfl)|refine And.intro ?_ ?_|(with_reducible refine Frz.mk ?_))
        all_goals try (refine Held.mk ?_;(try dsimp only at *);(try simp only[zad,zac,eqD,inR,big,zab,zB] at *);(try simp only[zad,zac,eqD,inR,big,zab,zB,hl8,hc,eP,eE,eS,f1,g1,g2,g3,g4,m1,m2,o1,oZ,eZ,eL,hpw,List.nil_append,List.length_nil,Nat.zero_add,zc5,not_true_eq_false,not_false_eq_true] at *))
        all_goals try omega
        all_goals try first|exact hp'|exact hp2'|exact w1|exact r1|exact r2|exact r3|exact r4|exact r5|exact r6|exact hOp|exact hZp
        all_goals try (refine⟨Int.natCast_nonneg _,?_⟩;rw[zaq];assumption)
        all_goals try exact dl _ (Int.ofNat_lt.1 (by assumption))
        all_goals try first|exact zaq.symm|exact zaq
        ·
          refine zai.mk ?_
          refine Exists.intro (0:Nat) ?_
          refine And.intro (Leaf.mk ?_) ?_
          · repeat' first|exact True.intro|refine And.intro ?_ ?_
            all_goals try ((change _=_<;>try dsimp only)<;>try with_reducible rfl)
            all_goals try omega
            all_goals (first|rfl|exact zeR.symm|exact zeR)
          exact Nat.zero_le _
        · rename Nat=>j
          show -9223372036854775808≤(j:Int)+1∧(j:Int)+1≤9223372036854775807
          have h1:xs.length≤1000:=hp2'
          have h2:j<xs.length:=Int.ofNat_lt.1 (by assumption)
          omega
        · rename_i j hj hlt
          have hj':j<xs.length:=Int.ofNat_lt.1 hlt
          have e3:=zrH hj'
          have e4:=zos hj'
          refine zai.mk ?_
          refine Exists.intro (j+1) ?_
          refine And.intro (Leaf.mk ?_) ?_
          · repeat' first|exact True.intro|refine And.intro ?_ ?_
            all_goals try ((change _=_<;>try dsimp only)<;>try with_reducible rfl)
            all_goals try omega
            all_goals (first|rfl|exact e3|exact e4|exact e3.symm|exact e4.symm)
          exact⟨(show j+1≤xs.length by omega),(show xs.length - (j+1)<xs.length - j by omega)⟩
    · have e1:prC (zcr r v xs (pa,pb,pc,()))=(0,0):=by rw[show zcr r v xs (pa,pb,pc,())=([],zcG r v xs (pa,pb,pc,()),()) from if_neg hc];exact if_neg hc
      repeat' (intro hzz;(try (rename Two=>hq;cases hq));(try dsimp only at hzz);(try simp only[zad,zac,eqD,inR,big,zab,zB] at hzz);(try simp only[zad,zac,eqD,inR,big,zab,zB,hl8,hc,e1,hpw,List.nil_append,List.length_nil,Nat.zero_add,zc5,not_true_eq_false,not_false_eq_true] at hzz);(try (revert hzz;intro _)))
      all_goals try (rename Unit=>hq;clear hq)
      all_goals try ((with_reducible refine Held.mk ?_);(with_reducible (first|refine Frz.mk ?_|refine And.intro (Frz.mk ?_) ?_|refine And.intro ?_ (Frz.mk ?_)));repeat' first|exact True.intro|(change _=_;with_reducible rfl)|refine And.intro ?_ ?_|(with_reducible refine Frz.mk ?_))
      all_goals try (refine Held.mk ?_;(try dsimp only at *);(try simp only[zad,zac,eqD,inR,big,zab,zB] at *);(try simp only[zad,zac,eqD,inR,big,zab,zB,hl8,hc,e1,hpw,List.nil_append,List.length_nil,Nat.zero_add,zc5,not_true_eq_false,not_false_eq_true] at *))
      all_goals try omega
      all_goals try first|exact hp'|exact hp2'
end Go.Eng.Ar
