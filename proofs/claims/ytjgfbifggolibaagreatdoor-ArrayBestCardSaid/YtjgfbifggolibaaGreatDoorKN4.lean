/- Texts A5 A6 SQ A7 A8 A9 X1 C1 A10 A11 C2 D1 C3 C4 C5, as far as they are used. Conditions: each lemma's own. -/
import Derived.Test.YtjgfbifggolibaaGreatDoorKN3
import Derived.Laws.FloatArith
import Derived.Laws.Cover2
import Derived.WalkKit
import Derived.Deep.QuietTactic
import Derived.BigQuiet
import Derived.StillTail
namespace Go.Eng.Ar
open Go.Eng Go.Proofs
set_option linter.all false
set_option maxRecDepth 100000
set_option maxHeartbeats 8000000
def za6:List Int→Int
  | []=>0
  | e::r=>if e=0 then za6 r else e
theorem zjP {xs:List Int} {i:Nat} (h:i<xs.length):xs.drop i=xs.getD i 0::xs.drop (i+1):=by
  rw[List.drop_eq_getElem_cons h]
  simp[List.getD,List.getElem?_eq_getElem h]
theorem zav (xs:List Int) (i:Nat):List.getD xs ((i:Int)).toNat (Ty.dflt I64)=xs.getD i 0:=rfl
theorem zhx {xs:List Int} {i:Nat} (h:i<xs.length):za6 (xs.drop i)=if xs.getD i 0=0 then za6 (xs.drop (i+1)) else xs.getD i 0:=by
  rw[zjP h];rfl
def pLen (n:Nat):Prop:=(n:Int)≤4611686018427387904
theorem pLen.out {n:Nat} (h:pLen n):(n:Int)≤4611686018427387904:=h
@[reducible] def zgp:Spec:={pats:=[.dat (.sl I64)],res:=[{t:=I64}],pre:=fun x=>pLen (List.length (α:=Int) x.1),f:=fun x=>(za6 x.1,())}
def zmQ (xs:List Int):LoopAnn:={σ:=Nat×Unit,pat:=fun i=>[sI 7 i.1],inv:=fun i=>i.1≤xs.length∧za6 (xs.drop i.1)=za6 xs,meas:=fun i=>xs.length - i.1}
theorem h73:Ok 73 zgp:=by
  refine mk (ctr:=[]) trivial (nt:=15) Tryz.func73 rfl rfl rfl rfl (by kernel_rfl) (by kernel_rfl) (fun x=>[fun _=>zmQ x.1]) ?_
  rintro⟨(xs:List Int),_⟩ (hp:pLen xs.length)
  repeat' (intro hzz;(try (rename Two=>hq;cases hq));(try dsimp only at hzz);(try simp only[zad,zac,eqD,inR,big,zab,zB] at hzz);(try simp only[zad,zac,eqD,inR,big,zab,zB,zav] at hzz);(try (revert hzz;intro _)))
  all_goals try (rename Unit=>hq;clear hq)
  all_goals try ((with_reducible refine Held.mk ?_);(with_reducible (first|refine Frz.mk ?_|refine And.intro (Frz.mk ?_) ?_|refine And.intro ?_ (Frz.mk ?_)));repeat' first|exact True.intro|(change _=_;with_reducible rfl)|refine And.intro ?_ ?_|(with_reducible refine Frz.mk ?_))
  all_goals try (refine Held.mk ?_;(try dsimp only at *);(try simp only[zad,zac,eqD,inR,big,zab,zB] at *);(try simp only[zad,zac,eqD,inR,big,zab,zB,zav] at *))
  ·
    refine zaj.mk ?_
    refine Exists.intro (0,()) ?_
    refine And.intro (Leaf.mk ?_) ?_
    · repeat' first|exact True.intro|refine And.intro ?_ ?_
      all_goals try ((change _=_<;>try dsimp only)<;>try with_reducible rfl)
      all_goals try omega
    exact⟨Nat.zero_le _,rfl⟩
  · rename_i s hi hg
    obtain⟨i,u⟩:=s
    dsimp only at hi hg
    exact⟨Int.natCast_nonneg i,hg⟩
  · rename_i s hi hg hg'
    obtain⟨i,u⟩:=s
    dsimp only at hi hg hg'
    try simp only[zav] at hg' ⊢
    have hlt:i<xs.length:=by have:(i:Int)<xs.length:=hg;omega
    have h1:=zhx hlt
    replace hg':¬xs.getD i 0=0:=by simpa using hg'
    rw[if_neg hg',hi.2] at h1
    exact h1.symm
  · rename_i s hi hg hg'
    obtain⟨i,u⟩:=s
    dsimp only at hi hg hg'
    try simp only[zav] at hg' ⊢
    have:=hp.out
    have:(i:Int)<xs.length:=hg
    have h0:(0:Int)≤(i:Int):=Int.natCast_nonneg i
    omega
  · rename_i s hi hg hg'
    obtain⟨i,u⟩:=s
    dsimp only at hi hg hg'
    try simp only[zav] at hg' ⊢
    all_goals try dsimp only at hg hg'
    all_goals try simp only[zad,zac,eqD,inR,big,zab,zB] at hg hg'
    all_goals try simp only[zad,zac,eqD,inR,big,zab,zB,zav] at hg hg'
    have hlt:i<xs.length:=by have:(i:Int)<xs.length:=hg;omega
    have h1:=zhx hlt
    refine zaj.mk ?_
    refine Exists.intro (i+1,()) ?_
    refine And.intro (Leaf.mk ?_) ?_
    · repeat' first|exact True.intro|refine And.intro ?_ ?_
      all_goals try ((change _=_<;>try dsimp only)<;>try with_reducible rfl)
      all_goals try omega
    replace hg':xs.getD i 0=0:=by simpa using hg'
    rw[if_pos hg'] at h1
    exact⟨⟨hlt,h1.symm.trans hi.2⟩,by simp only[zmQ];omega⟩
  · rename_i s hi hg
    obtain⟨i,u⟩:=s
    dsimp only at hi hg
    have h1:=hi.2
    rw[List.drop_eq_nil_of_le (by have:(xs.length:Int)≤(i:Int):=hg;omega)] at h1
    exact h1
abbrev SpkD:Type:=SpkT.Den
abbrev spkZ:SpkD:=Ty.dflt SpkT
def zfV (s:SpkD):Int:=if zea s.1.1 s.1.2.1 s.1.2.2.1=0 then zfA s.2.1 s.2.2.1 else zea s.1.1 s.1.2.1 s.1.2.2.1
theorem zeY (s:SpkD):za6 [zea s.1.1 s.1.2.1 s.1.2.2.1,zfA s.2.1 s.2.2.1]=zfV s:=by
  simp only[za6,zfV]
  split
  · split<;>simp_all
  · rfl
def zle (xs:List SpkD):Nat→Nat→Int×Int
  | 0,_=>(0,0)
  | k+1,i=>if zfV (xs.getD i spkZ)=0 then zle xs k (i+1) else ((i:Int),zfV (xs.getD i spkZ))
def zlS (r v:Int) (n:Nat):Int:=if zje r v=0 then (if n=0 then 10 else if n≤8 then 0 else 8) else zje r v
theorem zvJ (r v:Int) (n:Nat):za6 [zje r v,bif decide ((0:Int)<(n:Int)) then 0 else 10,bif decide ((n:Int)≤8) then 0 else 8]=zlS r v n:=by
  simp only[za6,zlS]
  split
  · by_cases h1:n=0
    · subst h1;rfl
    · rw[decide_eq_true (show (0:Int)<(n:Int) by omega),if_neg h1]
      by_cases h2:n≤8
      · rw[decide_eq_true (show (n:Int)≤8 by omega),if_pos h2];rfl
      · rw[decide_eq_false (show ¬(n:Int)≤8 by omega),if_neg h2];rfl
  · rfl
def chkA (r v:Int) (xs:List SpkD):Int×Int:=if zlS r v xs.length=0 then zle xs xs.length 0 else (0,zlS r v xs.length)
theorem zdq {xs:List SpkD} {i:Nat} (h:i<xs.length):zle xs (xs.length - i) i=if zfV (xs.getD i spkZ)=0 then zle xs (xs.length - (i+1)) (i+1) else ((i:Int),zfV (xs.getD i spkZ)):=by
  obtain⟨k,hk⟩:∃k,xs.length - i=k+1:=⟨xs.length - i - 1,by omega⟩
  rw[hk,show xs.length - (i+1)=k by omega];rfl
@[reducible] def zfk:Spec:={pats:=[.dat ArrT],res:=[{t:=zbY}],pre:=fun _=>True,f:=fun x=>((x.1.1,x.1.2.1,()),())}
theorem h84:Ok 84 zfk:=by
  refine mk (ctr:=[]) trivial (nt:=8) Tryz.func84 rfl rfl rfl rfl (by kernel_rfl) (by kernel_rfl) (fun _=>[]) ?_
  rintro⟨⟨(r:Int),(v:Int),(xs:List SpkD),_⟩,_⟩ _
  repeat' (intro hzz;(try (rename Two=>hq;cases hq));(try dsimp only at hzz);(try simp only[zad,zac,eqD,inR,big,zab,zB] at hzz);(try (revert hzz;intro _)))
  all_goals try (rename Unit=>hq;clear hq)
  all_goals try ((with_reducible refine Held.mk ?_);(with_reducible (first|refine Frz.mk ?_|refine And.intro (Frz.mk ?_) ?_|refine And.intro ?_ (Frz.mk ?_)));repeat' first|exact True.intro|(change _=_;with_reducible rfl)|refine And.intro ?_ ?_|(with_reducible refine Frz.mk ?_))
  all_goals try (refine Held.mk ?_;(try dsimp only at *);(try simp only[zad,zac,eqD,inR,big,zab,zB] at *))
  all_goals try omega
@[reducible] def zoA:Spec:={pats:=[.dat ArrT],res:=[{t:=I64},{t:=I64}],pre:=fun x=>pLen (List.length (α:=SpkD) x.1.2.2.1),f:=fun x=>((chkA x.1.1 x.1.2.1 x.1.2.2.1).1,(chkA x.1.1 x.1.2.1 x.1.2.2.1).2,())}
def zwd (r v:Int) (xs:List SpkD):LoopAnn:={σ:=Nat,pat:=fun k=>[sI 29 k],inv:=fun k=>k≤xs.length∧zle xs (xs.length - k) k=chkA r v xs,meas:=fun k=>xs.length - k}
theorem h25:Ok 25 zoA:=by
  refine mk (ctr:=[(73,zgp),(74,zg7),(75,zkq),(84,zfk),(85,zcH),(86,zks)]) ⟨h73,h74,h75,h84,h85,h86,trivial⟩ (nt:=49) Tryz.func25 rfl rfl rfl rfl (by kernel_rfl) (by kernel_rfl) (fun x=>[fun _=>zwd x.1.1 x.1.2.1 x.1.2.2.1]) ?_
  rintro⟨⟨(r:Int),(v:Int),(xs:List SpkD),_⟩,_⟩ (hp:pLen xs.length)
  have hp':=hp.out
  repeat' (intro hzz;(try (rename Two=>hq;cases hq));(try dsimp only at hzz);(try simp only[zad,zac,eqD,inR,big,zab,zB] at hzz);(try simp only[zad,zac,eqD,inR,big,zab,zB,zvJ] at hzz);(try (revert hzz;intro _)))
  all_goals try (rename Unit=>hq;clear hq)
  all_goals try ((with_reducible refine Held.mk ?_);(with_reducible (first|refine Frz.mk ?_|refine And.intro (Frz.mk ?_) ?_|refine And.intro ?_ (Frz.mk ?_)));repeat' first|exact True.intro|(change _=_;with_reducible rfl)|refine And.intro ?_ ?_|(with_reducible refine Frz.mk ?_))
  all_goals try (refine Held.mk ?_;(try dsimp only at *);(try simp only[zad,zac,eqD,inR,big,zab,zB] at *);(try simp only[zad,zac,eqD,inR,big,zab,zB,zvJ] at *))
  all_goals try omega
  · show ((3:Nat):Int)≤4611686018427387904
    decide
  · rename_i h
    unfold chkA;rw[if_neg h];exact⟨rfl,rfl⟩
  · rename_i h
    refine zaj.mk ?_
    refine Exists.intro (0:Nat) ?_
    refine And.intro (Leaf.mk ?_) ?_
    · repeat' first|exact True.intro|refine And.intro ?_ ?_
      all_goals try ((change _=_<;>try dsimp only)<;>try with_reducible rfl)
      all_goals try omega
      all_goals (rfl)
    exact⟨Nat.zero_le _,by unfold chkA;rw[if_pos h];rfl⟩
  · show ((2:Nat):Int)≤4611686018427387904
    decide
  · rename_i k hk hlt h
    have e:=hk.2
    have hlt:k<xs.length:=by omega
    have h:¬zfV (xs.getD k spkZ)=0:=fun h'=>h ((zeY _).trans h')
    rw[zdq hlt,if_neg h] at e
    rw[←e]
    exact⟨rfl,zeY _⟩
  · rename_i k hk hlt h
    have e:=hk.2
    have hlt:k<xs.length:=by omega
    have h:zfV (xs.getD k spkZ)=0:=(zeY _).symm.trans h
    rw[zdq hlt,if_pos h] at e
    refine zaj.mk ?_
    refine Exists.intro (k+1) ?_
    refine And.intro (Leaf.mk ?_) ?_
    · repeat' first|exact True.intro|refine And.intro ?_ ?_
      all_goals try ((change _=_<;>try dsimp only)<;>try with_reducible rfl)
      all_goals try omega
      all_goals (rfl)
    exact⟨⟨hlt,e⟩,(show xs.length - (k+1)<xs.length - k by omega)⟩
  · rename_i k hk hlt
    have e:=hk.2
    rw[show xs.length - k=0 by omega] at e
    rw[←e];exact⟨rfl,rfl⟩
end Go.Eng.Ar
namespace Go.Eng
open Ieee
set_option linter.all false
theorem zv6 {n drop B:Nat} {neg:Bool} (h:n<2 ^ (B+drop)):Toward.even.cut neg n drop≤2 ^ B:=by
  unfold Toward.cut
  dsimp only
  have hgap:∀g:Nat,0<g→n / g+(if (decide (g<2*(n % g)) || (g == 2*(n % g)&&n / g % 2 == 1))=true then 1 else 0)≤n / g+1:=fun g _=>by split<;>omega
  rw[Nat.one_shiftLeft]
  have hb:∀b:Bool,b.toNat≤1:=fun b=>by cases b<;>decide
  refine Nat.le_trans (Nat.add_le_add_left (hb _) _) ?_
  rcases Nat.le_total drop (n.log2+2) with hd|hd
  · rw [Nat.min_eq_left hd]
    have:n / 2 ^ drop<2 ^ B:=by
      rw[Nat.div_lt_iff_lt_mul (Nat.two_pow_pos _),←Nat.pow_add];exact h
    omega
  · rw [Nat.min_eq_right hd]
    have : n / 2 ^ (n.log2+2)=0:=by
      refine Nat.div_eq_of_lt ?_
      have:=Nat.lt_log2_self (n:=n)
      calc n<2 ^ (n.log2+1):=this
        _≤2 ^ (n.log2+2):=Nat.pow_le_pow_right (by decide) (by omega)
    rw[this]
    have:=Nat.two_pow_pos B
    omega
theorem zpd {mag:Nat} {place:Int} {R:Nat} (h1R:1≤R) (hR:place+mag.log2+1022<R):∃r,double.nearest false mag place=r∧r≤(R+1)*2 ^ 52:=by
  refine⟨_,rfl,?_⟩
  unfold Format.nearest
  split
  · exact Nat.zero_le _
  dsimp only
  have hw:∀x,double.word false x=x:=fun x=>rfl
  rw[hw]
  refine Nat.le_trans (Nat.min_le_left _ _) ?_
  have hl:double.leastPlace = -1074:=by decide
  have hf:double.fractionBits=52:=rfl
  have hbn:double.binade=2 ^ 52:=rfl
  rw[hl,hf,hbn]
  obtain⟨last,hlast⟩:∃last,max (place+(mag.log2:Int) - ((52:Nat):Int)) (-1074)=last:=⟨_,rfl⟩
  rw[hlast]
  have hk:Toward.even.cut false (mag <<< (place - last).toNat) (last - place).toNat≤2 ^ 53:=by
    refine zv6 ?_
    rw[Nat.shiftLeft_eq]
    have hm:=Nat.lt_log2_self (n:=mag)
    calc mag*2 ^ (place - last).toNat<2 ^ (mag.log2+1)*2 ^ (place - last).toNat:=Nat.mul_lt_mul_of_pos_right hm (Nat.two_pow_pos _)
      _=2 ^ (mag.log2+1+(place - last).toNat):=(Nat.pow_add ..).symm
      _≤2 ^ (53+(last - place).toNat):=Nat.pow_le_pow_right (by decide) (by omega)
  have h53:2 ^ 53=2*2 ^ 52:=rfl
  rw[h53] at hk
  have hx:(last - -1074).toNat+2≤R+1:=by omega
  refine Nat.le_trans (Nat.add_le_add_left hk _) ?_
  rw[←Nat.add_mul]
  exact Nat.mul_le_mul_right _ hx
theorem zoR {r R:Nat} (h1:1≤R) (hR:R≤2000) (h:r≤R*2 ^ 52):∃m p,double.read r=.number false m p∧m<2 ^ 53∧p≤(R:Int) - 1075:=by
  have hs:double.signWeight=2 ^ 63:=by decide
  have hb:double.binade=2 ^ 52:=rfl
  have hi:double.infRung=2047*2 ^ 52:=by decide
  have hl:double.leastPlace = -1074:=by decide
  unfold Format.read
  rw[hs,hb,hi,hl]
  have hr:r<2 ^ 63:=by omega
  have e1:r / 2 ^ 63=0:=Nat.div_eq_of_lt hr
  have e2:r % 2 ^ 63=r:=Nat.mod_eq_of_lt hr
  rw[e1,e2]
  dsimp only
  have hn:(0 % 2 == 1)=false:=rfl
  rw[hn]
  split
  · rename_i h2
    exact⟨r,-1074,rfl,by omega,by omega⟩
  · rw[if_pos (by omega)]
    refine⟨_,_,rfl,by omega,?_⟩
    omega
theorem ze0 (n:Nat):∀(todo root:Nat),Datum.rootFrom n todo root<root+2 ^ todo
  | 0,root=>by simp[Datum.rootFrom]
  | todo+1,root=>by
    unfold Datum.rootFrom
    dsimp only
    rw[Nat.one_shiftLeft,Nat.pow_succ]
    split
    · have:=ze0 n todo (root+2 ^ todo);omega
    · have:=ze0 n todo root
      have:=Nat.two_pow_pos todo
      omega
theorem log2_lt {m k:Nat} (h:m<2 ^ k) (hk:1≤k):m.log2≤k - 1:=by
  rcases Nat.eq_zero_or_pos m with rfl|hm
  · simp
  · have:=(Nat.log2_lt (by omega)).2 h
    omega
theorem zsX {m:Nat} {i:Int} (hm:m<2 ^ 53) (hi:i≤-2):∃m' p',(Datum.number false m i).root 54=some (.number false m' p')∧(m'=0∨p'+m'.log2+1022<1048):=by
  simp only[Datum.root,Bool.false_eq_true,if_false]
  split
  · rename_i h;exact⟨m,i,rfl,.inl h⟩
  · rename_i hne
    have hl:m.log2≤52:=log2_lt hm (by decide)
    obtain⟨more,hmore⟩:∃more,2*54 - m.log2+((i - ((2*54 - m.log2:Nat):Int)) % 2).toNat=more:=⟨_,rfl⟩
    rw[hmore]
    have h1:56≤more:=by omega
    have h2:m.log2+more≤109:=by omega
    obtain⟨n,hn⟩:∃n,m <<< more=n:=⟨_,rfl⟩
    rw[hn]
    have hnl:n.log2≤109:=by
      have : n<2 ^ 110:=by
        rw[←hn,Nat.shiftLeft_eq]
        have hm':=Nat.lt_log2_self (n:=m)
        calc m*2 ^ more<2 ^ (m.log2+1)*2 ^ more:=Nat.mul_lt_mul_of_pos_right hm' (Nat.two_pow_pos _)
          _=2 ^ (m.log2+1+more):=(Nat.pow_add ..).symm
          _≤2 ^ 110:=Nat.pow_le_pow_right (by decide) (by omega)
      exact log2_lt this (by decide)
    refine⟨_,_,rfl,.inr ?_⟩
    have hw:=ze0 n (n.log2 / 2+1) 0
    have hw2:Datum.rootFrom n (n.log2 / 2+1) 0<2 ^ 55:=by
      refine Nat.lt_of_lt_of_le (by simpa using hw) (Nat.pow_le_pow_right (by decide) (by omega))
    have hb:∀b:Bool,b.toNat≤1:=fun b=>by cases b<;>decide
    have hmag:2*Datum.rootFrom n (n.log2 / 2+1) 0+(Datum.rootFrom n (n.log2 / 2+1) 0*Datum.rootFrom n (n.log2 / 2+1) 0 != n).toNat<2 ^ 56:=by
      have:=hb (Datum.rootFrom n (n.log2 / 2+1) 0*Datum.rootFrom n (n.log2 / 2+1) 0 != n)
      omega
    have hlm:=log2_lt hmag (by decide)
    omega
theorem ztS {m drop:Nat} (hm:m<2 ^ 53) (hd:26≤drop):Toward.zero.cut false m drop≤134217728:=by
  unfold Toward.cut
  dsimp only
  rw[Nat.one_shiftLeft]
  show m / 2 ^ min drop (m.log2+2)+0≤_
  rcases Nat.le_total drop (m.log2+2) with h|h
  · rw[Nat.min_eq_left h]
    have h1:m / 2 ^ drop≤m / 2 ^ 26:=Nat.div_le_div_left (Nat.pow_le_pow_right (by decide) hd) (Nat.two_pow_pos _)
    have h2:m / 2 ^ 26<2 ^ 27:=by omega
    omega
  · rw [Nat.min_eq_right h]
    have : m / 2 ^ (m.log2+2)=0:=by
      refine Nat.div_eq_of_lt ?_
      have:=Nat.lt_log2_self (n:=m)
      calc m<2 ^ (m.log2+1):=this
        _≤2 ^ (m.log2+2):=Nat.pow_le_pow_right (by decide) (by omega)
    omega
theorem zuw {n:Int} (h0:0≤n) (h1:n<1125899906842624):∃r v,FloatKind.f64.format.sqrt (floatOfInt .f64 n)=some r∧floatToIntVal .f64 r .i64=some v∧0≤v∧v≤134217728:=by
  have e0:floatOfInt .f64 n=double.nearest false n.natAbs 0:=by
    show double.nearest (decide (n<0)) n.natAbs 0=_
    rw[decide_eq_false (by omega)]
  have hl:n.natAbs.log2≤49:=log2_lt (k:=50) (by omega) (by decide)
  obtain⟨x,hx,hxr⟩:=zpd (mag:=n.natAbs) (place:=0) (R:=1072) (by decide) (by omega)
  obtain⟨m,i,hr,hm,hi⟩:=zoR (R:=1073) (by decide) (by decide) hxr
  obtain⟨m',p',hroot,hcase⟩:=zsX (m:=m) (i:=i) hm (by omega)
  have hs:FloatKind.f64.format.sqrt (floatOfInt .f64 n)=some (double.nearest false m' p'):=by
    rw[e0,hx]
    show ((double.read x).root 54).map double.write=_
    rw[hr,hroot];rfl
  have hy:double.nearest false m' p'≤1049*2 ^ 52:=by
    rcases hcase with h|h
    · subst h
      have:double.nearest false 0 p'=0:=by unfold Format.nearest;rw[if_pos rfl];rfl
      rw[this];exact Nat.zero_le _
    · obtain⟨y,hy,hyr⟩:=zpd (mag:=m') (place:=p') (R:=1048) (by decide) h
      rw[hy];exact hyr
  obtain⟨m2,p2,hr2,hm2,hp2⟩:=zoR (R:=1049) (by decide) (by decide) hy
  have hz:p2.toNat=0:=by omega
  have hc:=ztS (m:=m2) (drop:=(-p2).toNat) hm2 (by omega)
  refine⟨_,(Toward.zero.cut false m2 (-p2).toNat:Nat),hs,?_,by omega,by omega⟩
  unfold floatToIntVal
  have ht:(FloatKind.f64.decode (double.nearest false m' p')).toInt .zero=some ((Toward.zero.cut false m2 (-p2).toNat:Nat):Int):=by
    show (double.read (double.nearest false m' p')).toInt .zero=_
    rw[hr2]
    simp only[Datum.toInt,Datum.integral,hz,Nat.shiftLeft_zero,signed,Bool.false_eq_true,if_false]
  rw[ht]
  have hmin:IntKind.min .i64 = -9223372036854775808:=by decide
  have hmax:IntKind.max .i64=9223372036854775807:=by decide
  dsimp only
  rw[if_pos (by rw[hmin,hmax];omega)]
end Go.Eng
namespace Go.Eng.Ar
open Go.Eng Go.Proofs
set_option linter.all false
set_option maxRecDepth 100000
set_option maxHeartbeats 8000000
@[reducible] def zuD:Spec:={pats:=[.dat (.flt .f64)],res:=[{t:=.flt .f64}],pre:=fun x=>(FloatKind.f64.format.sqrt x.1).isSome=true,f:=fun x=>((FloatKind.f64.format.sqrt x.1).getD 0,())}
theorem h149:Ok 149 zuD:=by
  refine mk (ctr:=[]) trivial (nt:=5) Tryz.func149 rfl rfl rfl rfl (by kernel_rfl) (by kernel_rfl) (fun _=>[]) ?_
  rintro⟨(x:Nat),_⟩ h
  repeat' (intro hzz;(try (rename Two=>hq;cases hq));(try dsimp only at hzz);(try simp only[zad,zac,eqD,inR,big,zab,zB] at hzz);(try (revert hzz;intro _)))
  all_goals try (rename Unit=>hq;clear hq)
  all_goals try ((with_reducible refine Held.mk ?_);(with_reducible (first|refine Frz.mk ?_|refine And.intro (Frz.mk ?_) ?_|refine And.intro ?_ (Frz.mk ?_)));repeat' first|exact True.intro|(change _=_;with_reducible rfl)|refine And.intro ?_ ?_|(with_reducible refine Frz.mk ?_))
  all_goals try (refine Held.mk ?_;(try dsimp only at *);(try simp only[zad,zac,eqD,inR,big,zab,zB] at *))
  all_goals (first|exact h|trace_state)
def rtGo:Nat→Nat→Nat→Nat
  | 0,r,_=>r
  | k+1,r,n=>bif Nat.ble ((r+2 ^ k)*(r+2 ^ k)) n then rtGo k (r+2 ^ k) n else rtGo k r n
def rt (n:Nat):Nat:=rtGo 31 0 n
theorem zhc:∀(k r n:Nat),r*r≤n→n<(r+2 ^ k)*(r+2 ^ k)→rtGo k r n*rtGo k r n≤n∧n<(rtGo k r n+1)*(rtGo k r n+1)
  | 0,r,n,h1,h2=>⟨h1,by simpa [rtGo] using h2⟩
  | k + 1,r,n,h1,h2=>by
    simp only[rtGo]
    cases hb:Nat.ble ((r+2 ^ k)*(r+2 ^ k)) n with
    | true=>
      have:=Nat.le_of_ble_eq_true hb
      refine zhc k _ n this ?_
      rw[show r+2 ^ k+2 ^ k=r+2 ^ (k+1) by rw[Nat.pow_succ];omega]
      exact h2
    | false=>
      refine zhc k r n h1 ?_
      rcases Nat.lt_or_ge n ((r+2 ^ k)*(r+2 ^ k)) with h|h
      · exact h
      · rw[Nat.ble_eq_true_of_le h] at hb;cases hb
theorem zoH {n:Nat} (h:n<2 ^ 62):rt n*rt n≤n∧n<(rt n+1)*(rt n+1):=zhc 31 0 n (by omega) (by simpa using h)
theorem zsK {n a b:Nat} (h1:a*a≤n) (h2:n<(a+1)*(a+1)) (h3:b*b≤n) (h4:n<(b+1)*(b+1)):a=b:=by
  rcases Nat.lt_trichotomy a b with h|h|h
  · have:=Nat.mul_le_mul (show a+1≤b by omega) (show a+1≤b by omega);omega
  · exact h
  · have:=Nat.mul_le_mul (show b+1≤a by omega) (show b+1≤a by omega);omega
abbrev zdD (n:Int):Prop:=0≤n∧n<1125899906842624
def rtI (n:Int):Int:=(rt n.toNat:Int)
theorem zfl {n:Int} (h:zdD n):0≤rtI n∧rtI n*rtI n≤n∧n<(rtI n+1)*(rtI n+1)∧rtI n<33554432:=by
  obtain⟨e1,e2⟩:=zoH (n:=n.toNat) (by omega)
  have g1:((rt n.toNat*rt n.toNat:Nat):Int)=rtI n*rtI n:=by simp[rtI]
  have g2:(((rt n.toNat+1)*(rt n.toNat+1):Nat):Int)=(rtI n+1)*(rtI n+1):=by simp[rtI]
  have g3:((rt n.toNat:Nat):Int)=rtI n:=rfl
  have g4:rt n.toNat<33554432:=by
    rcases Nat.lt_or_ge (rt n.toNat) 33554432 with h'|h'
    · exact h'
    · have:=Nat.mul_le_mul h' h';omega
  exact⟨by omega,by omega,by omega,by omega⟩
theorem zuS {n:Int} (h:zdD n) {r:Nat} (h1:(r:Int)*r≤n) (h2:n<((r:Int)+1)*((r:Int)+1)):(r:Int)=rtI n:=by
  obtain⟨e1,e2⟩:=zoH (n:=n.toNat) (by omega)
  have g1:((r*r:Nat):Int)=(r:Int)*r:=by simp
  have g2:(((r+1)*(r+1):Nat):Int)=((r:Int)+1)*((r:Int)+1):=by simp
  have:=zsK (n:=n.toNat) (a:=r) (b:=rt n.toNat) (by omega) (by omega) e1 e2
  rw[this];rfl
theorem zom {n:Int} {r:Nat} (h:zdD n) (h1:(r:Int)*r≤n):r<33554432:=by
  have g1:((r*r:Nat):Int)=(r:Int)*r:=by simp
  rcases Nat.lt_or_ge r 33554432 with h'|h'
  · exact h'
  · have:=Nat.mul_le_mul h' h';omega
theorem zuy {r:Nat} (h:r≤134217728):0≤(r:Int)*r∧(r:Int)*r≤18014398509481984:=by
  have g1:((r*r:Nat):Int)=(r:Int)*r:=by simp
  have:=Nat.mul_le_mul h h
  omega
@[reducible] def zqJ:Spec:={pats:=[.dat I64],res:=[{t:=I64}],pre:=fun x=>zdD x.1,f:=fun x=>(rtI x.1,())}
def zqM (n:Int):LoopAnn:={σ:=Nat,pat:=fun r=>[sI 3 r],inv:=fun r=>r≤134217728,meas:=fun r=>r}
def zqL (n:Int):LoopAnn:={σ:=Nat,pat:=fun r=>[sI 3 r],inv:=fun r=>(r:Int)*r≤n,meas:=fun r=>33554432 - r}
theorem h112:Ok 112 zqJ:=by
  refine mk (ctr:=[(149,zuD)]) ⟨h149,trivial⟩ (nt:=25) Tryz.func112 rfl rfl rfl rfl (by kernel_rfl) (by kernel_rfl) (fun x=>[fun _=>zqM x.1,fun _=>zqL x.1]) ?_
  rintro⟨(n:Int),_⟩ (hn:zdD n)
  obtain⟨x,v,hx,hv,hv0,hv1⟩:=zuw hn.1 hn.2
  repeat' (intro hzz;(try (rename Two=>hq;cases hq));(try dsimp only at hzz);(try simp only[zad,zac,eqD,inR,big,zab,zB] at hzz);(try simp only[zad,zac,eqD,inR,big,zab,zB,hx,Option.getD_some,Option.isSome_some] at hzz);(try (revert hzz;intro _)))
  all_goals try (rename Unit=>hq;clear hq)
  all_goals try ((with_reducible refine Held.mk ?_);(with_reducible (first|refine Frz.mk ?_|refine And.intro (Frz.mk ?_) ?_|refine And.intro ?_ (Frz.mk ?_)));repeat' first|exact True.intro|(change _=_;with_reducible rfl)|refine And.intro ?_ ?_|(with_reducible refine Frz.mk ?_))
  all_goals try (refine Held.mk ?_;(try dsimp only at *);(try simp only[zad,zac,eqD,inR,big,zab,zB] at *);(try simp only[zad,zac,eqD,inR,big,zab,zB,hx,Option.getD_some,Option.isSome_some] at *))
  all_goals try omega
  · rw[hv];rfl
  ·
    refine zaj.mk ?_
    refine Exists.intro v.toNat ?_
    refine And.intro (Leaf.mk ?_) ?_
    · repeat' first|exact True.intro|refine And.intro ?_ ?_
      all_goals try ((change _=_<;>try dsimp only)<;>try with_reducible rfl)
      all_goals try omega
      all_goals ((rw[hx,Option.getD_some,hv,Option.getD_some];omega))
    omega
  · rename_i r hr
    have:=zuy hr;omega
  · rename_i r hr h
    have h0:r≠0:=fun e=>by subst e;have:=hn.1;simp at h;omega
    refine zaj.mk ?_
    refine Exists.intro (r - 1) ?_
    refine And.intro (Leaf.mk ?_) ?_
    · repeat' first|exact True.intro|refine And.intro ?_ ?_
      all_goals try ((change _=_<;>try dsimp only)<;>try with_reducible rfl)
      all_goals try omega
      all_goals (omega)
    exact⟨(show r - 1≤134217728 by omega),(show r - 1<r by omega)⟩
  · rename_i r hr h
    refine zaj.mk ?_
    refine Exists.intro r ?_
    refine And.intro (Leaf.mk ?_) ?_
    · repeat' first|exact True.intro|refine And.intro ?_ ?_
      all_goals try ((change _=_<;>try dsimp only)<;>try with_reducible rfl)
      all_goals try omega
      all_goals (rfl)
    exact h
  · rename_i q hq hqn r h
    have:=zom hn h;omega
  · rename_i q hq hqn r h
    have:=zom hn h;omega
  · rename_i q hq hqn r h
    have hlt:=zom hn h
    have:=zuy (r:=r+1) (by omega)
    push_cast at this
    omega
  · rename_i q hq hqn r h1 h
    have:=zom hn h1;omega
  · rename_i q hq hqn r h1 h
    have hlt:=zom hn (r:=r+1) (by push_cast;exact h)
    refine zaj.mk ?_
    refine Exists.intro (r+1) ?_
    refine And.intro (Leaf.mk ?_) ?_
    · repeat' first|exact True.intro|refine And.intro ?_ ?_
      all_goals try ((change _=_<;>try dsimp only)<;>try with_reducible rfl)
      all_goals try omega
      all_goals ((push_cast;rfl))
    exact⟨(show ((r+1:Nat):Int)*((r+1:Nat):Int)≤n by push_cast;exact h),(show 33554432 - (r+1)<33554432 - r by omega)⟩
  · rename_i q hq hqn r h1 h
    exact zuS hn h1 h
theorem ztc {f:Nat} {pats:List Pat} {res:List RC} {pre pre':(zac pats).Den→Prop} {F F':(zac pats).Den→(zad res).Den} (h:Ok f {pats:=pats,res:=res,pre:=pre,f:=F}) (hp:∀x,pre' x→pre x) (hf:∀x,pre' x→F x=F' x):Ok f {pats:=pats,res:=res,pre:=pre',f:=F'}:=by
  refine⟨fun w M x vs bs hM hA hx=>?_,h.2⟩
  have h1:=h.1 w M x vs bs hM hA (hp x hx)
  have h2:F x=F' x:=hf x hx
  refine h1.mono fun e w' ⟨rs,g,e1,e2,e3⟩=>⟨rs,g,e1,e2,?_⟩
  have e3:zfR w' _ _ res (F x) rs g:=e3
  rw[h2] at e3;exact e3
abbrev zan:Type:=zbM.Den
abbrev wr (n:Int):Int:=RowKit.wrap64 n
theorem zqy {n:Int} (h : -9223372036854775808≤n∧n≤9223372036854775807):wr n=n:=by
  unfold wr RowKit.wrap64;omega
def dW (x y:Int):Int:=wr (wr (x - y)*wr (x - y))
def dP (x y:Int):Int:=(x - y)*(x - y)
def sqWC (a1 a2 a3 b1 b2 b3:Int):Int:=wr (wr (dW a1 b1+dW a2 b2)+dW a3 b3)
def sqC (a1 a2 a3 b1 b2 b3:Int):Int:=dP a1 b1+dP a2 b2+dP a3 b3
def sqW (a b:zan):Int:=sqWC a.1 a.2.1 a.2.2.1 b.1 b.2.1 b.2.2.1
def sqP (a b:zan):Int:=sqC a.1 a.2.1 a.2.2.1 b.1 b.2.1 b.2.2.1
def inC (x:Int):Prop:=-5000≤x∧x≤5000
def inP (p:zan):Prop:=inC p.1∧inC p.2.1∧inC p.2.2.1
theorem zgz {p:zan} (h:zea p.1 p.2.1 p.2.2.1=0):inP p:=by
  simp only[zea] at h
  split at h
  · assumption
  · cases h
theorem sq_b {x:Int} (h1 : -10000≤x) (h2:x≤10000):0≤x*x∧x*x≤100000000:=by
  by_cases h:0≤x
  · exact⟨Int.mul_nonneg h h,Int.mul_le_mul h2 h2 h (by omega)⟩
  · have e:x*x=(-x)*(-x):=by rw[Int.neg_mul_neg]
    have h3 : -x≤10000:=by omega
    have h4:0≤-x:=by omega
    rw[e]
    exact⟨Int.mul_nonneg h4 h4,Int.mul_le_mul h3 h3 h4 (by decide)⟩
theorem zia {x y:Int} (hx:inC x) (hy:inC y):0≤dP x y∧dP x y≤100000000:=by
  obtain⟨h1,h2⟩:=hx
  obtain⟨h3,h4⟩:=hy
  exact sq_b (by omega) (by omega)
theorem ztR {x y:Int} (hx:inC x) (hy:inC y):dW x y=dP x y:=by
  have h:=zia hx hy
  obtain⟨h1,h2⟩:=hx
  obtain⟨h3,h4⟩:=hy
  unfold dW dP at *
  rw[zqy (n:=x - y) (by omega),zqy (by omega)]
theorem zon {a b:zan} (ha:inP a) (hb:inP b):0≤sqP a b∧sqP a b≤300000000:=by
  have h1:=zia ha.1 hb.1
  have h2:=zia ha.2.1 hb.2.1
  have h3:=zia ha.2.2 hb.2.2
  unfold sqP sqC;omega
theorem zrI {a b:zan} (ha:inP a) (hb:inP b):sqW a b=sqP a b:=by
  have h1:=zia ha.1 hb.1
  have h2:=zia ha.2.1 hb.2.1
  have h3:=zia ha.2.2 hb.2.2
  unfold sqW sqP sqWC sqC
  rw[ztR ha.1 hb.1,ztR ha.2.1 hb.2.1,ztR ha.2.2 hb.2.2]
  rw[zqy (n:=dP a.1 b.1+dP a.2.1 b.2.1) (by omega)]
  exact zqy (by omega)
@[reducible] def zlt:Spec:={pats:=[.dat WayT],res:=[{t:=I64}],pre:=fun _=>True,f:=fun x=>(sqW x.1.1 x.1.2.1,())}
def cl (n b:Int):Int:=-(-n / b)
theorem zqc {n b:Int} (hn:0≤n) (hb:0<b):(n+b - 1).tdiv b=cl n b:=by
  rw[Int.tdiv_eq_ediv_of_nonneg (by omega)]
  unfold cl
  have h1:=Int.emod_nonneg (n+b - 1) (show b≠0 by omega)
  have h2:=Int.emod_lt_of_pos (n+b - 1) hb
  have h3:=Int.emod_def (n+b - 1) b
  have h4:(-n) / b = -((n+b - 1) / b):=by
    refine Int.ediv_eq_iff_of_pos hb |>.2 ⟨?_,?_⟩
    · rw[Int.neg_mul];rw[Int.mul_comm] ;omega
    · rw[Int.neg_mul,Int.mul_comm];omega
  omega
abbrev pNs (n:Int):Prop:=0≤n∧n≤1000000000000000000
abbrev pAb (n b:Int):Prop:=(0≤n∧n≤1000000000000000000)∧(0<b∧b≤1000000000000000000)
@[reducible] def zoE:Spec:={pats:=[.dat I64,.dat I64],res:=[{t:=I64}],pre:=fun x=>pAb x.1 x.2.1,f:=fun x=>(cl x.1 x.2.1,())}
theorem zmU {n b:Int} (hn:0≤n) (hb:0<b):0≤n / b∧n / b≤n:=⟨Int.ediv_nonneg hn (by omega),Int.ediv_le_self _ hn⟩
theorem zrq {n b:Int} (hn:0≤n) (hb:0<b):0≤cl n b∧cl n b≤n:=by
  rw[←zqc hn hb,Int.tdiv_eq_ediv_of_nonneg (by omega)]
  refine⟨Int.ediv_nonneg (by omega) (by omega),?_⟩
  by_cases h0:n=0
  · subst h0
    have:=Int.ediv_eq_zero_of_lt (a:=0+b - 1) (b:=b) (by omega) (by omega)
    omega
  · refine Int.lt_add_one_iff.1 (Int.ediv_lt_of_lt_mul hb ?_)
    have:1*(b - 1)≤n*(b - 1):=Int.mul_le_mul_of_nonneg_right (by omega) (by omega)
    rw[Int.one_mul,Int.mul_sub,Int.mul_one] at this
    rw[Int.add_mul,Int.one_mul]
    omega
theorem h136:Ok 136 zoE:=by
  refine mk (ctr:=[]) trivial (nt:=11) Tryz.func136 rfl rfl rfl rfl (by kernel_rfl) (by kernel_rfl) (fun _=>[]) ?_
  rintro⟨(n:Int),(b:Int),_⟩ ⟨(h1:0≤n∧n≤1000000000000000000),(h2:0<b∧b≤1000000000000000000)⟩
  have e:=zqc h1.1 h2.1
  have e2:=zrq h1.1 h2.1
  repeat' (intro hzz;(try (rename Two=>hq;cases hq));(try dsimp only at hzz);(try simp only[zad,zac,eqD,inR,big,zab,zB] at hzz);(try simp only[zad,zac,eqD,inR,big,zab,zB,e] at hzz);(try (revert hzz;intro _)))
  all_goals try (rename Unit=>hq;clear hq)
  all_goals try ((with_reducible refine Held.mk ?_);(with_reducible (first|refine Frz.mk ?_|refine And.intro (Frz.mk ?_) ?_|refine And.intro ?_ (Frz.mk ?_)));repeat' first|exact True.intro|(change _=_;with_reducible rfl)|refine And.intro ?_ ?_|(with_reducible refine Frz.mk ?_))
  all_goals try (refine Held.mk ?_;(try dsimp only at *);(try simp only[zad,zac,eqD,inR,big,zab,zB] at *);(try simp only[zad,zac,eqD,inR,big,zab,zB,e] at *))
  all_goals try omega
def rtU (n:Int):Int:=if rtI n*rtI n<n then rtI n+1 else rtI n
@[reducible] def zov:Spec:={zqJ with f:=fun x=>(rtU x.1,())}
theorem h113:Ok 113 zov:=by
  refine mk (ctr:=[(112,zqJ)]) ⟨h112,trivial⟩ (nt:=14) Tryz.func113 rfl rfl rfl rfl (by kernel_rfl) (by kernel_rfl) (fun _=>[]) ?_
  rintro⟨(n:Int),_⟩ (hn:zdD n)
  have h1:=zfl hn
  have h2:0≤rtI n*rtI n:=Int.mul_nonneg h1.1 h1.1
  have h3:=hn.2
  repeat' (intro hzz;(try (rename Two=>hq;cases hq));(try dsimp only at hzz);(try simp only[zad,zac,eqD,inR,big,zab,zB] at hzz);(try simp only[zad,zac,eqD,inR,big,zab,zB,zdD] at hzz);(try (revert hzz;intro _)))
  all_goals try (rename Unit=>hq;clear hq)
  all_goals try ((with_reducible refine Held.mk ?_);(with_reducible (first|refine Frz.mk ?_|refine And.intro (Frz.mk ?_) ?_|refine And.intro ?_ (Frz.mk ?_)));repeat' first|exact True.intro|(change _=_;with_reducible rfl)|refine And.intro ?_ ?_|(with_reducible refine Frz.mk ?_))
  all_goals try (refine Held.mk ?_;(try dsimp only at *);(try simp only[zad,zac,eqD,inR,big,zab,zB] at *);(try simp only[zad,zac,eqD,inR,big,zab,zB,zdD] at *))
  all_goals first|exact hn|omega|(simp only[rtU];split<;>omega)|trace_state
theorem zqE (a b c d e f:Int) (w:World):Calls Tryz.prog 138 #[.agg #[.int .i64 a,.int .i64 b,.int .i64 c,.int .i64 d,.int .i64 e,.int .i64 f]] w fun r w'=>r=.returned (.int .i64 (sqW (a,b,c,()) (d,e,f,())))∧∃o nq,w'=(w.alloc o).drewN nq:=by
  have mixed:=mixed
  have t3:=Tryz.underlying3
  have hn:Tryz.f138.ntmps=38:=rfl
  go_enter Tryz.func138,hn
  go_wp2
  go_quiet (fail)
  go_wp2
  go_ret
  exact⟨rfl,_,_,rfl⟩
theorem h138:Ok 138 zlt:=by
  refine⟨?_,Tryz.f138,Tryz.func138,by kernel_rfl,by kernel_rfl⟩
  rintro w M ⟨⟨⟨a,b,c,_⟩,⟨d,e,f,_⟩,_⟩,_⟩ vs bs hM ⟨v,vs',rfl,hv,rfl,rfl⟩ _
  have hv:v=.agg #[.int .i64 a,.int .i64 b,.int .i64 c,.int .i64 d,.int .i64 e,.int .i64 f]:=by
    obtain⟨l,h1,h2⟩:=hv
    obtain⟨l1,l2,rfl,⟨m1,m2,rfl,h11,m3,m4,rfl,h12,m5,m6,rfl,h13,h14⟩,l3,l4,rfl,⟨n1,n2,rfl,h21,n3,n4,rfl,h22,n5,n6,rfl,h23,h24⟩,h5⟩:=h1
    subst h11 h12 h13 h14 h21 h22 h23 h24 h5
    rcases h2 with ⟨_,h⟩|⟨h,_⟩
    · exact h
    · cases h
  subst hv
  refine (zqE a b c d e f w).mono ?_
  rintro r w' ⟨rfl,o,nq,rfl⟩
  refine⟨[_],none,rfl,?_,_,_,rfl,RepV.mk1 rfl rfl,rfl,rfl⟩
  refine⟨rfl,rfl,rfl,?_,fun b hb _=>?_,fun b hb=>by cases hb⟩
  · show w.heap.size≤(w.heap.push o).size
    rw[Array.size_push];exact Nat.le_succ _
  · show (w.heap.push o)[b]?=w.heap[b]?
    rw[Array.getElem?_push,if_neg (Nat.ne_of_lt hb)]
@[reducible] def pW (x:WayT.Den):Prop:=inP x.1∧inP x.2.1
@[reducible] def zmn:Spec:={zlt with pre:=fun x=>pW x.1,f:=fun x=>(sqP x.1.1 x.1.2.1,())}
theorem zw4:Ok 138 zmn:=ztc h138 (fun _ _=>trivial) (fun x h=>congrArg (fun n=>(n,())) (zrI h.1 h.2))
def zho (a b:zan):Bool:=decide (sqW a b<100)
@[reducible] def zsS:Spec:={pats:=[.dat WayT],res:=[{t:=.bool}],pre:=fun _=>True,f:=fun x=>(zho x.1.1 x.1.2.1,())}
theorem h78:Ok 78 zsS:=by
  refine mk (ctr:=[(138,zlt)]) ⟨h138,trivial⟩ (nt:=6) Tryz.func78 rfl rfl rfl rfl (by kernel_rfl) (by kernel_rfl) (fun _=>[]) ?_
  rintro⟨⟨(a:zan),(b:zan),_⟩,_⟩ _
  repeat' (intro hzz;(try (rename Two=>hq;cases hq));(try dsimp only at hzz);(try simp only[zad,zac,eqD,inR,big,zab,zB] at hzz);(try simp only[zad,zac,eqD,inR,big,zab,zB,sqW] at hzz);(try (revert hzz;intro _)))
  all_goals try (rename Unit=>hq;clear hq)
  all_goals try ((with_reducible refine Held.mk ?_);(with_reducible (first|refine Frz.mk ?_|refine And.intro (Frz.mk ?_) ?_|refine And.intro ?_ (Frz.mk ?_)));repeat' first|exact True.intro|(change _=_;with_reducible rfl)|refine And.intro ?_ ?_|(with_reducible refine Frz.mk ?_))
  all_goals try (refine Held.mk ?_;(try dsimp only at *);(try simp only[zad,zac,eqD,inR,big,zab,zB] at *);(try simp only[zad,zac,eqD,inR,big,zab,zB,sqW] at *))
  all_goals rfl
def farN (a b:zan):Int:=sqC a.1 a.2.1 a.2.2.1 b.1 b.2.1 b.2.2.1*1000*1000
def ztM (a1 a2 a3 b1 b2 b3:Int):Int:=rtI (sqC a1 a2 a3 b1 b2 b3*1000*1000)
def ztK (a1 a2 a3 b1 b2 b3:Int):Int:=rtU (sqC a1 a2 a3 b1 b2 b3*1000*1000)
def farL (a b:zan):Int:=ztM a.1 a.2.1 a.2.2.1 b.1 b.2.1 b.2.2.1
def farU (a b:zan):Int:=ztK a.1 a.2.1 a.2.2.1 b.1 b.2.1 b.2.2.1
theorem ztL (a b:zan):farN a b=sqP a b*1000*1000:=rfl
theorem zfC {a b:zan} (ha:inP a) (hb:inP b):zdD (farN a b)∧farN a b≤300000000000000:=by
  have:=zon ha hb
  rw[ztL];unfold zdD;omega
theorem zuR {n:Int} (h:zdD n):rtI n≤rtU n∧rtU n≤rtI n+1:=by
  simp only[rtU];split<;>omega
theorem zww {n r:Int} (h:zdD n) (hr:0≤r) (hn:n<r*r):rtI n<r:=by
  obtain⟨h1,h2,h3,h4⟩:=zfl h
  by_cases hl:rtI n<r
  · exact hl
  · have:=Int.mul_le_mul (show r≤rtI n by omega) (show r≤rtI n by omega) hr h1
    omega
theorem zwx {n r:Int} (h:zdD n) (hr:0≤r) (hn:r*r≤n):r≤rtI n:=by
  obtain⟨h1,h2,h3,h4⟩:=zfl h
  by_cases hl:r≤rtI n
  · exact hl
  · have:=Int.mul_le_mul (show rtI n+1≤r by omega) (show rtI n+1≤r by omega) (by omega) hr
    omega
theorem ziS {a b:zan} (ha:inP a) (hb:inP b):(0≤farL a b∧farL a b<17320509)∧(farL a b≤farU a b∧farU a b≤farL a b+1):=by
  obtain⟨h1,h2⟩:=zfC ha hb
  exact⟨⟨(zfl h1).1,zww h1 (by decide) (Int.lt_of_le_of_lt h2 (by decide))⟩,zuR h1⟩
theorem zsp {a b:zan} (ha:inP a) (hb:inP b) (h:100≤sqP a b):10000≤farL a b:=
  zwx (zfC ha hb).1 (by decide) (by show 10000*10000≤sqP a b*1000*1000;omega)
@[reducible] def sFar:Spec:={pats:=[.dat WayT],res:=[{t:=zd6}],pre:=fun x=>pW x.1,f:=fun x=>((farL x.1.1 x.1.2.1,farU x.1.1 x.1.2.1,()),())}
theorem h135:Ok 135 sFar:=by
  refine mk (ctr:=[(138,zmn),(112,zqJ),(113,zov)]) ⟨zw4,h112,h113,trivial⟩ (nt:=13) Tryz.func135 rfl rfl rfl rfl (by kernel_rfl) (by kernel_rfl) (fun _=>[]) ?_
  rintro⟨⟨(a:zan),(b:zan),_⟩,_⟩ ⟨(ha:inP a),(hb:inP b)⟩
  have h1:=zon ha hb
  have h2:=(zfC ha hb).1
  repeat' (intro hzz;(try (rename Two=>hq;cases hq));(try dsimp only at hzz);(try simp only[zad,zac,eqD,inR,big,zab,zB] at hzz);(try simp only[zad,zac,eqD,inR,big,zab,zB,sqW,sqP,farL,farU,pAb,pNs] at hzz);(try (revert hzz;intro _)))
  all_goals try (rename Unit=>hq;clear hq)
  all_goals try ((with_reducible refine Held.mk ?_);(with_reducible (first|refine Frz.mk ?_|refine And.intro (Frz.mk ?_) ?_|refine And.intro ?_ (Frz.mk ?_)));repeat' first|exact True.intro|(change _=_;with_reducible rfl)|refine And.intro ?_ ?_|(with_reducible refine Frz.mk ?_))
  all_goals try (refine Held.mk ?_;(try dsimp only at *);(try simp only[zad,zac,eqD,inR,big,zab,zB] at *);(try simp only[zad,zac,eqD,inR,big,zab,zB,sqW,sqP,farL,farU,pAb,pNs] at *))
  all_goals try simp only[farN] at h2
  all_goals first|omega|exact h2|exact⟨ha,hb⟩|exact⟨rfl,rfl⟩|trace_state
abbrev SndD:Type:=zbY.Den
def inS (x:SndD):Prop:=(8000≤x.1∧x.1≤192000)∧(30000≤x.2.1∧x.2.1≤40000)
theorem zsl {x:SndD} (h:zje x.1 x.2.1=0):inS x:=by
  simp only[zje] at h
  split at h
  · assumption
  · cases h
def trL (a b:zan) (x:SndD):Int:=(farL a b*x.1) / (1000*x.2.1)
def trU (a b:zan) (x:SndD):Int:=cl (farU a b*x.1) (1000*x.2.1)
@[reducible] def pWX (w:WayT.Den) (x:SndD):Prop:=(inP w.1∧inP w.2.1)∧inS x
theorem zkY {n r:Int} (h1:0≤n) (h2:n≤17320509) (h3:8000≤r∧r≤192000):0≤n*r∧n*r≤3325537728000:=by
  refine⟨Int.mul_nonneg h1 (by omega),?_⟩
  have:=Int.mul_le_mul h2 h3.2 (by omega) (show (0:Int)≤17320509 by omega)
  omega
def nuL (a b:zan) (x:SndD):Int:=((farL a b*x.1) / x.2.1+500) / 1000
def nuU (a b:zan) (x:SndD):Int:=(cl (farU a b*x.1) x.2.1+500) / 1000
@[reducible] def zsR:Spec:={pats:=[.dat WayT,.dat zbY],res:=[{t:=zd6}],pre:=fun x=>pWX x.1 x.2.1,f:=fun x=>((nuL x.1.1 x.1.2.1 x.2.1,nuU x.1.1 x.1.2.1 x.2.1,()),())}
@[reducible] def zmr:Spec:={pats:=[.dat I64],res:=[{t:=I64}],pre:=fun x=>pNs x.1,f:=fun x=>((x.1+500) / 1000,())}
theorem h137:Ok 137 zmr:=by
  refine mk (ctr:=[]) trivial (nt:=6) Tryz.func137 rfl rfl rfl rfl (by kernel_rfl) (by kernel_rfl) (fun _=>[]) ?_
  rintro⟨(n:Int),_⟩ ⟨(h1:0≤n),(h2:n≤1000000000000000000)⟩
  have e1:(n+500).tdiv 1000=(n+500) / 1000:=Int.tdiv_eq_ediv_of_nonneg (by omega)
  repeat' (intro hzz;(try (rename Two=>hq;cases hq));(try dsimp only at hzz);(try simp only[zad,zac,eqD,inR,big,zab,zB] at hzz);(try simp only[zad,zac,eqD,inR,big,zab,zB,sqW,sqP,farL,farU,e1] at hzz);(try (revert hzz;intro _)))
  all_goals try (rename Unit=>hq;clear hq)
  all_goals try ((with_reducible refine Held.mk ?_);(with_reducible (first|refine Frz.mk ?_|refine And.intro (Frz.mk ?_) ?_|refine And.intro ?_ (Frz.mk ?_)));repeat' first|exact True.intro|(change _=_;with_reducible rfl)|refine And.intro ?_ ?_|(with_reducible refine Frz.mk ?_))
  all_goals try (refine Held.mk ?_;(try dsimp only at *);(try simp only[zad,zac,eqD,inR,big,zab,zB] at *);(try simp only[zad,zac,eqD,inR,big,zab,zB,sqW,sqP,farL,farU,e1] at *))
  all_goals try omega
theorem h77:Ok 77 zsR:=by
  refine mk (ctr:=[(135,sFar),(136,zoE),(137,zmr)]) ⟨h135,h136,h137,trivial⟩ (nt:=30) Tryz.func77 rfl rfl rfl rfl (by kernel_rfl) (by kernel_rfl) (fun _=>[]) ?_
  rintro⟨⟨(a:zan),(b:zan),_⟩,⟨(r:Int),(v:Int),_⟩,_⟩ ⟨⟨(ha:inP a),(hb:inP b)⟩,(hx:(8000≤r∧r≤192000)∧(30000≤v∧v≤40000))⟩
  have h1:=ziS ha hb
  have h2:=zkY (n:=farL a b) (r:=r) (by omega) (by omega) hx.1
  have h3:=zkY (n:=farU a b) (r:=r) (by omega) (by omega) hx.1
  have e1:(farL a b*r).tdiv v=(farL a b*r) / v:=Int.tdiv_eq_ediv_of_nonneg h2.1
  have h4:=zmU (b:=v) h2.1 (by omega)
  have h5:=zrq (b:=v) h3.1 (by omega)
  repeat' (intro hzz;(try (rename Two=>hq;cases hq));(try dsimp only at hzz);(try simp only[zad,zac,eqD,inR,big,zab,zB] at hzz);(try simp only[zad,zac,eqD,inR,big,zab,zB,sqW,sqP,farL,farU,pAb,pNs,e1] at hzz);(try (revert hzz;intro _)))
  all_goals try (rename Unit=>hq;clear hq)
  all_goals try ((with_reducible refine Held.mk ?_);(with_reducible (first|refine Frz.mk ?_|refine And.intro (Frz.mk ?_) ?_|refine And.intro ?_ (Frz.mk ?_)));repeat' first|exact True.intro|(change _=_;with_reducible rfl)|refine And.intro ?_ ?_|(with_reducible refine Frz.mk ?_))
  all_goals try (refine Held.mk ?_;(try dsimp only at *);(try simp only[zad,zac,eqD,inR,big,zab,zB] at *);(try simp only[zad,zac,eqD,inR,big,zab,zB,sqW,sqP,farL,farU,pAb,pNs,e1] at *))
  all_goals first|omega|exact⟨ha,hb⟩|exact⟨rfl,rfl⟩|trace_state
def stL (a b:zan):Int:=1000000000 / farU a b
def stU (a b:zan):Int:=cl 1000000000 (farL a b)
@[reducible] def pWN (w:WayT.Den):Prop:=(inP w.1∧inP w.2.1)∧100≤sqP w.1 w.2.1
@[reducible] def sStr:Spec:={pats:=[.dat WayT],res:=[{t:=zd6}],pre:=fun x=>pWN x.1,f:=fun x=>((stL x.1.1 x.1.2.1,stU x.1.1 x.1.2.1,()),())}
theorem h79:Ok 79 sStr:=by
  refine mk (ctr:=[(135,sFar),(136,zoE)]) ⟨h135,h136,trivial⟩ (nt:=13) Tryz.func79 rfl rfl rfl rfl (by kernel_rfl) (by kernel_rfl) (fun _=>[]) ?_
  rintro⟨⟨(a:zan),(b:zan),_⟩,_⟩ ⟨⟨(ha:inP a),(hb:inP b)⟩,(hn:100≤sqP a b)⟩
  have h1:=ziS ha hb
  have h2:=zsp ha hb hn
  have e1:(1000000000:Int).tdiv (farU a b)=1000000000 / farU a b:=Int.tdiv_eq_ediv_of_nonneg (by decide)
  have h4:=zmU (n:=1000000000) (b:=farU a b) (by omega) (by omega)
  repeat' (intro hzz;(try (rename Two=>hq;cases hq));(try dsimp only at hzz);(try simp only[zad,zac,eqD,inR,big,zab,zB] at hzz);(try simp only[zad,zac,eqD,inR,big,zab,zB,sqW,sqP,farL,farU,pAb,pNs,e1] at hzz);(try (revert hzz;intro _)))
  all_goals try (rename Unit=>hq;clear hq)
  all_goals try ((with_reducible refine Held.mk ?_);(with_reducible (first|refine Frz.mk ?_|refine And.intro (Frz.mk ?_) ?_|refine And.intro ?_ (Frz.mk ?_)));repeat' first|exact True.intro|(change _=_;with_reducible rfl)|refine And.intro ?_ ?_|(with_reducible refine Frz.mk ?_))
  all_goals try (refine Held.mk ?_;(try dsimp only at *);(try simp only[zad,zac,eqD,inR,big,zab,zB] at *);(try simp only[zad,zac,eqD,inR,big,zab,zB,sqW,sqP,farL,farU,pAb,pNs,e1] at *))
  all_goals first|omega|exact⟨ha,hb⟩|exact⟨rfl,rfl⟩|trace_state
theorem zjb {a b:zan} (ha:inP a) (hb:inP b):zho a b=decide (sqP a b<100):=by
  unfold zho;rw[zrI ha hb]
theorem zvQ {a b x:Int} (h:za6 [a,b,x]=0):a=0∧b=0∧x=0:=by
  simp only[za6] at h
  split at h
  · split at h
    · split at h
      · exact⟨by assumption,by assumption,by assumption⟩
      · exact absurd h (by assumption)
    · exact absurd h (by assumption)
  · exact absurd h (by assumption)
theorem zvR {a b:Int} (h:za6 [a,b]=0):a=0∧b=0:=by
  simp only[za6] at h
  split at h
  · split at h
    · exact⟨by assumption,by assumption⟩
    · exact absurd h (by assumption)
  · exact absurd h (by assumption)
def err3 (a b:zan) (x:SndD):Int:=za6 [zea a.1 a.2.1 a.2.2.1,zea b.1 b.2.1 b.2.2.1,zje x.1 x.2.1]
def err2 (a b:zan):Int:=za6 [zea a.1 a.2.1 a.2.2.1,zea b.1 b.2.1 b.2.2.1]
abbrev RngD:Type:=zd6.Den
def trvR (a b:zan) (x:SndD):RngD×Int×Unit:=if err3 a b x=0 then ((trL a b x,trU a b x,()),0,()) else ((0,0,()),err3 a b x,())
def nusR (a b:zan) (x:SndD):RngD×Int×Unit:=if err3 a b x=0 then ((nuL a b x,nuU a b x,()),0,()) else ((0,0,()),err3 a b x,())
def strR (a b:zan):RngD×Int×Unit:=if err2 a b=0 then (if sqP a b<100 then ((0,0,()),11,()) else ((stL a b,stU a b,()),0,())) else ((0,0,()),err2 a b,())
@[reducible] def zsP:Spec:={pats:=[.dat zbM,.dat zbM,.dat zbY],res:=[{t:=zd6},{t:=I64}],pre:=fun _=>True,f:=fun x=>trvR x.1 x.2.1 x.2.2.1}
@[reducible] def znk:Spec:={zsP with f:=fun x=>nusR x.1 x.2.1 x.2.2.1}
@[reducible] def zkp:Spec:={pats:=[.dat zbM,.dat zbM],res:=[{t:=zd6},{t:=I64}],pre:=fun _=>True,f:=fun x=>strR x.1 x.2.1}
theorem h16:Ok 16 znk:=by
  refine mk (ctr:=[(73,zgp),(74,zg7),(75,zkq),(77,zsR)]) ⟨h73,h74,h75,h77,trivial⟩ (nt:=26) Tryz.func16 rfl rfl rfl rfl (by kernel_rfl) (by kernel_rfl) (fun _=>[]) ?_
  rintro⟨(a:zan),(b:zan),(x:SndD),_⟩ _
  repeat' (intro hzz;(try (rename Two=>hq;cases hq));(try dsimp only at hzz);(try simp only[zad,zac,eqD,inR,big,zab,zB] at hzz);(try simp only[zad,zac,eqD,inR,big,zab,zB,sqW,sqP,farL,farU,pAb,pNs] at hzz);(try (revert hzz;intro _)))
  all_goals try (rename Unit=>hq;clear hq)
  all_goals try ((with_reducible refine Held.mk ?_);(with_reducible (first|refine Frz.mk ?_|refine And.intro (Frz.mk ?_) ?_|refine And.intro ?_ (Frz.mk ?_)));repeat' first|exact True.intro|(change _=_;with_reducible rfl)|refine And.intro ?_ ?_|(with_reducible refine Frz.mk ?_))
  all_goals try (refine Held.mk ?_;(try dsimp only at *);(try simp only[zad,zac,eqD,inR,big,zab,zB] at *);(try simp only[zad,zac,eqD,inR,big,zab,zB,sqW,sqP,farL,farU,pAb,pNs] at *))
  all_goals first|(show ((3:Nat):Int)≤4611686018427387904;decide)|(rename_i h;have e:nusR a b x=((0,0,()),err3 a b x,()):=if_neg h;rw[e];exact⟨⟨rfl,rfl⟩,rfl⟩)|(rename_i h;obtain⟨e1,e2,e3⟩:=zvQ h;exact⟨⟨zgz e1,zgz e2⟩,zsl e3⟩)|(rename_i h;have e:nusR a b x=((nuL a b x,nuU a b x,()),0,()):=if_pos h;rw[e];exact⟨⟨rfl,rfl⟩,rfl⟩)|trace_state
theorem zwu {a b:zan} (h:¬err2 a b=0):strR a b=((0,0,()),err2 a b,()):=if_neg h
theorem zpe {a b:zan} (h:err2 a b=0):(inP a∧inP b)∧zho a b=decide (sqP a b<100):=by
  obtain⟨e1,e2⟩:=zvR h
  exact⟨⟨zgz e1,zgz e2⟩,zjb (zgz e1) (zgz e2)⟩
theorem zwt {a b:zan} (h:err2 a b=0) (hn:zho a b=true):strR a b=((0,0,()),11,()):=by
  have h1:sqP a b<100:=by rw[(zpe h).2] at hn;exact of_decide_eq_true hn
  unfold strR;rw[if_pos h,if_pos h1]
theorem zsf {a b:zan} (h:err2 a b=0) (hn:zho a b=false):100≤sqP a b:=by
  have h1:¬sqP a b<100:=by rw[(zpe h).2] at hn;exact of_decide_eq_false hn
  omega
theorem zws {a b:zan} (h:err2 a b=0) (hn:zho a b=false):strR a b=((stL a b,stU a b,()),0,()):=by
  have h1:=zsf h hn
  unfold strR;rw[if_pos h,if_neg (by omega)]
theorem h17:Ok 17 zkp:=by
  refine mk (ctr:=[(73,zgp),(74,zg7),(78,zsS),(79,sStr)]) ⟨h73,h74,h78,h79,trivial⟩ (nt:=26) Tryz.func17 rfl rfl rfl rfl (by kernel_rfl) (by kernel_rfl) (fun _=>[]) ?_
  rintro⟨(a:zan),(b:zan),_⟩ _
  repeat' (intro hzz;(try (rename Two=>hq;cases hq));(try dsimp only at hzz);(try simp only[zad,zac,eqD,inR,big,zab,zB] at hzz);(try simp only[zad,zac,eqD,inR,big,zab,zB,sqW,sqP,farL,farU,pAb,pNs] at hzz);(try (revert hzz;intro _)))
  all_goals try (rename Unit=>hq;clear hq)
  all_goals try ((with_reducible refine Held.mk ?_);(with_reducible (first|refine Frz.mk ?_|refine And.intro (Frz.mk ?_) ?_|refine And.intro ?_ (Frz.mk ?_)));repeat' first|exact True.intro|(change _=_;with_reducible rfl)|refine And.intro ?_ ?_|(with_reducible refine Frz.mk ?_))
  all_goals try (refine Held.mk ?_;(try dsimp only at *);(try simp only[zad,zac,eqD,inR,big,zab,zB] at *);(try simp only[zad,zac,eqD,inR,big,zab,zB,sqW,sqP,farL,farU,pAb,pNs] at *))
  all_goals first|(show ((2:Nat):Int)≤4611686018427387904;decide)|(rename_i h;rw[zwu (a:=a) (b:=b) h];exact⟨⟨rfl,rfl⟩,rfl⟩)|(rename_i h hn;rw[zwt (a:=a) (b:=b) h hn];exact⟨⟨rfl,rfl⟩,rfl⟩)|(rename_i h hn;exact⟨(zpe (a:=a) (b:=b) h).1,zsf (a:=a) (b:=b) h hn⟩)|(rename_i h hn;rw[zws (a:=a) (b:=b) h hn];exact⟨⟨rfl,rfl⟩,rfl⟩)|trace_state
theorem zmk {n b:Int} (hb:0<b) (h:n.tmod b<0):n.tdiv b - 1=n / b:=by
  have h1:=Int.tmod_eq_emod (a:=n) (b:=b)
  have h2:=Int.tdiv_eq_ediv (a:=n) (b:=b)
  have h3:=Int.emod_nonneg n (show b≠0 by omega)
  split at h1
  · omega
  · rename_i hc
    rw[if_neg hc] at h2
    have:b.sign=1:=Int.sign_eq_one_of_pos hb
    omega
theorem zmj {n b:Int} (hb:0<b) (h:0≤n.tmod b):n.tdiv b=n / b:=by
  have h1:=Int.tmod_eq_emod (a:=n) (b:=b)
  have h2:=Int.tdiv_eq_ediv (a:=n) (b:=b)
  have h3:=Int.emod_lt_of_pos n hb
  split at h1
  · rename_i hc
    rw[if_pos hc] at h2
    omega
  · omega
theorem zoc {n b:Int} (h1 : -9000000000000000000≤n) (h2:n≤9000000000000000000) : -9000000000000000000≤n.tdiv b∧n.tdiv b≤9000000000000000000:=by
  have h3:=Int.natAbs_tdiv_le_natAbs n b
  omega
theorem zvZ {n b:Int} (hb:0<b) (h1 : -9000000000000000000≤n) (h2:n≤9000000000000000000) : -9000000000000000001≤n / b∧n / b≤9000000000000000000:=by
  have h3:=zoc (b:=b) h1 h2
  by_cases h:n.tmod b<0
  · rw[←zmk hb h];omega
  · rw[←zmj hb (by omega)];omega
abbrev zfq (n b:Int):Prop:=0<b∧-9000000000000000000≤n∧n≤9000000000000000000
abbrev zfD (n b:Int):Int:=n / b
@[reducible] def zim:Spec:={pats:=[.dat I64,.dat I64],res:=[{t:=I64}],pre:=fun x=>zfq x.1 x.2.1,f:=fun x=>(zfD x.1 x.2.1,())}
theorem h82:Ok 82 zim:=by
  refine mk (ctr:=[]) trivial (nt:=16) Tryz.func82 rfl rfl rfl rfl (by kernel_rfl) (by kernel_rfl) (fun _=>[]) ?_
  rintro⟨(n:Int),(b:Int),_⟩ ⟨h1,h2,h3⟩
  repeat' (intro hzz;(try (rename Two=>hq;cases hq));(try dsimp only at hzz);(try simp only[zad,zac,eqD,inR,big,zab,zB] at hzz);(try simp only[zad,zac,eqD,inR,big,zab,zB,zfq,zfD] at hzz);(try (revert hzz;intro _)))
  all_goals try (rename Unit=>hq;clear hq)
  all_goals try ((with_reducible refine Held.mk ?_);(with_reducible (first|refine Frz.mk ?_|refine And.intro (Frz.mk ?_) ?_|refine And.intro ?_ (Frz.mk ?_)));repeat' first|exact True.intro|(change _=_;with_reducible rfl)|refine And.intro ?_ ?_|(with_reducible refine Frz.mk ?_))
  all_goals try (refine Held.mk ?_;(try dsimp only at *);(try simp only[zad,zac,eqD,inR,big,zab,zB] at *);(try simp only[zad,zac,eqD,inR,big,zab,zB,zfq,zfD] at *))
  all_goals have hd:=zoc (b:=b) h2 h3
  · omega
  · omega
  · omega
  · rename_i h;exact zmk h1 h
  · rename_i h;exact zmj h1 h
@[reducible] def zsV:Spec:={zim with f:=fun x=>(cl x.1 x.2.1,())}
theorem h83:Ok 83 zsV:=by
  refine mk (ctr:=[(82,zim)]) ⟨h82,trivial⟩ (nt:=10) Tryz.func83 rfl rfl rfl rfl (by kernel_rfl) (by kernel_rfl) (fun _=>[]) ?_
  rintro⟨(n:Int),(b:Int),_⟩ ⟨h1,h2,h3⟩
  repeat' (intro hzz;(try (rename Two=>hq;cases hq));(try dsimp only at hzz);(try simp only[zad,zac,eqD,inR,big,zab,zB] at hzz);(try simp only[zad,zac,eqD,inR,big,zab,zB,zfq,zfD,cl] at hzz);(try (revert hzz;intro _)))
  all_goals try (rename Unit=>hq;clear hq)
  all_goals try ((with_reducible refine Held.mk ?_);(with_reducible (first|refine Frz.mk ?_|refine And.intro (Frz.mk ?_) ?_|refine And.intro ?_ (Frz.mk ?_)));repeat' first|exact True.intro|(change _=_;with_reducible rfl)|refine And.intro ?_ ?_|(with_reducible refine Frz.mk ?_))
  all_goals try (refine Held.mk ?_;(try dsimp only at *);(try simp only[zad,zac,eqD,inR,big,zab,zB] at *);(try simp only[zad,zac,eqD,inR,big,zab,zB,zfq,zfD,cl] at *))
  all_goals have hd:=zvZ (n:=-n) h1 (by omega) (by omega)
  all_goals omega
def bitI (k:Nat):Int:=((2 ^ k / 2:Nat):Int)
def zqK (n:Int):LoopAnn:={σ:=Nat×Nat,pat:=fun s=>[sI 3 s.2,sI 4 (bitI s.1)],inv:=fun s=>rtGo s.1 s.2 n.toNat=rt n.toNat∧s.1≤31∧s.2+2 ^ s.1≤2147483648,meas:=fun s=>s.1}
@[reducible] def zmp:Spec:={pats:=[.dat I64],res:=[{t:=I64}],pre:=fun x=>zdD x.1,f:=fun x=>(rtI x.1,())}
theorem zjW (k:Nat):bitI (k+1)=(2 ^ k:Nat):=by
  simp only[bitI]
  rw[Nat.pow_succ,Nat.mul_div_cancel _ (by decide)]
abbrev zly (n:Int) (k r:Nat):Prop:=rtGo k r n.toNat=rt n.toNat∧k≤31∧r+2 ^ k≤2147483648
theorem zfn {n:Int} (hn:0≤n) {k r:Nat} (h:zly n k r) (hb:0<bitI k):∃j p:Nat,k=j+1∧bitI k=p∧(bitI k).tdiv 2=bitI j∧1≤p∧p≤1073741824∧r+2*p≤2147483648∧
    (((r:Int)+p)*((r:Int)+p)≤n→zly n j (r+p))∧(n<((r:Int)+p)*((r:Int)+p)→zly n j r):=by
  obtain⟨h1,h2,h3⟩:=h
  cases k with
  | zero=>simp[bitI] at hb
  | succ j=>
    have hp:=Nat.two_pow_pos j
    have hle:2 ^ j≤2 ^ 30:=Nat.pow_le_pow_right (by decide) (by omega)
    rw[Nat.pow_succ] at h3
    have hc:(((r+2 ^ j)*(r+2 ^ j):Nat):Int)=((r:Int)+(2 ^ j:Nat))*((r:Int)+(2 ^ j:Nat)):=by push_cast;rfl
    have e3:(bitI (j+1)).tdiv 2=bitI j:=by
      rw[zjW,Int.tdiv_eq_ediv_of_nonneg (by omega)]
      simp only[bitI];omega
    simp only[rtGo] at h1
    refine⟨j,2 ^ j,rfl,zjW j,e3,hp,by simpa using hle,by omega,fun hx=>?_,fun hx=>?_⟩
    · have:Nat.ble ((r+2 ^ j)*(r+2 ^ j)) n.toNat=true:=Nat.ble_eq_true_of_le (by omega)
      rw[this] at h1
      exact⟨h1,by omega,by omega⟩
    · have:Nat.ble ((r+2 ^ j)*(r+2 ^ j)) n.toNat=false:=by
        cases hb:Nat.ble ((r+2 ^ j)*(r+2 ^ j)) n.toNat with
        | false=>rfl
        | true=>have:=Nat.le_of_ble_eq_true hb;omega
      rw[this] at h1
      exact⟨h1,by omega,by omega⟩
theorem zux {x B:Int} (h1:0≤x) (h2:x≤B):0≤x*x∧x*x≤B*B:=⟨Int.mul_nonneg h1 h1,Int.mul_le_mul h2 h2 h1 (by omega)⟩
theorem h122:Ok 122 zmp:=by
  refine mk (ctr:=[]) trivial (nt:=22) Tryz.func122 rfl rfl rfl rfl (by kernel_rfl) (by kernel_rfl) (fun x=>[fun _=>zqK x.1]) ?_
  rintro⟨(n:Int),_⟩ (hn':zdD n)
  have hn:=hn'.1
  repeat' (intro hzz;(try (rename Two=>hq;cases hq));(try dsimp only at hzz);(try simp only[zad,zac,eqD,inR,big,zab,zB] at hzz);(try (revert hzz;intro _)))
  all_goals try (rename Unit=>hq;clear hq)
  all_goals try ((with_reducible refine Held.mk ?_);(with_reducible (first|refine Frz.mk ?_|refine And.intro (Frz.mk ?_) ?_|refine And.intro ?_ (Frz.mk ?_)));repeat' first|exact True.intro|(change _=_;with_reducible rfl)|refine And.intro ?_ ?_|(with_reducible refine Frz.mk ?_))
  all_goals try (refine Held.mk ?_;(try dsimp only at *);(try simp only[zad,zac,eqD,inR,big,zab,zB] at *))
  all_goals try omega
  ·
    refine zaj.mk ?_
    refine Exists.intro (31,0) ?_
    refine And.intro (Leaf.mk ?_) ?_
    · repeat' first|exact True.intro|refine And.intro ?_ ?_
      all_goals try ((change _=_<;>try dsimp only)<;>try with_reducible rfl)
      all_goals try omega
      all_goals (rfl)
    exact⟨rfl,by decide,by decide⟩
  all_goals try
    (rename_i s h1 h2
     obtain⟨k,r⟩:=s
     obtain⟨j,p,g1,g2,g3,g4,g5,g6,g7,g8⟩:=zfn hn h1 h2
     dsimp only at *
     rw[g2]
     have:=zux (x:=(r:Int)+p) (B:=2147483648) (by omega) (by omega)
     omega)
  all_goals try
    (rename_i s h1 h2 h3
     obtain⟨k,r⟩:=s
     obtain⟨j,p,g1,g2,g3,g4,g5,g6,g7,g8⟩:=zfn hn h1 h2
     dsimp only at *
     try rw[g3]
     try rw[g2]
     have e0:bitI j=(p:Int).tdiv 2:=by rw[←g3,g2]
     rw[Int.tdiv_eq_ediv_of_nonneg (by omega)] at e0
     try rw[e0]
     omega)
  · rename_i s h1 h2 h3
    obtain⟨k,r⟩:=s
    obtain⟨j,p,g1,g2,g3,g4,g5,g6,g7,g8⟩:=zfn hn h1 h2
    dsimp only at h3
    rw[g2] at h3
    have e1:(r:Int)+bitI k=((r+p:Nat):Int):=by rw[g2];push_cast;rfl
    refine zaj.mk ?_
    refine Exists.intro (j,r+p) ?_
    refine And.intro (Leaf.mk ?_) ?_
    · repeat' first|exact True.intro|refine And.intro ?_ ?_
      all_goals try ((change _=_<;>try dsimp only)<;>try with_reducible rfl)
      all_goals try omega
      all_goals (first|exact e1|exact g3)
    exact⟨g7 h3,by subst g1;exact Nat.lt_succ_self j⟩
  · rename_i s h1 h2 h3
    obtain⟨k,r⟩:=s
    obtain⟨j,p,g1,g2,g3,g4,g5,g6,g7,g8⟩:=zfn hn h1 h2
    dsimp only at h3
    rw[g2] at h3
    refine zaj.mk ?_
    refine Exists.intro (j,r) ?_
    refine And.intro (Leaf.mk ?_) ?_
    · repeat' first|exact True.intro|refine And.intro ?_ ?_
      all_goals try ((change _=_<;>try dsimp only)<;>try with_reducible rfl)
      all_goals try omega
      all_goals (exact g3)
    exact⟨g8 h3,by subst g1;exact Nat.lt_succ_self j⟩
  · rename_i s h1 h2
    obtain⟨k,r⟩:=s
    obtain⟨g1,g2,g3⟩:=h1
    dsimp only at *
    have hk:k=0:=by
      cases k with
      | zero=>rfl
      | succ j=>rw[zjW] at h2;have:=Nat.two_pow_pos j;omega
    subst hk
    simp only[rtI,←g1,rtGo]
@[reducible] def zmo:Spec:={zmp with f:=fun x=>(rtU x.1,())}
theorem h123:Ok 123 zmo:=by
  refine mk (ctr:=[(122,zmp)]) ⟨h122,trivial⟩ (nt:=14) Tryz.func123 rfl rfl rfl rfl (by kernel_rfl) (by kernel_rfl) (fun _=>[]) ?_
  rintro⟨(n:Int),_⟩ (hn:zdD n)
  have h1:=zfl hn
  have h2:0≤rtI n*rtI n:=Int.mul_nonneg h1.1 h1.1
  have h3:=hn.2
  repeat' (intro hzz;(try (rename Two=>hq;cases hq));(try dsimp only at hzz);(try simp only[zad,zac,eqD,inR,big,zab,zB] at hzz);(try simp only[zad,zac,eqD,inR,big,zab,zB,zdD] at hzz);(try (revert hzz;intro _)))
  all_goals try (rename Unit=>hq;clear hq)
  all_goals try ((with_reducible refine Held.mk ?_);(with_reducible (first|refine Frz.mk ?_|refine And.intro (Frz.mk ?_) ?_|refine And.intro ?_ (Frz.mk ?_)));repeat' first|exact True.intro|(change _=_;with_reducible rfl)|refine And.intro ?_ ?_|(with_reducible refine Frz.mk ?_))
  all_goals try (refine Held.mk ?_;(try dsimp only at *);(try simp only[zad,zac,eqD,inR,big,zab,zB] at *);(try simp only[zad,zac,eqD,inR,big,zab,zB,zdD] at *))
  all_goals first|exact hn|omega|(simp only[rtU];split<;>omega)|trace_state
theorem h18:Ok 18 zg7:=by
  refine mk (ctr:=[(29,zbH)]) ⟨h29,trivial⟩ (nt:=19) Tryz.func18 rfl rfl rfl rfl (by kernel_rfl) (by kernel_rfl) (fun _=>[]) ?_
  rintro⟨⟨(x:Int),(y:Int),(z:Int),_⟩,_⟩ _
  repeat' (intro hzz;(try (rename Two=>hq;cases hq));(try dsimp only at hzz);(try simp only[zad,zac,eqD,inR,big,zab,zB] at hzz);(try simp only[zad,zac,eqD,inR,big,zab,zB,zaq] at hzz);(try (revert hzz;intro _)))
  all_goals try (rename Unit=>hq;clear hq)
  all_goals try ((with_reducible refine Held.mk ?_);(with_reducible (first|refine Frz.mk ?_|refine And.intro (Frz.mk ?_) ?_|refine And.intro ?_ (Frz.mk ?_)));repeat' first|exact True.intro|(change _=_;with_reducible rfl)|refine And.intro ?_ ?_|(with_reducible refine Frz.mk ?_))
  all_goals try (refine Held.mk ?_;(try dsimp only at *);(try simp only[zad,zac,eqD,inR,big,zab,zB] at *);(try simp only[zad,zac,eqD,inR,big,zab,zB,zaq] at *))
  all_goals try omega
  all_goals (simp only[zea];split<;>first|rfl|(exfalso;omega)|(rw[decide_eq_true (by omega)];rfl)|(rw[decide_eq_false (by omega)];rfl))
theorem h21:Ok 21 zkq:=by
  refine mk (ctr:=[(29,zbH)]) ⟨h29,trivial⟩ (nt:=13) Tryz.func21 rfl rfl rfl rfl (by kernel_rfl) (by kernel_rfl) (fun _=>[]) ?_
  rintro⟨⟨(x:Int),(y:Int),_⟩,_⟩ _
  repeat' (intro hzz;(try (rename Two=>hq;cases hq));(try dsimp only at hzz);(try simp only[zad,zac,eqD,inR,big,zab,zB] at hzz);(try simp only[zad,zac,eqD,inR,big,zab,zB,zaq] at hzz);(try (revert hzz;intro _)))
  all_goals try (rename Unit=>hq;clear hq)
  all_goals try ((with_reducible refine Held.mk ?_);(with_reducible (first|refine Frz.mk ?_|refine And.intro (Frz.mk ?_) ?_|refine And.intro ?_ (Frz.mk ?_)));repeat' first|exact True.intro|(change _=_;with_reducible rfl)|refine And.intro ?_ ?_|(with_reducible refine Frz.mk ?_))
  all_goals try (refine Held.mk ?_;(try dsimp only at *);(try simp only[zad,zac,eqD,inR,big,zab,zB] at *);(try simp only[zad,zac,eqD,inR,big,zab,zB,zaq] at *))
  all_goals try omega
  all_goals (simp only[zje];split<;>first|rfl|(exfalso;omega)|(rw[decide_eq_true (by omega)];rfl)|(rw[decide_eq_false (by omega)];rfl))
theorem h92:Ok 92 zks:=by
  refine mk (ctr:=[(29,zbH)]) ⟨h29,trivial⟩ (nt:=13) Tryz.func92 rfl rfl rfl rfl (by kernel_rfl) (by kernel_rfl) (fun _=>[]) ?_
  rintro⟨(x:Int),(y:Int),_⟩ _
  repeat' (intro hzz;(try (rename Two=>hq;cases hq));(try dsimp only at hzz);(try simp only[zad,zac,eqD,inR,big,zab,zB] at hzz);(try simp only[zad,zac,eqD,inR,big,zab,zB,zaq] at hzz);(try (revert hzz;intro _)))
  all_goals try (rename Unit=>hq;clear hq)
  all_goals try ((with_reducible refine Held.mk ?_);(with_reducible (first|refine Frz.mk ?_|refine And.intro (Frz.mk ?_) ?_|refine And.intro ?_ (Frz.mk ?_)));repeat' first|exact True.intro|(change _=_;with_reducible rfl)|refine And.intro ?_ ?_|(with_reducible refine Frz.mk ?_))
  all_goals try (refine Held.mk ?_;(try dsimp only at *);(try simp only[zad,zac,eqD,inR,big,zab,zB] at *);(try simp only[zad,zac,eqD,inR,big,zab,zB,zaq] at *))
  all_goals try omega
  all_goals (simp only[zfA];split<;>first|rfl|(exfalso;omega)|(rw[decide_eq_true (by omega)];rfl)|(rw[decide_eq_false (by omega)];rfl))
abbrev pPP (a b:zan):Prop:=inP a∧inP b
@[reducible] def zjj:Spec:={pats:=[.dat zbM,.dat zbM],res:=[{t:=I64}],pre:=fun x=>pPP x.1 x.2.1,f:=fun x=>(sqP x.1 x.2.1,())}
theorem h80:Ok 80 zjj:=by
  refine mk (ctr:=[]) trivial (nt:=34) Tryz.func80 rfl rfl rfl rfl (by kernel_rfl) (by kernel_rfl) (fun _=>[]) ?_
  rintro⟨(a:zan),(b:zan),_⟩ ⟨ha,hb⟩
  have h1:=zia ha.1 hb.1
  have h2:=zia ha.2.1 hb.2.1
  have h3:=zia ha.2.2 hb.2.2
  obtain⟨⟨a1,a2⟩,⟨a3,a4⟩,⟨a5,a6⟩⟩:=ha
  obtain⟨⟨b1,b2⟩,⟨b3,b4⟩,⟨b5,b6⟩⟩:=hb
  unfold dP at *
  repeat' (intro hzz;(try (rename Two=>hq;cases hq));(try dsimp only at hzz);(try simp only[zad,zac,eqD,inR,big,zab,zB] at hzz);(try simp only[zad,zac,eqD,inR,big,zab,zB,sqP,sqC,dP] at hzz);(try (revert hzz;intro _)))
  all_goals try (rename Unit=>hq;clear hq)
  all_goals try ((with_reducible refine Held.mk ?_);(with_reducible (first|refine Frz.mk ?_|refine And.intro (Frz.mk ?_) ?_|refine And.intro ?_ (Frz.mk ?_)));repeat' first|exact True.intro|(change _=_;with_reducible rfl)|refine And.intro ?_ ?_|(with_reducible refine Frz.mk ?_))
  all_goals try (refine Held.mk ?_;(try dsimp only at *);(try simp only[zad,zac,eqD,inR,big,zab,zB] at *);(try simp only[zad,zac,eqD,inR,big,zab,zB,sqP,sqC,dP] at *))
  all_goals first|omega|rfl|trace_state
@[reducible] def zuL:Spec:={pats:=[.dat zbM,.dat zbM],res:=[{t:=.bool}],pre:=fun x=>pPP x.1 x.2.1,f:=fun x=>(zho x.1 x.2.1,())}
theorem h19:Ok 19 zuL:=by
  refine mk (ctr:=[(80,zjj)]) ⟨h80,trivial⟩ (nt:=9) Tryz.func19 rfl rfl rfl rfl (by kernel_rfl) (by kernel_rfl) (fun _=>[]) ?_
  rintro⟨(a:zan),(b:zan),_⟩ ⟨ha,hb⟩
  have e:=zjb ha hb
  repeat' (intro hzz;(try (rename Two=>hq;cases hq));(try dsimp only at hzz);(try simp only[zad,zac,eqD,inR,big,zab,zB] at hzz);(try simp only[zad,zac,eqD,inR,big,zab,zB,sqP] at hzz);(try (revert hzz;intro _)))
  all_goals try (rename Unit=>hq;clear hq)
  all_goals try ((with_reducible refine Held.mk ?_);(with_reducible (first|refine Frz.mk ?_|refine And.intro (Frz.mk ?_) ?_|refine And.intro ?_ (Frz.mk ?_)));repeat' first|exact True.intro|(change _=_;with_reducible rfl)|refine And.intro ?_ ?_|(with_reducible refine Frz.mk ?_))
  all_goals try (refine Held.mk ?_;(try dsimp only at *);(try simp only[zad,zac,eqD,inR,big,zab,zB] at *);(try simp only[zad,zac,eqD,inR,big,zab,zB,sqP] at *))
  all_goals first|exact⟨ha,hb⟩|exact e.symm|trace_state
@[reducible] def zox:Spec:={pats:=[.dat zbM,.dat zbM],res:=[{t:=zd6}],pre:=fun x=>pPP x.1 x.2.1,f:=fun x=>((farL x.1 x.2.1,farU x.1 x.2.1,()),())}
theorem h81:Ok 81 zox:=by
  refine mk (ctr:=[(80,zjj),(122,zmp),(123,zmo)]) ⟨h80,h122,h123,trivial⟩ (nt:=15) Tryz.func81 rfl rfl rfl rfl (by kernel_rfl) (by kernel_rfl) (fun _=>[]) ?_
  rintro⟨(a:zan),(b:zan),_⟩ ⟨ha,hb⟩
  have h1:=zon ha hb
  have h2:=(zfC ha hb).1
  have e:1000000*sqP a b=sqP a b*1000*1000:=by omega
  have h3:zdD (sqP a b*1000*1000):=h2
  repeat' (intro hzz;(try (rename Two=>hq;cases hq));(try dsimp only at hzz);(try simp only[zad,zac,eqD,inR,big,zab,zB] at hzz);(try simp only[zad,zac,eqD,inR,big,zab,zB,sqP,farL,farU,ztM,ztK] at hzz);(try (revert hzz;intro _)))
  all_goals try (rename Unit=>hq;clear hq)
  all_goals try ((with_reducible refine Held.mk ?_);(with_reducible (first|refine Frz.mk ?_|refine And.intro (Frz.mk ?_) ?_|refine And.intro ?_ (Frz.mk ?_)));repeat' first|exact True.intro|(change _=_;with_reducible rfl)|refine And.intro ?_ ?_|(with_reducible refine Frz.mk ?_))
  all_goals try (refine Held.mk ?_;(try dsimp only at *);(try simp only[zad,zac,eqD,inR,big,zab,zB] at *);(try simp only[zad,zac,eqD,inR,big,zab,zB,sqP,farL,farU,ztM,ztK] at *))
  all_goals first|exact⟨ha,hb⟩|omega|(rw[e];exact h3)|(rw[e];exact⟨rfl,rfl⟩)|trace_state
abbrev pPPX (a b:zan) (x:SndD):Prop:=(inP a∧inP b)∧inS x
@[reducible] def zrK:Spec:={pats:=[.dat zbM,.dat zbM,.dat zbY],res:=[{t:=zd6}],pre:=fun x=>pPPX x.1 x.2.1 x.2.2.1,f:=fun x=>((trL x.1 x.2.1 x.2.2.1,trU x.1 x.2.1 x.2.2.1,()),())}
theorem h22:Ok 22 zrK:=by
  refine mk (ctr:=[(81,zox),(82,zim),(83,zsV)]) ⟨h81,h82,h83,trivial⟩ (nt:=30) Tryz.func22 rfl rfl rfl rfl (by kernel_rfl) (by kernel_rfl) (fun _=>[]) ?_
  rintro⟨(a:zan),(b:zan),⟨(r:Int),(v:Int),_⟩,_⟩ ⟨⟨(ha:inP a),(hb:inP b)⟩,(hx:(8000≤r∧r≤192000)∧(30000≤v∧v≤40000))⟩
  have h1:=ziS ha hb
  have h2:=zkY (n:=farL a b) (r:=r) (by omega) (by omega) hx.1
  have h3:=zkY (n:=farU a b) (r:=r) (by omega) (by omega) hx.1
  repeat' (intro hzz;(try (rename Two=>hq;cases hq));(try dsimp only at hzz);(try simp only[zad,zac,eqD,inR,big,zab,zB] at hzz);(try simp only[zad,zac,eqD,inR,big,zab,zB,farL,farU,zfq] at hzz);(try (revert hzz;intro _)))
  all_goals try (rename Unit=>hq;clear hq)
  all_goals try ((with_reducible refine Held.mk ?_);(with_reducible (first|refine Frz.mk ?_|refine And.intro (Frz.mk ?_) ?_|refine And.intro ?_ (Frz.mk ?_)));repeat' first|exact True.intro|(change _=_;with_reducible rfl)|refine And.intro ?_ ?_|(with_reducible refine Frz.mk ?_))
  all_goals try (refine Held.mk ?_;(try dsimp only at *);(try simp only[zad,zac,eqD,inR,big,zab,zB] at *);(try simp only[zad,zac,eqD,inR,big,zab,zB,farL,farU,zfq] at *))
  all_goals first|omega|exact⟨ha,hb⟩|exact⟨rfl,rfl⟩|trace_state
@[reducible] def zuJ:Spec:={zrK with f:=fun x=>((nuL x.1 x.2.1 x.2.2.1,nuU x.1 x.2.1 x.2.2.1,()),())}
theorem h23:Ok 23 zuJ:=by
  refine mk (ctr:=[(81,zox),(82,zim),(83,zsV)]) ⟨h81,h82,h83,trivial⟩ (nt:=32) Tryz.func23 rfl rfl rfl rfl (by kernel_rfl) (by kernel_rfl) (fun _=>[]) ?_
  rintro⟨(a:zan),(b:zan),⟨(r:Int),(v:Int),_⟩,_⟩ ⟨⟨(ha:inP a),(hb:inP b)⟩,(hx:(8000≤r∧r≤192000)∧(30000≤v∧v≤40000))⟩
  have h1:=ziS ha hb
  have h2:=zkY (n:=farL a b) (r:=r) (by omega) (by omega) hx.1
  have h3:=zkY (n:=farU a b) (r:=r) (by omega) (by omega) hx.1
  have h4:=zmU (b:=v) h2.1 (by omega)
  have h5:=zrq (b:=v) h3.1 (by omega)
  repeat' (intro hzz;(try (rename Two=>hq;cases hq));(try dsimp only at hzz);(try simp only[zad,zac,eqD,inR,big,zab,zB] at hzz);(try simp only[zad,zac,eqD,inR,big,zab,zB,farL,farU,zfq,zfD] at hzz);(try (revert hzz;intro _)))
  all_goals try (rename Unit=>hq;clear hq)
  all_goals try ((with_reducible refine Held.mk ?_);(with_reducible (first|refine Frz.mk ?_|refine And.intro (Frz.mk ?_) ?_|refine And.intro ?_ (Frz.mk ?_)));repeat' first|exact True.intro|(change _=_;with_reducible rfl)|refine And.intro ?_ ?_|(with_reducible refine Frz.mk ?_))
  all_goals try (refine Held.mk ?_;(try dsimp only at *);(try simp only[zad,zac,eqD,inR,big,zab,zB] at *);(try simp only[zad,zac,eqD,inR,big,zab,zB,farL,farU,zfq,zfD] at *))
  all_goals first|omega|exact⟨ha,hb⟩|exact⟨rfl,rfl⟩|trace_state
end Go.Eng.Ar
namespace Go.Eng.Ar
open Go.Eng Go.Proofs Go.Lib
set_option linter.all false
set_option maxRecDepth 100000
set_option maxHeartbeats 8000000
abbrev PowT:Ty:=zbh (List.replicate 20 (.int .u64))
def powD:PowT.Den:=((1:Int),(10:Int),(100:Int),(1000:Int),(10000:Int),(100000:Int),(1000000:Int),(10000000:Int),(100000000:Int),(1000000000:Int),(10000000000:Int),(100000000000:Int),(1000000000000:Int),(10000000000000:Int),(100000000000000:Int),(1000000000000000:Int),(10000000000000000:Int),(100000000000000000:Int),(1000000000000000000:Int),(10000000000000000000:Int),())
theorem zmv {V:View} {k:IntKind}:∀(n:Nat) (x:(zbh (List.replicate n (.int k))).Den) (l:List Value),Rep V (zbh (List.replicate n (.int k))) x l→l=(chL (.int k) n x).map (Value.int k)
  | 0,_,l,h=>h
  | n+1,x,l,h=>by
    obtain⟨l1,l2,rfl,h1,h2⟩:=h
    have h1:l1=[.int k x.1]:=h1
    rw[h1,zmv n x.2 l2 h2]
    rfl
theorem zsY {V:View} {l:List Value} (h:Rep V PowT powD l):l=pow10Tab.map (Value.int .u64):=by
  rw[zmv 20 powD l h]
  have:chL (.int .u64) 20 powD=pow10Tab:=by decide +kernel
  rw[this]
theorem zuh {V:View} {k:IntKind} {n:Int} {v:Value} (h:RepV V (.int k) n v):v=.int k n:=by
  obtain⟨l,h1,⟨h2,_⟩|⟨_,h2⟩⟩:=h
  · cases h2
  · have h1:l=[.int k n]:=h1
    rw[h1] at h2;simpa using h2.symm
theorem zgT {V:View} {s:ByteArray} {v:Value} (h:RepV V .str s v):v=.string s:=by
  obtain⟨l,h1,⟨h2,_⟩|⟨_,h2⟩⟩:=h
  · cases h2
  · have h1:l=[.string s]:=h1
    rw[h1] at h2;simpa using h2.symm
theorem zif {OB:Nat→Obj→Prop} {w:World}:CPost OB w w []:=⟨rfl,rfl,rfl,Nat.le_refl _,fun _ _ _=>rfl,fun _ h=>by cases h⟩
theorem znp {OB:Nat→Obj→Prop} {w:World} {e:TypeId} {t:ByteArray}:CPost OB w (bytesWorld w e t) []:=by
  refine⟨rfl,rfl,rfl,?_,fun b hb _=>bytesWorld_at_old w e t b hb,fun _ h=>by cases h⟩
  simp[bytesWorld,World.freeze,World.alloc,World.drew,-World.alloc_eq,-World.drew_eq]
theorem zfZ {OB:Nat→Obj→Prop} {w w':World} (h:RowKit.Below w.heap.size w w'):CPost OB w w' []:=
  ⟨h.os,h.tape,h.output,h.size,fun b hb _=>h.block b hb,fun _ h=>by cases h⟩
@[reducible] def zuO:Spec:={pats:=[.dat I64,.gw 2 PowT],res:=[{t:=.str}],pre:=fun x=>(-9223372036854775808≤x.1∧x.1≤9223372036854775807)∧x.2.1=powD,f:=fun x=>(bA (itoa x.1),())}
theorem zwZ:Ok 125 zuO:=by
  refine⟨?_,Tryz.f125,Tryz.func125,by kernel_rfl,by kernel_rfl⟩
  rintro w M ⟨(n:Int),(x:PowT.Den),_⟩ vs bs hM ⟨v,vs',rfl,hv,⟨c,el,f,h1,h2,h3,h4⟩,rfl,rfl⟩ ⟨⟨(hn0 : -9223372036854775808≤n),(hn1:n≤9223372036854775807)⟩,(hx:x=powD)⟩
  obtain rfl:=zuh hv
  subst hx
  have hc:=zsY h4
  refine (Any.strconv_Itoa Tryz.laysM171 n hn0 hn1 w ?_).mono ?_
  · unfold Lib.TabIs World.var?
    rw[show Tryz.prog.globalNamed _=some 2 from by kernel_rfl]
    simp only[Option.bind_some,h1]
    congr 1
    exact Array.toList_inj.1 (by rw[hc])
  rintro e w' ⟨rfl,k,os,rfl⟩
  refine⟨[.string _],none,rfl,⟨rfl,rfl,rfl,(by show w.heap.size≤(w.heap++os).size;simp),fun b hb _=>?_,fun _ h=>by cases h⟩,_,_,rfl,RepV.mk1 rfl rfl,rfl,rfl⟩
  show (w.heap++os)[b]?=w.heap[b]?
  exact Array.getElem?_append_left hb
def zeb (l:List UInt8):Int×Bool×Unit:=match atoiAll l with
  | .ok v=>(v,false,())
  | .range=>(atoiSat l,true,())
  | _=>(0,true,())
theorem zmS {V:View} {w:World} {M:Nat→Prop} {g:Nat} {b:Bool} (h:∃c el f,w.heap[g]?=some (.cells c el f)∧¬M g∧c.size=Ty.size .err∧Rep V .err b c.toList) :
    ∃ev,w.cell? ⟨g,0,none⟩=some ev∧(ev=.nilIface∨∃te pe,ev=.iface te pe):=by
  obtain⟨c,el,f,h1,_,_,h4⟩:=h
  have key:∀ev,c.toList=[ev]→w.cell? ⟨g,0,none⟩=some ev:=fun ev he=>by
    rw[zbs h1,←Array.getElem?_toList,he];rfl
  rcases h4 with ⟨_,h5⟩|⟨_,t,u,h5⟩
  · exact⟨_,key _ h5,.inl rfl⟩
  · exact⟨_,key _ h5,.inr ⟨t,u,rfl⟩⟩
@[reducible] def zoC:Spec:={pats:=[.dat .str,.gw 3 .err,.gw 4 .err],res:=[{t:=I64},{t:=.err}],pre:=fun x=>x.1.size≤1000000,f:=fun x=>zeb (bL x.1)}
theorem zw2:Ok 159 zoC:=by
  refine⟨?_,Tryz.f159,Tryz.func159,by kernel_rfl,by kernel_rfl⟩
  rintro w M ⟨(s:ByteArray),(b0:Bool),(b1:Bool),_⟩ vs bs hM ⟨v,vs',rfl,hv,g0,g1,rfl,rfl⟩ (hs:s.size≤1000000)
  obtain rfl:=zgT hv
  obtain⟨e0,hv0,he0⟩:=zmS g0
  obtain⟨e1,hv1,he1⟩:=zmS g1
  cases hr:atoiAll s.data.toList with
  | ok n=>
    refine (Tryz.strconv_Atoi_ok s (by omega) n hr w).mono ?_
    rintro e w' ⟨rfl,hw⟩
    have hf:zoC.f (s,b0,b1,())=(n,false,()):=by show zeb s.data.toList=_;simp only[zeb,hr]
    rw[hf]
    refine⟨[.int .i64 n,.nilIface],none,rfl,?_,_,_,rfl,RepV.mk1 rfl rfl,_,_,rfl,RepV.mk1 rfl (.inl ⟨rfl,rfl⟩),rfl,rfl⟩
    rcases hw with rfl|⟨t,rfl⟩
    · exact zif
    · exact znp
  | range=>
    refine (Tryz.strconv_Atoi_range s (by omega) hr e1 w hv1 he1).mono ?_
    rintro e w' ⟨N,rfl,hN,hN2,hB⟩
    have hf:zoC.f (s,b0,b1,())=(atoiSat s.data.toList,true,()):=by show zeb s.data.toList=_;simp only[zeb,hr]
    rw[hf]
    refine⟨[.int .i64 _,.iface 252 (.pointer (some ⟨N,0,none⟩))],none,rfl,zfZ hB,_,_,rfl,RepV.mk1 rfl rfl,_,_,rfl,RepV.mk1 rfl (.inr ⟨rfl,_,_,rfl⟩),rfl,rfl⟩
  | _=>
    refine (Tryz.strconv_Atoi_syntax s (by omega) (fun v h=>by rw[hr] at h;cases h) (fun h=>by rw[hr] at h;cases h) e0 w hv0 he0).mono ?_
    rintro e w' ⟨N,rfl,hN,hN2,hB⟩
    have hf:zoC.f (s,b0,b1,())=(0,true,()):=by show zeb s.data.toList=_;simp only[zeb,hr]
    rw[hf]
    refine⟨[.int .i64 0,.iface 252 (.pointer (some ⟨N,0,none⟩))],none,rfl,zfZ hB,_,_,rfl,RepV.mk1 rfl rfl,_,_,rfl,RepV.mk1 rfl (.inr ⟨rfl,_,_,rfl⟩),rfl,rfl⟩
@[reducible] def zuC:Spec:={pats:=[.dat .str,.dat .str],res:=[{t:=.str}],pre:=fun _=>True,f:=fun x=>(bA (trimPrefix (bL x.1) (bL x.2.1)),())}
theorem zwX:Ok 160 zuC:=by
  refine⟨?_,Tryz.f160,Tryz.func160,by kernel_rfl,by kernel_rfl⟩
  rintro w M ⟨(s:ByteArray),(p:ByteArray),_⟩ vs bs hM ⟨v,vs',rfl,hv,u,us,rfl,hu,rfl,rfl⟩ _
  obtain rfl:=zgT hv
  obtain rfl:=zgT hu
  refine (Tryz.strings_TrimPrefix s p w).mono ?_
  rintro e w' ⟨rfl,rfl⟩
  exact⟨[.string _],none,rfl,zif,_,_,rfl,RepV.mk1 rfl rfl,rfl,rfl⟩
theorem zm0 (c:UInt8) (s:ByteArray):(cutB c s).length≤s.size+1:=by
  have:=zit c (bL s)
  rw[znc] at this
  simpa [cutB] using this
@[reducible] def zrL:Spec:={pats:=[.dat .str,.dat .str,.gw 1 I64],res:=[{t:=.sl .str}],pre:=fun x=>x.1.size≤1000000∧x.2.1=bA [59],f:=fun x=>(cutB 59 x.1,())}
theorem zvK:Ok 127 zrL:=by
  refine⟨?_,Tryz.f127,Tryz.func127,by kernel_rfl,by kernel_rfl⟩
  rintro w M ⟨(s:ByteArray),(p:ByteArray),(m:Int),_⟩ vs bs hM ⟨v,vs',rfl,hv,u,us,rfl,hu,⟨c,el,f,h1,_,_,h4⟩,rfl,rfl⟩ ⟨(hs:s.size≤1000000),(hp:p=bA [59])⟩
  obtain rfl:=zgT hv
  obtain rfl:=zgT hu
  subst hp
  have hm:w.cell? ⟨1,0,none⟩=some (.int .i64 m):=by
    have h4:c.toList=[.int .i64 m]:=h4
    rw[zbs h1,←Array.getElem?_toList,h4];rfl
  refine (Tryz.strings_Split s (bA [59]) m w (by omega) hm (by rw[zhS];decide)).mono ?_
  rintro e w' ⟨rfl,rfl⟩
  rw[zni]
  have hlen:=znL 59 s
  have hle:=zm0 59 s
  refine ⟨[.slice (some ⟨w.heap.size,0,none⟩) (countB s (bA [59])+1) (countB s (bA [59])+1)],none,rfl,⟨rfl,rfl,rfl,by simp,fun b hb _=>heap_alloc_old w _ hb,fun _ h=>by cases h⟩,_,_,rfl,
    RepV.mk1 rfl ⟨some ⟨w.heap.size,0,none⟩,countB s (bA [59])+1,?_,?_,?_,(fun h=>by cases h),fun ad had _=>?_⟩,rfl,rfl⟩
  · show [_]=[Value.slice _ (cutB 59 s).length _]
    rw[hlen]
  · show (cutB 59 s).length≤_
    omega
  · unfold maxLen;omega
  · obtain rfl:=Option.some.inj had
    refine⟨rfl,((cutB 59 s).map Value.string).toArray,⟨fun hh=>absurd (hM _ hh) (Nat.lt_irrefl _),by simp,_,_,heap_alloc_new w _⟩,?_,fun i y hy=>?_⟩
    · show 0+(cutB 59 s).length*1≤((cutB 59 s).map Value.string).toArray.size
      simp
    · have hi:=(List.getElem?_eq_some_iff.1 hy).1
      have hc:((cutB 59 s).map Value.string)[i]?=some (.string y):=by rw[List.getElem?_map];show Option.map _ (lget (α:=ByteArray) (cutB 59 s) i)=_;rw[hy];rfl
      have hlt:=(List.getElem?_eq_some_iff.1 hc).1
      show Rep _ .str y ((((cutB 59 s).map Value.string).toArray.toList.drop (0+i*1)).take 1)
      rw[Nat.zero_add,Nat.mul_one,List.toList_toArray,List.drop_eq_getElem_cons hlt]
      simp only[List.take_succ_cons,List.take_zero]
      rw[List.getElem?_eq_getElem hlt] at hc
      rw[Option.some.inj hc]
      rfl
def cutP (s:ByteArray):ByteArray×ByteArray×Bool×Unit:=(bA (Lib.cut (bL s) [32]).1,bA (Lib.cut (bL s) [32]).2.1,(Lib.cut (bL s) [32]).2.2,())
theorem zoX {OB:Nat→Obj→Prop} {w:World} {n:Nat}:CPost OB w (w.drewN n) []:=zfZ (Go.RowKit.Below.trans (⟨rfl,rfl,rfl,Nat.le_refl _,fun _ _=>rfl⟩:RowKit.Below w.heap.size w w) ⟨rfl,rfl,rfl,Nat.le_refl _,fun _ _=>rfl⟩)
@[reducible] def sCut:Spec:={pats:=[.dat .str,.dat .str,.gw 1 I64],res:=[{t:=.str},{t:=.str},{t:=.bool}],pre:=fun x=>x.1.size≤1000000∧x.2.1=bA [32],f:=fun x=>cutP x.1}
theorem hCut:Ok 128 sCut:=by
  refine⟨?_,Tryz.f128,Tryz.func128,by kernel_rfl,by kernel_rfl⟩
  rintro w M ⟨(s:ByteArray),(p:ByteArray),(m:Int),_⟩ vs bs hM ⟨v,vs',rfl,hv,u,us,rfl,hu,⟨c,el,f,h1,_,_,h4⟩,rfl,rfl⟩ ⟨(hs:s.size≤1000000),(hp:p=bA [32])⟩
  obtain rfl:=zgT hv
  obtain rfl:=zgT hu
  subst hp
  have hm:w.cell? ⟨1,0,none⟩=some (.int .i64 m):=by
    have h4:c.toList=[.int .i64 m]:=h4
    rw[zbs h1,←Array.getElem?_toList,h4];rfl
  refine (Tryz.strings_Cut s (bA [32]) m w (by omega) hm).mono ?_
  rintro e w' ⟨rfl,n,rfl⟩
  refine⟨[.string _,.string _,.bool _],none,rfl,zoX,_,_,rfl,RepV.mk1 rfl rfl,_,_,rfl,RepV.mk1 rfl rfl,_,_,rfl,RepV.mk1 rfl rfl,rfl,rfl⟩
end Go.Eng.Ar
namespace Go.Eng.Ar
open Go.Eng Go.Proofs
set_option linter.all false
set_option maxRecDepth 100000
set_option maxHeartbeats 8000000
theorem zsr (ad:Option Addr) (n c:Nat) (w:World):(binOp .eql 76 (.slice ad n c) (.slice none 0 0)).run Tryz.prog w=.ok (.bool ad.isNone) w:=by
  have hr:=run_equal_slice_nil (P:=Tryz.prog) w 76 3 ad n c Tryz.underlying76
  simp[binOp,hr]
theorem zwb (w:World):Calls Tryz.prog 145 #[.slice none 0 0] w fun r w'=>r=.returned (.slice none 0 0)∧w'=w:=by
  have mixed:=mixed
  have t3:=Tryz.underlying3
  have t76:=Tryz.underlying76
  have hq:(binOp .eql 76 (.slice none 0 0) (.slice none 0 0)).run Tryz.prog w=.ok (.bool true) w:=zsr none 0 0 w
  have hn:Tryz.f145.ntmps=8:=rfl
  go_enter Tryz.func145,hn
  go_wp2
  go_ret
  exact⟨rfl,rfl⟩
theorem zwc (ad:Addr) (c:Nat) (w:World):Calls Tryz.prog 145 #[.slice (some ad) 0 c] w fun r w'=>r=.returned (.slice (some ⟨w.heap.size,0,none⟩) 0 0)∧w'=w.alloc (.cells #[] 3 (0,0)):=by
  have mixed:=mixed
  have t3:=Tryz.underlying3
  have t76:=Tryz.underlying76
  have hq:(binOp .eql 76 (.slice (some ad) 0 c) (.slice none 0 0)).run Tryz.prog w=.ok (.bool false) w:=zsr (some ad) 0 c w
  have hn:Tryz.f145.ntmps=8:=rfl
  go_enter Tryz.func145,hn
  go_wp2
  go_ret
  exact⟨rfl,rfl⟩
abbrev zvw (n:Nat):Prop:=n≤2000000000
abbrev zs9 (n:Nat):Prop:=0<n∧n≤2000000000
@[reducible] def zgq:Spec:={pats:=[.dat (.sl I64)],res:=[{own:=some 3,t:=.sl I64}],pre:=fun x=>zvw (List.length (α:=Int) x.1),f:=fun x=>(x.1,())}
@[reducible] def zsT:Spec:={zgq with pre:=fun x=>zs9 (List.length (α:=Int) x.1)}
theorem zvN:Ok 145 zsT:=by
  refine mk (ctr:=[]) trivial (nt:=8) Tryz.func145 rfl rfl rfl rfl (by kernel_rfl) (by kernel_rfl) (fun _=>[]) ?_
  rintro⟨(xs:List Int),_⟩ ⟨(h0:0<xs.length),(h:xs.length≤2000000000)⟩
  repeat' (intro hzz;(try (rename Two=>hq;cases hq));(try dsimp only at hzz);(try simp only[zad,zac,eqD,inR,big,zab,zB] at hzz);(try (revert hzz;intro _)))
  all_goals try (rename Unit=>hq;clear hq)
  all_goals try ((with_reducible refine Held.mk ?_);(with_reducible (first|refine Frz.mk ?_|refine And.intro (Frz.mk ?_) ?_|refine And.intro ?_ (Frz.mk ?_)));repeat' first|exact True.intro|(change _=_;with_reducible rfl)|refine And.intro ?_ ?_|(with_reducible refine Frz.mk ?_))
  all_goals try (refine Held.mk ?_;(try dsimp only at *);(try simp only[zad,zac,eqD,inR,big,zab,zB] at *))
  all_goals first|exact h0|exact List.nil_append _|(show ([]:List Int).length+xs.length≤2147483648;simp;omega)
theorem zoW {OB:Nat→Obj→Prop} {w:World}:CPost OB w w []:=⟨rfl,rfl,rfl,Nat.le_refl _,fun _ _ _=>rfl,fun _ h=>by cases h⟩
theorem znq {OB:Nat→Obj→Prop} {w:World} {o:Obj}:CPost OB w (w.alloc o) []:=by
  refine⟨rfl,rfl,rfl,?_,fun b hb _=>?_,fun b hb=>by cases hb⟩
  · show w.heap.size≤(w.heap.push o).size
    rw[Array.size_push];exact Nat.le_succ _
  · show (w.heap.push o)[b]?=w.heap[b]?
    rw[Array.getElem?_push,if_neg (Nat.ne_of_lt hb)]
theorem h145:Ok 145 zgq:=by
  refine⟨?_,zvN.2⟩
  rintro w M ⟨(xs:List Int),u⟩ vs bs hM hA (hp:xs.length≤2000000000)
  by_cases h0:0<xs.length
  · exact zvN.1 w M (xs,u) vs bs hM hA ⟨h0,hp⟩
  · have hx:xs=[]:=List.length_eq_zero_iff.1 (by omega)
    subst hx
    obtain⟨v,vs',rfl,⟨l,hl,h2⟩,rfl,rfl⟩:=hA
    obtain⟨a,cap,rfl,h3,h4,h5,h6⟩:=hl
    have hv:v=.slice a 0 cap:=by
      rcases h2 with ⟨h,_⟩|⟨_,h⟩
      · cases h
      · simpa using h.symm
    subst hv
    cases a with
    | none=>
      have:=(h5 rfl).2
      subst this
      refine (zwb w).mono ?_
      rintro e w' ⟨rfl,rfl⟩
      exact⟨[.slice none 0 0],none,rfl,zoW,_,_,rfl,⟨rfl,rfl⟩,.inl ⟨rfl,rfl,rfl⟩⟩
    | some ad=>
      refine (zwc ad cap w).mono ?_
      rintro e w' ⟨rfl,rfl⟩
      refine⟨[.slice (some ⟨w.heap.size,0,none⟩) 0 0],some w.heap.size,rfl,znq,_,_,rfl,⟨rfl,rfl⟩,.inr ⟨w.heap.size,0,#[],rfl,rfl,Nat.le_refl _,?_,?_⟩⟩
      · show (w.heap.push _)[w.heap.size]?=_
        simp
      · exact⟨rfl,Nat.le_refl _,Nat.zero_le _,fun i x h=>by simp at h⟩
def tab {α:Type} (f:Nat→α):Nat→List α
  | 0=>[]
  | k+1=>tab f k++[f k]
def sm (f:Nat→Int):Nat→Int
  | 0=>0
  | k+1=>sm f k+f k
theorem zal {α:Type} (f:Nat→α):∀k,(tab f k).length=k
  | 0=>rfl
  | k+1=>by simp[tab,zal f k]
theorem zaB {α:Type} (f:Nat→α) (d:α):∀k i,i<k→(tab f k).getD i d=f i
  | 0,i,h=>by omega
  | k + 1,i,h=>by
    simp only[tab,List.getD_eq_getElem?_getD]
    by_cases hi:i<k
    · rw[List.getElem?_append_left (by rw[zal];exact hi)]
      have:=zaB f d k i hi
      rwa [List.getD_eq_getElem?_getD] at this
    · have:i=k:=by omega
      subst this
      rw[List.getElem?_append_right (by rw[zal];omega),zal]
      simp
theorem zbS {α:Type} {f g:Nat→α}:∀k,(∀i,i<k→f i=g i)→tab f k=tab g k
  | 0,_=>rfl
  | k+1,h=>by simp only[tab];rw[zbS k (fun i hi=>h i (by omega)),h k (by omega)]
theorem zap {f g:Nat→Int}:∀k,(∀i,i<k→f i=g i)→sm f k=sm g k
  | 0,_=>rfl
  | k+1,h=>by simp only[sm];rw[zap k (fun i hi=>h i (by omega)),h k (by omega)]
theorem zoq {f:Nat→Int} {B:Int}:∀k:Nat,(∀i,i<k→-B≤f i∧f i≤B)→-(k*B)≤sm f k∧sm f k≤k*B
  | 0,_=>by simp[sm]
  | k+1,h=>by
    have ih:=zoq k (fun i hi=>h i (by omega))
    have:=h k (by omega)
    simp only[sm]
    have e:(((k+1:Nat):Int)*B)=(k:Int)*B+B:=by rw[Int.natCast_add,Int.add_mul];simp
    rw[e]
    omega
theorem zq6 {α:Type} (d:α):∀(xs:List α),xs=tab (fun i=>xs.getD i d) xs.length:=by
  intro xs
  apply List.ext_getElem?
  intro i
  by_cases hi:i<xs.length
  · have h1:=zaB (fun i=>xs.getD i d) d xs.length i hi
    rw[List.getD_eq_getElem?_getD] at h1
    have h2:(tab (fun i=>xs.getD i d) xs.length)[i]?=some ((tab (fun i=>xs.getD i d) xs.length)[i]'(by rw[zal];exact hi)):=List.getElem?_eq_getElem _
    rw[h2] at h1 ⊢
    simp only[Option.getD_some] at h1
    rw[h1]
    simp[List.getD,List.getElem?_eq_getElem hi]
  · rw[List.getElem?_eq_none (by omega),List.getElem?_eq_none (by rw[zal];omega)]
theorem zb5 {α:Type} {f:Nat→α}:∀ {k:Nat} {x:α},x∈tab f k→∃i,i<k∧x=f i
  | 0,x,h=>by simp[tab] at h
  | k + 1,x,h=>by
    simp only[tab,List.mem_append,List.mem_singleton] at h
    rcases h with h|h
    · obtain⟨i,h1,h2⟩:=zb5 h
      exact⟨i,by omega,h2⟩
    · exact⟨k,by omega,h⟩
abbrev vI (xs:List Int) (i:Nat):Int:=xs.getD i 0
def dotI (a b:List Int):Int:=sm (fun i=>vI a i*vI b i) a.length
def sumI (a:List Int):Int:=sm (fun i=>vI a i) a.length
abbrev pDot (a b:List Int):Prop:=a.length≤b.length∧a.length≤9∧∀i,i<a.length→-1000000000000000000≤vI a i*vI b i∧vI a i*vI b i≤1000000000000000000
abbrev pSum (a:List Int):Prop:=a.length≤9∧∀i,i<a.length→-1000000000000000000≤vI a i∧vI a i≤1000000000000000000
@[reducible] def sDot:Spec:={pats:=[.dat (.sl I64),.dat (.sl I64)],res:=[{t:=I64}],pre:=fun x=>pDot x.1 x.2.1,f:=fun x=>(dotI x.1 x.2.1,())}
@[reducible] def sSum:Spec:={pats:=[.dat (.sl I64)],res:=[{t:=I64}],pre:=fun x=>pSum x.1,f:=fun x=>(sumI x.1,())}
theorem sm_9 {f:Nat→Int} {k:Nat} (h:∀i,i<k→-1000000000000000000≤f i∧f i≤1000000000000000000) (hk:k≤9) : -9000000000000000000≤sm f k∧sm f k≤9000000000000000000:=by
  have:=zoq (f:=f) (B:=1000000000000000000) k h
  omega
def zvY (a b:List Int):LoopAnn:={σ:=Nat,pat:=fun k=>[sI 9 k,sI 5 (sm (fun i=>vI a i*vI b i) k)],inv:=fun k=>k≤a.length,meas:=fun k=>a.length - k}
def zut (a:List Int):LoopAnn:={σ:=Nat,pat:=fun k=>[sI 8 k,sI 3 (sm (fun i=>vI a i) k)],inv:=fun k=>k≤a.length,meas:=fun k=>a.length - k}
theorem h105:Ok 105 sDot:=by
  refine mk (ctr:=[]) trivial (nt:=25) Tryz.func105 rfl rfl rfl rfl (by kernel_rfl) (by kernel_rfl) (fun x=>[fun _=>zvY x.1 x.2.1]) ?_
  rintro⟨(a:List Int),(b:List Int),_⟩ ⟨(h1:a.length≤b.length),(h2:a.length≤9),(h3:∀i,i<a.length→-1000000000000000000≤vI a i*vI b i∧vI a i*vI b i≤1000000000000000000)⟩
  repeat' (intro hzz;(try (rename Two=>hq;cases hq));(try dsimp only at hzz);(try simp only[zad,zac,eqD,inR,big,zab,zB] at hzz);(try simp only[zad,zac,eqD,inR,big,zab,zB,zav] at hzz);(try (revert hzz;intro _)))
  all_goals try (rename Unit=>hq;clear hq)
  all_goals try ((with_reducible refine Held.mk ?_);(with_reducible (first|refine Frz.mk ?_|refine And.intro (Frz.mk ?_) ?_|refine And.intro ?_ (Frz.mk ?_)));repeat' first|exact True.intro|(change _=_;with_reducible rfl)|refine And.intro ?_ ?_|(with_reducible refine Frz.mk ?_))
  all_goals try (refine Held.mk ?_;(try dsimp only at *);(try simp only[zad,zac,eqD,inR,big,zab,zB] at *);(try simp only[zad,zac,eqD,inR,big,zab,zB,zav] at *))
  all_goals try omega
  ·
    refine zaj.mk ?_
    refine Exists.intro 0 ?_
    refine And.intro (Leaf.mk ?_) ?_
    · repeat' first|exact True.intro|refine And.intro ?_ ?_
      all_goals try ((change _=_<;>try dsimp only)<;>try with_reducible rfl)
      all_goals try omega
      all_goals (rfl)
    exact Nat.zero_le _
  · rename_i k hk hg
    exact⟨by have:=(h3 k (by omega)).1;exact Int.le_trans (by decide) this,by have:=(h3 k (by omega)).2;exact Int.le_trans this (by decide)⟩
  · rename_i k hk hg
    have:=sm_9 (f:=fun i=>vI a i*vI b i) (k:=k+1) (fun i hi=>h3 i (by omega)) (by omega)
    simp only[sm,vI] at this ⊢
    omega
  · rename_i k hk hg
    refine zaj.mk ?_
    refine Exists.intro (k+1) ?_
    refine And.intro (Leaf.mk ?_) ?_
    · repeat' first|exact True.intro|refine And.intro ?_ ?_
      all_goals try ((change _=_<;>try dsimp only)<;>try with_reducible rfl)
      all_goals try omega
      all_goals (rfl)
    exact⟨by show k+1≤a.length;omega,by show a.length - (k+1)<a.length - k;omega⟩
  · rename_i k hk hg
    rw[show k=a.length by omega];rfl
theorem h124:Ok 124 sSum:=by
  refine mk (ctr:=[]) trivial (nt:=17) Tryz.func124 rfl rfl rfl rfl (by kernel_rfl) (by kernel_rfl) (fun x=>[fun _=>zut x.1]) ?_
  rintro⟨(a:List Int),_⟩ ⟨(h2:a.length≤9),(h3:∀i,i<a.length→-1000000000000000000≤vI a i∧vI a i≤1000000000000000000)⟩
  repeat' (intro hzz;(try (rename Two=>hq;cases hq));(try dsimp only at hzz);(try simp only[zad,zac,eqD,inR,big,zab,zB] at hzz);(try simp only[zad,zac,eqD,inR,big,zab,zB,zav] at hzz);(try (revert hzz;intro _)))
  all_goals try (rename Unit=>hq;clear hq)
  all_goals try ((with_reducible refine Held.mk ?_);(with_reducible (first|refine Frz.mk ?_|refine And.intro (Frz.mk ?_) ?_|refine And.intro ?_ (Frz.mk ?_)));repeat' first|exact True.intro|(change _=_;with_reducible rfl)|refine And.intro ?_ ?_|(with_reducible refine Frz.mk ?_))
  all_goals try (refine Held.mk ?_;(try dsimp only at *);(try simp only[zad,zac,eqD,inR,big,zab,zB] at *);(try simp only[zad,zac,eqD,inR,big,zab,zB,zav] at *))
  all_goals try omega
  ·
    refine zaj.mk ?_
    refine Exists.intro 0 ?_
    refine And.intro (Leaf.mk ?_) ?_
    · repeat' first|exact True.intro|refine And.intro ?_ ?_
      all_goals try ((change _=_<;>try dsimp only)<;>try with_reducible rfl)
      all_goals try omega
      all_goals (rfl)
    exact Nat.zero_le _
  · rename_i k hk hg
    have:=sm_9 (f:=fun i=>vI a i) (k:=k+1) (fun i hi=>h3 i (by omega)) (by omega)
    simp only[sm,vI] at this ⊢
    omega
  · rename_i k hk hg
    refine zaj.mk ?_
    refine Exists.intro (k+1) ?_
    refine And.intro (Leaf.mk ?_) ?_
    · repeat' first|exact True.intro|refine And.intro ?_ ?_
      all_goals try ((change _=_<;>try dsimp only)<;>try with_reducible rfl)
      all_goals try omega
      all_goals (rfl)
    exact⟨by show k+1≤a.length;omega,by show a.length - (k+1)<a.length - k;omega⟩
  · rename_i k hk hg
    rw[show k=a.length by omega];rfl
def mx (xs:List Int):Nat→Int
  | 0=>xs.getD 0 0
  | k+1=>if xs.getD (k+1) 0>mx xs k then xs.getD (k+1) 0 else mx xs k
def mn (xs:List Int):Nat→Int
  | 0=>xs.getD 0 0
  | k+1=>if xs.getD (k+1) 0<mn xs k then xs.getD (k+1) 0 else mn xs k
abbrev pMx (n:Nat):Prop:=0<n∧pLen n
@[reducible] def sMax:Spec:={pats:=[.dat (.sl I64)],res:=[{t:=I64}],pre:=fun x=>pMx (List.length (α:=Int) x.1),f:=fun x=>(mx x.1 (List.length (α:=Int) x.1 - 1),())}
@[reducible] def sMin:Spec:={sMax with f:=fun x=>(mn x.1 (List.length (α:=Int) x.1 - 1),())}
theorem h108:Ok 108 sMin:=by
  refine mk (ctr:=[]) trivial (nt:=25) Tryz.func108 rfl rfl rfl rfl (by kernel_rfl) (by kernel_rfl) (fun x=>[fun _=>{σ:=Nat,pat:=fun k=>[sI 3 (mn x.1 k),sI 4 (k+1:Int)],inv:=fun k=>k+1≤List.length (α:=Int) x.1,meas:=fun k=>List.length (α:=Int) x.1 - k}]) ?_
  rintro⟨(xs:List Int),_⟩ ⟨(h1:0<xs.length),(h2:pLen xs.length)⟩
  have:=h2.out
  repeat' (intro hzz;(try (rename Two=>hq;cases hq));(try dsimp only at hzz);(try simp only[zad,zac,eqD,inR,big,zab,zB] at hzz);(try simp only[zad,zac,eqD,inR,big,zab,zB,zav] at hzz);(try (first|contradiction|(exfalso;omega)));(try (revert hzz;intro _)))
  all_goals try (rename Unit=>hq;clear hq)
  all_goals try ((with_reducible refine Held.mk ?_);(with_reducible (first|refine Frz.mk ?_|refine And.intro (Frz.mk ?_) ?_|refine And.intro ?_ (Frz.mk ?_)));repeat' first|exact True.intro|(change _=_;with_reducible rfl)|refine And.intro ?_ ?_|(with_reducible refine Frz.mk ?_))
  all_goals try (refine Held.mk ?_;(try dsimp only at *);(try simp only[zad,zac,eqD,inR,big,zab,zB] at *);(try simp only[zad,zac,eqD,inR,big,zab,zB,zav] at *))
  all_goals try omega
  ·
    refine zaj.mk ?_
    refine Exists.intro 0 ?_
    refine And.intro (Leaf.mk ?_) ?_
    · repeat' first|exact True.intro|refine And.intro ?_ ?_
      all_goals try ((change _=_<;>try dsimp only)<;>try with_reducible rfl)
      all_goals try omega
      all_goals (rfl)
    exact h1
  · rename_i k hk hg
    refine zaj.mk ?_
    refine Exists.intro (k+1) ?_
    refine And.intro (Leaf.mk ?_) ?_
    · repeat' first|exact True.intro|refine And.intro ?_ ?_
      all_goals try ((change _=_<;>try dsimp only)<;>try with_reducible rfl)
      all_goals try omega
      all_goals (rfl)
    exact⟨by show k+1+1≤xs.length;omega,by show xs.length - (k+1)<xs.length - k;omega⟩
  · rename_i k hk hg
    rw[show xs.length - 1=k from by omega]
def gf (xs:List Int):Nat→Nat
  | 0=>0
  | k+1=>Nat.gcd (gf xs k) (vI xs k).natAbs
abbrev pDiv (xs:List Int):Prop:=pLen xs.length∧∀i,i<xs.length→(vI xs i).natAbs≤9000000000000000000
@[reducible] def sDiv:Spec:={pats:=[.dat (.sl I64)],res:=[{t:=I64}],pre:=fun x=>pDiv x.1,f:=fun x=>((gf x.1 (List.length (α:=Int) x.1):Int),())}
def zv0 (st:St):LoopAnn:=zfS 3 st fun g=>zfS 5 st fun n=>{σ:=Int×Int,pat:=fun s=>[sI 3 s.1,sI 5 s.2],inv:=fun s=>Nat.gcd s.1.natAbs s.2.natAbs=Nat.gcd g.natAbs n.natAbs∧s.1.natAbs≤9000000000000000000∧s.2.natAbs≤9000000000000000000,meas:=fun s=>s.2.natAbs}
def zv5 (xs:List Int):LoopAnn:={σ:=Nat×Int,pat:=fun s=>[sI 8 s.1,sI 3 s.2],inv:=fun s=>s.1≤xs.length∧s.2.natAbs=gf xs s.1∧s.2.natAbs≤9000000000000000000,meas:=fun s=>xs.length - s.1}
theorem h148:Ok 148 sDiv:=by
  refine mk (ctr:=[]) trivial (nt:=23) Tryz.func148 rfl rfl rfl rfl (by kernel_rfl) (by kernel_rfl) (fun x=>[fun _=>zv5 x.1,zv0]) ?_
  rintro⟨(xs:List Int),_⟩ ⟨(h1:pLen xs.length),(h2:∀i,i<xs.length→(vI xs i).natAbs≤9000000000000000000)⟩
  have:=h1.out
  repeat' (intro hzz;(try (rename Two=>hq;cases hq));(try dsimp only at hzz);(try simp only[zad,zac,eqD,inR,big,zab,zB] at hzz);(try simp only[zad,zac,eqD,inR,big,zab,zB,zav] at hzz);(try (revert hzz;intro _)))
  all_goals try (rename Unit=>hq;clear hq)
  all_goals try ((with_reducible refine Held.mk ?_);(with_reducible (first|refine Frz.mk ?_|refine And.intro (Frz.mk ?_) ?_|refine And.intro ?_ (Frz.mk ?_)));repeat' first|exact True.intro|(change _=_;with_reducible rfl)|refine And.intro ?_ ?_|(with_reducible refine Frz.mk ?_))
  all_goals try (refine Held.mk ?_;(try dsimp only at *);(try simp only[zad,zac,eqD,inR,big,zab,zB] at *);(try simp only[zad,zac,eqD,inR,big,zab,zB,zav] at *))
  all_goals try omega
  ·
    refine zaj.mk ?_
    refine Exists.intro ((0:Nat),(0:Int)) ?_
    refine And.intro (Leaf.mk ?_) ?_
    · repeat' first|exact True.intro|refine And.intro ?_ ?_
      all_goals try ((change _=_<;>try dsimp only)<;>try with_reducible rfl)
      all_goals try omega
      all_goals (rfl)
    exact⟨Nat.zero_le _,rfl,Nat.zero_le _⟩
  · rename_i s hs hg
    refine zaj.mk ?_
    refine Exists.intro (s.2,xs.getD s.1 0) ?_
    refine And.intro (Leaf.mk ?_) ?_
    · repeat' first|exact True.intro|refine And.intro ?_ ?_
      all_goals try ((change _=_<;>try dsimp only)<;>try with_reducible rfl)
      all_goals try omega
      all_goals (rfl)
    exact⟨rfl,hs.2.2,h2 s.1 (by omega)⟩
  · rename_i s hs hg t ht hn
    refine zaj.mk ?_
    refine Exists.intro (t.2,t.1.tmod t.2) ?_
    refine And.intro (Leaf.mk ?_) ?_
    · repeat' first|exact True.intro|refine And.intro ?_ ?_
      all_goals try ((change _=_<;>try dsimp only)<;>try with_reducible rfl)
      all_goals try omega
      all_goals (rfl)
    refine⟨⟨?_,ht.2.2,?_⟩,?_⟩
    · refine Eq.trans ?_ ht.1
      show Nat.gcd t.2.natAbs (t.1.tmod t.2).natAbs=_
      rw[Int.natAbs_tmod,Nat.gcd_comm,←Nat.gcd_rec,Nat.gcd_comm]
    · show (t.1.tmod t.2).natAbs≤_
      rw[Int.natAbs_tmod]
      exact Nat.le_trans (Nat.mod_le _ _) ht.2.1
    · show (t.1.tmod t.2).natAbs<t.2.natAbs
      rw[Int.natAbs_tmod]
      exact Nat.mod_lt _ (Nat.pos_of_ne_zero (fun h=>hn (Int.natAbs_eq_zero.1 h)))
  · rename_i s hs hg t ht hn
    refine zaj.mk ?_
    refine Exists.intro (s.1+1,t.1) ?_
    refine And.intro (Leaf.mk ?_) ?_
    · repeat' first|exact True.intro|refine And.intro ?_ ?_
      all_goals try ((change _=_<;>try dsimp only)<;>try with_reducible rfl)
      all_goals try omega
      all_goals (rfl)
    have e:=ht.1
    have hn:t.2=0:=hn
    rw[hn] at e
    have e:t.1.natAbs=Nat.gcd s.2.natAbs (xs.getD s.1 0).natAbs:=by simpa using e
    refine⟨⟨?_,?_,ht.2.1⟩,?_⟩
    · show s.1+1≤xs.length;omega
    · show t.1.natAbs=gf xs (s.1+1)
      rw[e,hs.2.1];rfl
    · show xs.length - (s.1+1)<xs.length - s.1;omega
  · rename_i s hs hg
    have e:s.1=xs.length:=by have:=hs.1;omega
    have e2:=hs.2.1
    rw[e] at e2
    rw[←e2]
    simp only[cond_true]
    split<;>omega
abbrev ArrD:Type:=ArrT.Den
abbrev spkN (xs:List SpkD) (i:Nat):SpkD:=xs.getD i spkZ
@[reducible] def zoD:Spec:={pats:=[.dat ArrT],res:=[{t:=I64}],pre:=fun x=>pLen (List.length (α:=SpkD) x.1.2.2.1),f:=fun x=>((chkA x.1.1 x.1.2.1 x.1.2.2.1).2,())}
theorem h87:Ok 87 zoD:=by
  refine mk (ctr:=[(25,zoA)]) ⟨h25,trivial⟩ (nt:=11) Tryz.func87 rfl rfl rfl rfl (by kernel_rfl) (by kernel_rfl) (fun _=>[]) ?_
  rintro⟨⟨(r:Int),(v:Int),(xs:List SpkD),_⟩,_⟩ (hp:pLen xs.length)
  repeat' (intro hzz;(try (rename Two=>hq;cases hq));(try dsimp only at hzz);(try simp only[zad,zac,eqD,inR,big,zab,zB] at hzz);(try (revert hzz;intro _)))
  all_goals try (rename Unit=>hq;clear hq)
  all_goals try ((with_reducible refine Held.mk ?_);(with_reducible (first|refine Frz.mk ?_|refine And.intro (Frz.mk ?_) ?_|refine And.intro ?_ (Frz.mk ?_)));repeat' first|exact True.intro|(change _=_;with_reducible rfl)|refine And.intro ?_ ?_|(with_reducible refine Frz.mk ?_))
  all_goals try (refine Held.mk ?_;(try dsimp only at *);(try simp only[zad,zac,eqD,inR,big,zab,zB] at *))
  · exact hp
def zh4 (p:SpkD→Bool):List SpkD→Nat→Int
  | [],_=>-1
  | x::r,i=>if p x=true then i else zh4 p r (i+1)
theorem zpX {xs:List SpkD} {i:Nat} (h:i<xs.length):xs.drop i=spkN xs i::xs.drop (i+1):=by
  rw[List.drop_eq_getElem_cons h]
  simp[spkN,List.getD,List.getElem?_eq_getElem h]
theorem ziO {p:SpkD→Bool} {xs:List SpkD} {i:Nat} (h:i<xs.length):zh4 p (xs.drop i) i=if p (spkN xs i)=true then (i:Int) else zh4 p (xs.drop (i+1)) (i+1):=by
  rw[zpX h];rfl
theorem zk2 (p:SpkD→Bool):∀(xs:List SpkD) (i:Nat),decide (zh4 p xs i≥0)=xs.any p
  | [],i=>by simp[zh4]
  | x :: r,i=>by
    simp only[zh4,List.any_cons]
    by_cases h:p x=true
    · have h2:(if p x=true then (i:Int) else zh4 p r (i+1))=i:=if_pos h
      simp only[h,if_true,Bool.true_or,decide_eq_true_eq]
      omega
    · have h':p x=false:=by simpa using h
      simp only[h',Bool.false_eq_true,if_false,Bool.false_or]
      exact zk2 p r (i+1)
abbrev clN:Ty:=.clo 161 (.cons (.ptr zbM) .nil)
def nrS (seat:zan) (s:SpkD):Bool:=zho s.1 seat
@[reducible] def zuM:Spec:={pats:=[.dat SpkT,.dat (.ptr zbM)],res:=[{t:=.bool}],pre:=fun _=>True,f:=fun x=>(nrS x.2.1 x.1,())}
theorem h161:Ok 161 zuM:=by
  refine mk (ctr:=[(78,zsS)]) ⟨h78,trivial⟩ (nt:=9) Tryz.func161 rfl rfl rfl rfl (by kernel_rfl) (by kernel_rfl) (fun _=>[]) ?_
  rintro⟨⟨(a:zan),(g:Int),(d:Int),_⟩,(p:zan),_⟩ _
  repeat' (intro hzz;(try (rename Two=>hq;cases hq));(try dsimp only at hzz);(try simp only[zad,zac,eqD,inR,big,zab,zB] at hzz);(try (revert hzz;intro _)))
  all_goals try (rename Unit=>hq;clear hq)
  all_goals try ((with_reducible refine Held.mk ?_);(with_reducible (first|refine Frz.mk ?_|refine And.intro (Frz.mk ?_) ?_|refine And.intro ?_ (Frz.mk ?_)));repeat' first|exact True.intro|(change _=_;with_reducible rfl)|refine And.intro ?_ ?_|(with_reducible refine Frz.mk ?_))
  all_goals try (refine Held.mk ?_;(try dsimp only at *);(try simp only[zad,zac,eqD,inR,big,zab,zB] at *))
  all_goals rfl
@[reducible] def zuP:Spec:={pats:=[.dat (.sl SpkT),.dat clN],res:=[{t:=I64}],pre:=fun x=>pLen (List.length (α:=SpkD) x.1),f:=fun x=>(zh4 (nrS x.2.1.1) x.1 0,())}
theorem h141:Ok 141 zuP:=by
  refine mk (ctr:=[(161,zuM)]) ⟨h161,trivial⟩ (nt:=19) Tryz.func141 rfl rfl rfl rfl (by kernel_rfl) (by kernel_rfl) (fun x=>[fun _=>{σ:=Nat,pat:=fun i=>[sI 8 i],inv:=fun i=>i≤List.length (α:=SpkD) x.1∧zh4 (nrS x.2.1.1) (List.drop (α:=SpkD) i x.1) i=zh4 (nrS x.2.1.1) x.1 0,meas:=fun i=>List.length (α:=SpkD) x.1 - i}]) ?_
  rintro⟨(xs:List SpkD),⟨(m:zan),_⟩,_⟩ (hp:pLen xs.length)
  have:=hp.out
  repeat' (intro hzz;(try (rename Two=>hq;cases hq));(try dsimp only at hzz);(try simp only[zad,zac,eqD,inR,big,zab,zB] at hzz);(try (first|contradiction|(exfalso;omega)));(try (revert hzz;intro _)))
  all_goals try (rename Unit=>hq;clear hq)
  all_goals try ((with_reducible refine Held.mk ?_);(with_reducible (first|refine Frz.mk ?_|refine And.intro (Frz.mk ?_) ?_|refine And.intro ?_ (Frz.mk ?_)));repeat' first|exact True.intro|(change _=_;with_reducible rfl)|refine And.intro ?_ ?_|(with_reducible refine Frz.mk ?_))
  all_goals try (refine Held.mk ?_;(try dsimp only at *);(try simp only[zad,zac,eqD,inR,big,zab,zB] at *))
  all_goals try omega
  ·
    refine zaj.mk ?_
    refine Exists.intro 0 ?_
    refine And.intro (Leaf.mk ?_) ?_
    · repeat' first|exact True.intro|refine And.intro ?_ ?_
      all_goals try ((change _=_<;>try dsimp only)<;>try with_reducible rfl)
      all_goals try omega
    exact⟨Nat.zero_le _,rfl⟩
  · rename_i i hi hg h
    have h1:=ziO (p:=nrS m) (xs:=xs) (i:=i) (by omega)
    rw[if_pos (show nrS m (spkN xs i)=true from h)] at h1
    exact h1.symm.trans hi.2
  · rename_i i hi hg h
    have h1:=ziO (p:=nrS m) (xs:=xs) (i:=i) (by omega)
    have h:nrS m (spkN xs i)=false:=h
    rw[if_neg (by rw[h];decide)] at h1
    refine zaj.mk ?_
    refine Exists.intro (i+1) ?_
    refine And.intro (Leaf.mk ?_) ?_
    · repeat' first|exact True.intro|refine And.intro ?_ ?_
      all_goals try ((change _=_<;>try dsimp only)<;>try with_reducible rfl)
      all_goals try omega
    exact⟨⟨by show i+1≤xs.length;omega,h1.symm.trans hi.2⟩,by show xs.length - (i+1)<xs.length - i;omega⟩
  · rename_i i hi hg
    have h1:=hi.2
    rw[List.drop_eq_nil_of_le (by omega)] at h1
    exact h1
@[reducible] def zrV:Spec:={pats:=[.dat (.sl SpkT),.dat clN],res:=[{t:=.bool}],pre:=fun x=>pLen (List.length (α:=SpkD) x.1),f:=fun x=>(List.any (α:=SpkD) x.1 (nrS x.2.1.1),())}
theorem h95:Ok 95 zrV:=by
  refine mk (ctr:=[(141,zuP)]) ⟨h141,trivial⟩ (nt:=9) Tryz.func95 rfl rfl rfl rfl (by kernel_rfl) (by kernel_rfl) (fun _=>[]) ?_
  rintro⟨(xs:List SpkD),⟨(m:zan),_⟩,_⟩ (hp:pLen xs.length)
  repeat' (intro hzz;(try (rename Two=>hq;cases hq));(try dsimp only at hzz);(try simp only[zad,zac,eqD,inR,big,zab,zB] at hzz);(try (revert hzz;intro _)))
  all_goals try (rename Unit=>hq;clear hq)
  all_goals try ((with_reducible refine Held.mk ?_);(with_reducible (first|refine Frz.mk ?_|refine And.intro (Frz.mk ?_) ?_|refine And.intro ?_ (Frz.mk ?_)));repeat' first|exact True.intro|(change _=_;with_reducible rfl)|refine And.intro ?_ ?_|(with_reducible refine Frz.mk ?_))
  all_goals try (refine Held.mk ?_;(try dsimp only at *);(try simp only[zad,zac,eqD,inR,big,zab,zB] at *))
  · exact hp
  · exact zk2 _ _ _
def zjv (xs:List SpkD) (seat:zan):Bool:=xs.any (nrS seat)
def zhZ (xs:List SpkD) (seat:zan):Int:=if zea seat.1 seat.2.1 seat.2.2.1=0 then (if zjv xs seat=true then 11 else 0) else zea seat.1 seat.2.1 seat.2.2.1
@[reducible] def xCN:Xt:={clos:=[(161,[zbM])]}
theorem zuj:Its xCN.its:=True.intro
@[reducible] def zrO:Spec:={pats:=[.dat ArrT,.dat zbM],res:=[{t:=I64}],pre:=fun x=>pLen (List.length (α:=SpkD) x.1.2.2.1),f:=fun x=>(zhZ x.1.2.2.1 x.2.1,())}
theorem h140:Ok 140 zrO:=by
  refine mkX (X:=xCN) (hX:=zuj) (ctr:=[(73,zgp),(74,zg7),(85,zcH),(95,zrV)]) ⟨h73,h74,h85,h95,trivial⟩ (nt:=17) Tryz.func140 rfl rfl rfl rfl (by kernel_rfl) (by kernel_rfl) (fun _=>[]) ?_
  rintro⟨⟨(r:Int),(v:Int),(xs:List SpkD),_⟩,(p:zan),_⟩ (hp:pLen xs.length)
  repeat' (intro hzz;(try (rename Two=>hq;cases hq));(try dsimp only at hzz);(try simp only[zad,zac,eqD,inR,big,zab,zB] at hzz);(try (revert hzz;intro _)))
  all_goals try (rename Unit=>hq;clear hq)
  all_goals try ((with_reducible refine Held.mk ?_);(with_reducible (first|refine Frz.mk ?_|refine And.intro (Frz.mk ?_) ?_|refine And.intro ?_ (Frz.mk ?_)));repeat' first|exact True.intro|(change _=_;with_reducible rfl)|refine And.intro ?_ ?_|(with_reducible refine Frz.mk ?_))
  all_goals try (refine Held.mk ?_;(try dsimp only at *);(try simp only[zad,zac,eqD,inR,big,zab,zB] at *))
  · exact hp
  · show ((2:Nat):Int)≤4611686018427387904;decide
  · show za6 [zea p.1 p.2.1 p.2.2.1,bif !zjv xs p then 0 else 11]=zhZ xs p
    simp only[za6,zhZ]
    split
    · cases zjv xs p<;>rfl
    · rfl
abbrev RayD:Type:=RayT.Den
def inSp (s:SpkD):Prop:=inP s.1∧(0≤(s.2.1:Int)∧(s.2.1:Int)≤1000)∧(0≤(s.2.2.1:Int)∧(s.2.2.1:Int)≤10000)
theorem zw5 {g d:Int} (h:zfA g d=0):(0≤g∧g≤1000)∧(0≤d∧d≤10000):=by
  simp only[zfA] at h
  split at h
  · assumption
  · cases h
theorem ztF {s:SpkD} (h:zfV s=0):inSp s:=by
  unfold zfV at h
  split at h
  · rename_i h1;exact⟨zgz h1,zw5 h⟩
  · rename_i h1;exact absurd h h1
theorem zm6 {xs:List SpkD}:∀(k i:Nat),i+k=xs.length→(zle xs k i).2=0→∀j,i≤j→j<xs.length→inSp (spkN xs j)
  | 0,i,hk,_,j,h1,h2=>by omega
  | k + 1,i,hk,h,j,h1,h2=>by
    simp only[zle] at h
    split at h
    · rename_i hs
      by_cases e:j=i
      · subst e;exact ztF hs
      · exact zm6 k (i+1) (by omega) h j (by omega) h2
    · rename_i hs;exact absurd h hs
structure goodArr (r v:Int) (xs:List SpkD):Prop where
  snd:(8000≤r∧r≤192000)∧(30000≤v∧v≤40000)
  pos:0<xs.length
  le:xs.length≤8
  sp:∀i,i<xs.length→inSp (spkN xs i)
theorem znd {r v:Int} {xs:List SpkD} (h:(chkA r v xs).2=0):goodArr r v xs:=by
  unfold chkA at h
  split at h
  · rename_i h0
    unfold zlS at h0
    split at h0
    · rename_i h1
      split at h0
      · cases h0
      · split at h0
        · rename_i h2 h3
          refine⟨?_,by omega,h3,fun i hi=>zm6 xs.length 0 (by omega) h i (Nat.zero_le _) hi⟩
          have:=zsl (x:=(r,v,())) h1
          exact this
        · cases h0
    · rename_i h1;exact absurd h0 h1
  · rename_i h0;exact absurd h h0
theorem zlr {xs:List SpkD} {p:zan} (h:zhZ xs p=0):inP p∧∀i,i<xs.length→zho (spkN xs i).1 p=false:=by
  unfold zhZ at h
  split at h
  · rename_i h1
    split at h
    · cases h
    · rename_i h2
      refine⟨zgz h1,fun i hi=>?_⟩
      have h3:zjv xs p=false:=by simpa using h2
      have h4:=List.any_eq_false.1 h3 (spkN xs i) (by
        have:spkN xs i=xs[i]:=by simp[spkN,List.getD,List.getElem?_eq_getElem hi]
        rw[this];exact List.getElem_mem hi)
      simpa [nrS] using h4
  · rename_i h1;exact absurd h h1
theorem zso {a b:zan} (ha:inP a) (hb:inP b) (h:zho a b=false):100≤sqP a b:=by
  rw[zjb ha hb] at h
  have:=of_decide_eq_false h
  omega
def zs5 (r v:Int) (p:zan) (s:SpkD):RayD:=(s,(stL s.1 p,stU s.1 p,()),(nuL s.1 p (r,v,()),nuU s.1 p (r,v,()),()),())
def zh2 (r v:Int) (xs:List SpkD) (p:zan):Int:=if (chkA r v xs).2=0 then zhZ xs p else (chkA r v xs).2
def zgF (r v:Int) (xs:List SpkD) (p:zan) (k:Nat):List RayD:=tab (fun i=>zs5 r v p (spkN xs i)) k
def ze6 (r v:Int) (xs:List SpkD) (p:zan):List RayD×Int×Unit:=if zh2 r v xs p=0 then (zgF r v xs p xs.length,0,()) else ([],zh2 r v xs p,())
@[reducible] def zuI:Spec:={pats:=[.dat ArrT,.dat zbM],res:=[{t:=.sl RayT},{t:=I64}],pre:=fun x=>pLen (List.length (α:=SpkD) x.1.2.2.1),f:=fun x=>ze6 x.1.1 x.1.2.1 x.1.2.2.1 x.2.1}
def zwU (r v:Int) (xs:List SpkD) (p:zan):LoopAnn:={σ:=Nat,pat:=fun k=>[sI 26 k,.slot 8 (.one (.o 60008 k)),.row 60008 147 RayT (zgF r v xs p k)],inv:=fun k=>k≤xs.length,meas:=fun k=>xs.length - k}
theorem h93:Ok 93 zuI:=by
  refine mk (ctr:=[(77,zsR),(79,sStr),(84,zfk),(87,zoD),(140,zrO)]) ⟨h77,h79,h84,h87,h140,trivial⟩ (nt:=47) Tryz.func93 rfl rfl rfl rfl (by kernel_rfl) (by kernel_rfl) (fun x=>[fun _=>zwU x.1.1 x.1.2.1 x.1.2.2.1 x.2.1]) ?_
  rintro⟨⟨(r:Int),(v:Int),(xs:List SpkD),_⟩,(p:zan),_⟩ (hp:pLen xs.length)
  repeat' (intro hzz;(try (rename Two=>hq;cases hq));(try dsimp only at hzz);(try simp only[zad,zac,eqD,inR,big,zab,zB] at hzz);(try (revert hzz;intro _)))
  all_goals try (rename Unit=>hq;clear hq)
  all_goals try ((with_reducible refine Held.mk ?_);(with_reducible (first|refine Frz.mk ?_|refine And.intro (Frz.mk ?_) ?_|refine And.intro ?_ (Frz.mk ?_)));repeat' first|exact True.intro|(change _=_;with_reducible rfl)|refine And.intro ?_ ?_|(with_reducible refine Frz.mk ?_))
  all_goals try (refine Held.mk ?_;(try dsimp only at *);(try simp only[zad,zac,eqD,inR,big,zab,zB] at *))
  · exact hp
  · rename_i h
    have e:zh2 r v xs p=(chkA r v xs).2:=if_neg h
    have e2:ze6 r v xs p=([],(chkA r v xs).2,()):=by unfold ze6;rw[e,if_neg h]
    rw[e2];exact⟨rfl,rfl⟩
  · exact hp
  · rename_i h1 h
    have h:¬zhZ xs p=0:=h
    have e:zh2 r v xs p=zhZ xs p:=if_pos h1
    have e2:ze6 r v xs p=([],zhZ xs p,()):=by unfold ze6;rw[e,if_neg h]
    rw[e2];exact⟨rfl,rfl⟩
  · rename_i h1 h
    refine zaj.mk ?_
    refine Exists.intro (0:Nat) ?_
    refine And.intro (Leaf.mk ?_) ?_
    · repeat' first|exact True.intro|refine And.intro ?_ ?_
      all_goals try ((change _=_<;>try dsimp only)<;>try with_reducible rfl)
      all_goals try omega
      all_goals (rfl)
    exact Nat.zero_le _
  · rename_i h1 h k hk hg;omega
  · rename_i h1 h k hk hg
    have ha:=znd h1
    have hs:=zlr h
    have h2:=(ha.sp k (by omega)).1
    exact⟨⟨h2,hs.1⟩,zso h2 hs.1 (hs.2 k (by omega))⟩
  · rename_i h1 h k hk hg
    have ha:=znd h1
    have hs:=zlr h
    exact⟨⟨(ha.sp k (by omega)).1,hs.1⟩,ha.snd⟩
  · rename_i h1 h k hk hg
    have e:(zgF r v xs p k).length=k:=zal _ _
    have ha:=(znd h1).le
    refine⟨e.symm,?_⟩
    rw[e];show k+1≤2147483648;omega
  · rename_i h1 h k hk hg
    have:=hp.out
    omega
  · rename_i h1 h k hk hg
    have e:(zgF r v xs p (k+1)).length=k+1:=zal _ _
    refine zaj.mk ?_
    refine Exists.intro (k+1) ?_
    refine And.intro (Leaf.mk ?_) ?_
    · repeat' first|exact True.intro|refine And.intro ?_ ?_
      all_goals try ((change _=_<;>try dsimp only)<;>try with_reducible rfl)
      all_goals try omega
      all_goals (first|rfl|exact e.symm|exact e|(rw[List.length_append,zal];rfl))
    exact⟨by show k+1≤xs.length;omega,by show xs.length - (k+1)<xs.length - k;omega⟩
  all_goals try exact (zal _ _).symm
  · rename_i h1 h k hk hg
    have h:zhZ xs p=0:=h
    have e:zh2 r v xs p=0:=(if_pos h1).trans h
    have e2:ze6 r v xs p=(zgF r v xs p xs.length,0,()):=if_pos e
    rw[e2,show k=xs.length by omega];exact⟨rfl,rfl⟩
def shr (m z:Int):Int×Int:=if m % 4=0 then (z,0) else if m % 4=1 then (0,-z) else if m % 4=2 then (-z,0) else (0,z)
abbrev pShr (n d z:Int):Prop:=(0≤n+d∧n+d≤1000000000000000000)∧(0≤z∧z≤1000000000000000000)
@[reducible] def zrN:Spec:={pats:=[.dat RayT,.dat I64,.dat I64],res:=[{t:=zbY}],pre:=fun x=>pShr x.2.1 x.1.1.2.2.1 x.2.2.1,f:=fun x=>(((shr (x.2.1+x.1.1.2.2.1) x.2.2.1).1,(shr (x.2.1+x.1.1.2.2.1) x.2.2.1).2,()),())}
theorem h98:Ok 98 zrN:=by
  refine mk (ctr:=[]) trivial (nt:=29) Tryz.func98 rfl rfl rfl rfl (by kernel_rfl) (by kernel_rfl) (fun _=>[]) ?_
  rintro⟨⟨⟨(a:zan),(g:Int),(d:Int),_⟩,s,n,_⟩,(m:Int),(z:Int),_⟩ ⟨(h1:0≤m+d∧m+d≤1000000000000000000),(h2:0≤z∧z≤1000000000000000000)⟩
  have e:(m+d).tmod 4=(m+d) % 4:=Int.tmod_eq_emod_of_nonneg h1.1
  repeat' (intro hzz;(try (rename Two=>hq;cases hq));(try dsimp only at hzz);(try simp only[zad,zac,eqD,inR,big,zab,zB] at hzz);(try simp only[zad,zac,eqD,inR,big,zab,zB,e] at hzz);(try (revert hzz;intro _)))
  all_goals try (rename Unit=>hq;clear hq)
  all_goals try ((with_reducible refine Held.mk ?_);(with_reducible (first|refine Frz.mk ?_|refine And.intro (Frz.mk ?_) ?_|refine And.intro ?_ (Frz.mk ?_)));repeat' first|exact True.intro|(change _=_;with_reducible rfl)|refine And.intro ?_ ?_|(with_reducible refine Frz.mk ?_))
  all_goals try (refine Held.mk ?_;(try dsimp only at *);(try simp only[zad,zac,eqD,inR,big,zab,zB] at *);(try simp only[zad,zac,eqD,inR,big,zab,zB,e] at *))
  all_goals try omega
  · rename_i h
    have e:shr (m+d) z=(z,0):=if_pos h
    rw[e];exact⟨rfl,rfl⟩
  · rename_i h1 h
    have e:shr (m+d) z=(0,-z):=(if_neg h1).trans (if_pos h)
    rw[e];exact⟨rfl,rfl⟩
  · rename_i h1 h2 h
    have e:shr (m+d) z=(-z,0):=(if_neg h1).trans ((if_neg h2).trans (if_pos h))
    rw[e];exact⟨rfl,rfl⟩
  · rename_i h1 h2 h
    have e:shr (m+d) z=(0,z):=(if_neg h1).trans ((if_neg h2).trans (if_neg h))
    rw[e];exact⟨rfl,rfl⟩
@[reducible] def xF4:Xt:={fuel:=4}
theorem zui:Its xF4.its:=True.intro
abbrev rayZ:RayD:=Ty.dflt RayT
abbrev rayN (l:List RayD) (i:Nat):RayD:=l.getD i rayZ
def giv (x:RayD):Int×Int:=shr (x.2.2.1.1+x.1.2.2.1) (x.1.2.1*x.2.1.1)
def reT (l:List RayD) (k:Nat):Int:=sm (fun i=>(giv (rayN l i)).1) k
def imT (l:List RayD) (k:Nat):Int:=sm (fun i=>(giv (rayN l i)).2) k
theorem zuA {m z B:Int} (h:0≤z∧z≤B):(-B≤(shr m z).1∧(shr m z).1≤B)∧(-B≤(shr m z).2∧(shr m z).2≤B):=by
  unfold shr
  split
  · show (-B≤z∧z≤B)∧(-B≤0∧0≤B);omega
  · split
    · show (-B≤0∧0≤B)∧(-B≤-z∧-z≤B);omega
    · split
      · show (-B≤-z∧-z≤B)∧(-B≤0∧0≤B);omega
      · show (-B≤0∧0≤B)∧(-B≤z∧z≤B);omega
structure goodRay (x:RayD):Prop where
  g:0≤(x.1.2.1:Int)∧(x.1.2.1:Int)≤1000
  d:0≤(x.1.2.2.1:Int)∧(x.1.2.2.1:Int)≤10000
  s:0≤(x.2.1.1:Int)∧(x.2.1.1:Int)≤100000
  su:(x.2.1.1:Int)≤(x.2.1.2.1:Int)∧(x.2.1.2.1:Int)≤100000
  n:0≤(x.2.2.1.1:Int)∧(x.2.2.1.1:Int)≤1000000000
  nu:(x.2.2.1.1:Int)≤(x.2.2.1.2.1:Int)∧(x.2.2.1.2.1:Int)≤1000000000
theorem zpi {a b A B:Int} (h1:0≤a∧a≤A) (h2:0≤b∧b≤B):0≤a*b∧a*b≤A*B:=⟨Int.mul_nonneg h1.1 h2.1,Int.mul_le_mul h1.2 h2.2 h2.1 (Int.le_trans h1.1 h1.2)⟩
abbrev CD:Type:=Nat×Nat
def cpxI (re im:Int):CD:=(floatOfInt .f64 re,floatOfInt .f64 im)
@[reducible] def sNum:Spec:={pats:=[.dat I64,.dat I64],res:=[{t:=C128}],pre:=fun _=>True,f:=fun x=>(cpxI x.1 x.2.1,())}
theorem h49:Ok 49 sNum:=by
  refine mk (ctr:=[]) trivial (nt:=10) Tryz.func49 rfl rfl rfl rfl (by kernel_rfl) (by kernel_rfl) (fun _=>[]) ?_
  rintro⟨(a:Int),(b:Int),_⟩ _
  repeat' (intro hzz;(try (rename Two=>hq;cases hq));(try dsimp only at hzz);(try simp only[zad,zac,eqD,inR,big,zab,zB] at hzz);(try (revert hzz;intro _)))
  all_goals try (rename Unit=>hq;clear hq)
  all_goals try ((with_reducible refine Held.mk ?_);(with_reducible (first|refine Frz.mk ?_|refine And.intro (Frz.mk ?_) ?_|refine And.intro ?_ (Frz.mk ?_)));repeat' first|exact True.intro|(change _=_;with_reducible rfl)|refine And.intro ?_ ?_|(with_reducible refine Frz.mk ?_))
  all_goals try (refine Held.mk ?_;(try dsimp only at *);(try simp only[zad,zac,eqD,inR,big,zab,zB] at *))
  all_goals rfl
def zlY (a b:Nat×Nat):Bool:=decide (a.1=b.1)&&decide (a.2=b.2)
@[reducible] def zuE:Spec:={pats:=[.dat C128,.dat C128],res:=[{t:=.bool}],pre:=fun _=>True,f:=fun x=>(zlY x.1 x.2.1,())}
theorem h46:Ok 46 zuE:=by
  refine mk (ctr:=[]) trivial (nt:=21) Tryz.func46 rfl rfl rfl rfl (by kernel_rfl) (by kernel_rfl) (fun _=>[]) ?_
  rintro⟨⟨a,b⟩,⟨c,d⟩,_⟩ _
  repeat' (intro hzz;(try (rename Two=>hq;cases hq));(try dsimp only at hzz);(try simp only[zad,zac,eqD,inR,big,zab,zB] at hzz);(try (revert hzz;intro _)))
  all_goals try (rename Unit=>hq;clear hq)
  all_goals try ((with_reducible refine Held.mk ?_);(with_reducible (first|refine Frz.mk ?_|refine And.intro (Frz.mk ?_) ?_|refine And.intro ?_ (Frz.mk ?_)));repeat' first|exact True.intro|(change _=_;with_reducible rfl)|refine And.intro ?_ ?_|(with_reducible refine Frz.mk ?_))
  all_goals try (refine Held.mk ?_;(try dsimp only at *);(try simp only[zad,zac,eqD,inR,big,zab,zB] at *))
  · rename_i h
    have h:a=c:=Int.ofNat_inj.1 h
    show decide ((b:Int)=(d:Int))=zlY (a,b) (c,d)
    subst h
    by_cases hb:b=d<;>simp[zlY,hb,Int.ofNat_inj]
  · rename_i h
    have h:¬a=c:=fun e=>h (by rw[e])
    show false=zlY (a,b) (c,d)
    simp[zlY,h]
theorem zuu {a b:zan} (ha:inP a) (hb:inP b) (h:100≤sqP a b):(0≤stL a b∧stL a b≤100000)∧(stL a b≤stU a b∧stU a b≤100000):=by
  have h1:=ziS ha hb
  have h2:=zsp ha hb h
  have e1:stU a b=(1000000000+farL a b - 1) / farL a b:=by
    have:=zqc (n:=1000000000) (b:=farL a b) (by decide) (by omega)
    rw[Int.tdiv_eq_ediv_of_nonneg (by omega)] at this
    exact this.symm
  have h3:stL a b≤100000:=Int.ediv_le_of_le_mul (by omega) (by omega)
  have h4:0≤stL a b:=Int.ediv_nonneg (by decide) (by omega)
  have h5:stU a b≤100000:=by
    rw[e1]
    refine Int.lt_add_one_iff.1 (Int.ediv_lt_of_lt_mul (by omega) ?_)
    omega
  have h6:stL a b≤stU a b:=by
    rw[e1]
    have q0:stL a b*farU a b≤1000000000:=Int.ediv_mul_le _ (by omega)
    have q1:stL a b*farL a b≤stL a b*farU a b:=Int.mul_le_mul_of_nonneg_left (by omega) h4
    exact Int.le_ediv_of_mul_le (by omega) (by omega)
  exact⟨⟨h4,h3⟩,h6,h5⟩
theorem znn {r v:Int} {p:zan} {s:SpkD} (hx:inS (r,v,())) (hs:inSp s) (hp:inP p) (hn:100≤sqP s.1 p):goodRay (zs5 r v p s):=by
  have h1:=ziS hs.1 hp
  have h2:0≤farL s.1 p*r∧farL s.1 p*r≤3325537728000:=zkY (by omega) (by omega) hx.1
  have h3:0≤farU s.1 p*r∧farU s.1 p*r≤3325537728000:=zkY (by omega) (by omega) hx.1
  have hv:(30000:Int)≤v∧v≤40000:=hx.2
  have hr:(8000:Int)≤r∧r≤192000:=hx.1
  have h4:=zmU (b:=v) h2.1 (by omega)
  have h5:=zrq (b:=v) h3.1 (by omega)
  have h6:(farL s.1 p*r) / v≤cl (farU s.1 p*r) v:=by
    have q:=zqc (n:=farU s.1 p*r) (b:=v) h3.1 (by omega)
    rw[Int.tdiv_eq_ediv_of_nonneg (by omega)] at q
    rw[←q]
    refine Int.ediv_le_ediv (by omega) ?_
    have:=Int.mul_le_mul_of_nonneg_right h1.2.1 (show 0≤r by omega)
    omega
  have h7:=zuu hs.1 hp hn
  have h8:(farL s.1 p*r) / v≤200000000:=Int.ediv_le_of_le_mul (by omega) (by omega)
  have h9:cl (farU s.1 p*r) v≤200000000:=by
    have q:=zqc (n:=farU s.1 p*r) (b:=v) h3.1 (by omega)
    rw[Int.tdiv_eq_ediv_of_nonneg (by omega)] at q
    rw[←q]
    exact Int.ediv_le_of_le_mul (by omega) (by omega)
  refine⟨hs.2.1,hs.2.2,h7.1,h7.2,?_,?_⟩
  · show 0≤((farL s.1 p*r) / v+500) / 1000∧((farL s.1 p*r) / v+500) / 1000≤1000000000
    omega
  · show ((farL s.1 p*r) / v+500) / 1000≤(cl (farU s.1 p*r) v+500) / 1000∧(cl (farU s.1 p*r) v+500) / 1000≤1000000000
    omega
theorem zo4 (r v:Int) (xs:List SpkD) (p:zan):∃L e,ze6 r v xs p=(L,e,())∧L.length≤8∧(∀i,i<L.length→goodRay (rayN L i))∧e=zh2 r v xs p:=by
  unfold ze6
  split
  · rename_i h
    refine⟨_,_,rfl,?_,?_,h.symm⟩
    all_goals
      unfold zh2 at h
      split at h
      · rename_i h1
        have ha:=znd h1
        have hs:=zlr h
        first
        | (rw[zgF,zal];exact ha.le)
        | (intro i hi
           rw[zgF,zal] at hi
           have q:rayN (zgF r v xs p xs.length) i=zs5 r v p (spkN xs i):=zaB _ _ _ _ hi
           rw[q]
           exact znn ha.snd (ha.sp i hi) hs.1 (zso (ha.sp i hi).1 hs.1 (hs.2 i hi)))
      · rename_i h1;exact absurd h h1
  · exact⟨_,_,rfl,Nat.zero_le _,fun i hi=>absurd hi (Nat.not_lt_zero _),rfl⟩
theorem zsn {x:RayD} (h:goodRay x):(-100000000≤(giv x).1∧(giv x).1≤100000000)∧(-100000000≤(giv x).2∧(giv x).2≤100000000):=zuA (zpi h.g h.s)
theorem zvi {L:List RayD} {k:Nat} (h:∀i,i<k→goodRay (rayN L i)) (hk:k≤8):(-800000000≤reT L k∧reT L k≤800000000)∧(-800000000≤imT L k∧imT L k≤800000000):=by
  have h1:=zoq (f:=fun i=>(giv (rayN L i)).1) (B:=100000000) k fun i hi=>(zsn (h i hi)).1
  have h2:=zoq (f:=fun i=>(giv (rayN L i)).2) (B:=100000000) k fun i hi=>(zsn (h i hi)).2
  unfold reT imT
  omega
def prC (o:List RayD×Int×Unit):CD:=if o.2.1=0 then cpxI (reT o.1 o.1.length) (imT o.1 o.1.length) else (0,0)
@[reducible] def zrR:Spec:={pats:=[.dat ArrT,.dat zbM],res:=[{t:=C128},{t:=I64}],pre:=fun x=>pLen (List.length (α:=SpkD) x.1.2.2.1),f:=fun x=>(prC (ze6 x.1.1 x.1.2.1 x.1.2.2.1 x.2.1),zh2 x.1.1 x.1.2.1 x.1.2.2.1 x.2.1,())}
def zwM (l:List RayD):LoopAnn:={σ:=Nat,pat:=fun k=>[sI 24 k,cI 8 0 (reT l k),cI 8 1 (imT l k)],inv:=fun k=>k≤l.length,meas:=fun k=>l.length - k}
theorem h34:Ok 34 zrR:=by
  refine mkX (X:=xF4) (hX:=zui) (ctr:=[(93,zuI),(98,zrN)]) ⟨h93,h98,trivial⟩ (nt:=59) Tryz.func34 rfl rfl rfl rfl (by kernel_rfl) (by kernel_rfl) (fun x=>[fun _=>zwM (ze6 x.1.1 x.1.2.1 x.1.2.2.1 x.2.1).1]) ?_
  rintro⟨⟨(r:Int),(v:Int),(xs:List SpkD),⟨⟩⟩,⟨(pa:Int),(pb:Int),(pc:Int),⟨⟩⟩,⟨⟩⟩ (hp:pLen xs.length)
  obtain⟨L,e,he,hl,hg,hz⟩:=zo4 r v xs (pa,pb,pc,())
  have hb:=fun (k:Nat) (hk:k≤L.length)=>zvi (L:=L) (k:=k) (fun i hi=>hg i (by omega)) (by omega)
  repeat' (intro hzz;(try (rename Two=>hq;cases hq));(try dsimp only at hzz);(try simp only[zad,zac,eqD,inR,big,zab,zB] at hzz);(try simp only[zad,zac,eqD,inR,big,zab,zB,he,pLen,Int.toNat_natCast] at hzz);(try (revert hzz;intro _)))
  all_goals try (rename Unit=>hq;clear hq)
  all_goals try ((with_reducible refine Held.mk ?_);(with_reducible (first|refine Frz.mk ?_|refine And.intro (Frz.mk ?_) ?_|refine And.intro ?_ (Frz.mk ?_)));repeat' first|exact True.intro|(change _=_;with_reducible rfl)|refine And.intro ?_ ?_|(with_reducible refine Frz.mk ?_))
  all_goals try (refine Held.mk ?_;(try dsimp only at *);(try simp only[zad,zac,eqD,inR,big,zab,zB] at *);(try simp only[zad,zac,eqD,inR,big,zab,zB,he,pLen,Int.toNat_natCast] at *))
  all_goals try omega
  all_goals try simp only[he,Int.toNat_natCast]
  · rename_i h
    refine⟨?_,hz⟩
    exact (if_neg h).symm
  · rename_i h
    refine zaj.mk ?_
    refine Exists.intro (0:Nat) ?_
    refine And.intro (Leaf.mk ?_) ?_
    · repeat' first|exact True.intro|refine And.intro ?_ ?_
      all_goals try ((change _=_<;>try dsimp only)<;>try with_reducible rfl)
      all_goals try omega
      all_goals (first|rfl|exact e)
    exact Nat.zero_le _
  · rename_i k hk hlt
    have q:=hg k (by omega)
    have:=zpi q.g q.s
    exact⟨Int.le_trans (by decide) this.1,Int.le_trans this.2 (by decide)⟩
  · rename_i k hk hlt
    have q:=hg k (by omega)
    have:=zpi q.g q.s
    exact⟨⟨Int.add_nonneg q.n.1 q.d.1,Int.le_trans (Int.add_le_add q.n.2 q.d.2) (by decide)⟩,this.1,Int.le_trans this.2 (by decide)⟩
  · rename_i k hk hlt _
    have:=(hb (k+1) (by omega)).1
    exact⟨Int.le_trans (by decide) this.1,Int.le_trans this.2 (by decide)⟩
  · rename_i k hk hlt _ _
    have:=(hb (k+1) (by omega)).2
    exact⟨Int.le_trans (by decide) this.1,Int.le_trans this.2 (by decide)⟩
  · rename_i k hk hlt _ _ _
    refine zaj.mk ?_
    refine Exists.intro (k+1) ?_
    refine And.intro (Leaf.mk ?_) ?_
    · repeat' first|exact True.intro|refine And.intro ?_ ?_
      all_goals try ((change _=_<;>try dsimp only)<;>try with_reducible rfl)
      all_goals try omega
      all_goals (first|rfl|exact e)
    exact⟨by show k+1≤L.length;omega,by show L.length - (k+1)<L.length - k;omega⟩
  · rename_i h k hk hlt
    refine⟨?_,h.symm.trans hz⟩
    have e2:k=L.length:=by omega
    subst e2
    exact (if_pos h).symm
def zh0:ArrD:=(34000,34000,([((0,0,0,()),1000,0,()),((0,0,100,()),500,400,())]:List SpkD),())
@[reducible] def zuH:Spec:={pats:=[],res:=[{t:=ArrT}],pre:=fun _=>True,f:=fun _=>(zh0,())}
theorem h72:Ok 72 zuH:=by
  refine mk (ctr:=[]) trivial (nt:=6) Tryz.func72 rfl rfl rfl rfl (by kernel_rfl) (by kernel_rfl) (fun _=>[]) ?_
  rintro⟨⟩ _
  repeat' (intro hzz;(try (rename Two=>hq;cases hq));(try dsimp only at hzz);(try simp only[zad,zac,eqD,inR,big,zab,zB] at hzz);(try (revert hzz;intro _)))
  all_goals try (rename Unit=>hq;clear hq)
  all_goals try ((with_reducible refine Held.mk ?_);(with_reducible (first|refine Frz.mk ?_|refine And.intro (Frz.mk ?_) ?_|refine And.intro ?_ (Frz.mk ?_)));repeat' first|exact True.intro|(change _=_;with_reducible rfl)|refine And.intro ?_ ?_|(with_reducible refine Frz.mk ?_))
  all_goals try (refine Held.mk ?_;(try dsimp only at *);(try simp only[zad,zac,eqD,inR,big,zab,zB] at *))
  all_goals exact⟨rfl,rfl,rfl⟩
abbrev sOwn (t k el:Nat) (xs:List Int):St:=[.slot t (.one (.o k xs.length)),.row k el I64 xs]
abbrev zg8 (t k el:Nat) (xs:List (List Int)):St:=[.slot t (.one (.o k xs.length)),.row k el (.sl I64) xs]
abbrev MatT:Ty:=.sl (.sl I64)
abbrev zvu (n at':Int):Prop:=0≤n∧n≤1000∧0≤at'∧at'<n
def zbE (n at' v:Int):List Int:=(repl n (0:Int)).set at'.toNat v
@[reducible] def zsO:Spec:={pats:=[.dat I64,.dat I64,.dat I64],res:=[{own:=some 3,t:=.sl I64}],pre:=fun x=>zvu x.1 x.2.1,f:=fun x=>(zbE x.1 x.2.1 x.2.2.1,())}
theorem h162:Ok 162 zsO:=by
  refine mk (ctr:=[]) trivial (nt:=15) Tryz.func162 rfl rfl rfl rfl (by kernel_rfl) (by kernel_rfl) (fun _=>[]) ?_
  rintro⟨(n:Int),(k:Int),(v:Int),_⟩ ⟨h1,h2,h3,h4⟩
  have e:((repl n (0:Int)).length:Int)=n:=by rw[zbl];omega
  repeat' (intro hzz;(try (rename Two=>hq;cases hq));(try dsimp only at hzz);(try simp only[zad,zac,eqD,inR,big,zab,zB] at hzz);(try (revert hzz;intro _)))
  all_goals try (rename Unit=>hq;clear hq)
  all_goals try ((with_reducible refine Held.mk ?_);(with_reducible (first|refine Frz.mk ?_|refine And.intro (Frz.mk ?_) ?_|refine And.intro ?_ (Frz.mk ?_)));repeat' first|exact True.intro|(change _=_;with_reducible rfl)|refine And.intro ?_ ?_|(with_reducible refine Frz.mk ?_))
  all_goals try (refine Held.mk ?_;(try dsimp only at *);(try simp only[zad,zac,eqD,inR,big,zab,zB] at *))
  all_goals first|(exact⟨h1,Int.le_trans h2 (by decide)⟩)|(rw[e];exact⟨h3,h4⟩)|(exact⟨by rw[List.length_set],rfl⟩)|trace_state
theorem zpI {xs:List Int} {k:Nat} (h:vI xs k≠0):(gf xs (k+1):Int)≠0:=by
  simp only[gf]
  intro e
  have e:Nat.gcd (gf xs k) (vI xs k).natAbs=0:=by omega
  exact h (Int.natAbs_eq_zero.1 (Nat.gcd_eq_zero_iff.1 e).2)
theorem znh {n b:Int} (h1:n.natAbs≤9000000000000000000) : -9223372036854775808≤n.tdiv b∧n.tdiv b≤9223372036854775807:=by
  have h3:=Int.natAbs_tdiv_le_natAbs n b
  omega
def gcd2 (a b:Int):Int:=((Nat.gcd a.natAbs b.natAbs:Nat):Int)
abbrev pLow (a b:Int):Prop:=a.natAbs≤9000000000000000000∧b.natAbs≤9000000000000000000∧b≠0
@[reducible] def sLow:Spec:={pats:=[.dat I64,.dat I64],res:=[{t:=zbY}],pre:=fun x=>pLow x.1 x.2.1,f:=fun x=>((Int.tdiv x.1 (gcd2 x.1 x.2.1),Int.tdiv x.2.1 (gcd2 x.1 x.2.1),()),())}
theorem h107:Ok 107 sLow:=by
  refine mk (ctr:=[(148,sDiv)]) ⟨h148,trivial⟩ (nt:=17) Tryz.func107 rfl rfl rfl rfl (by kernel_rfl) (by kernel_rfl) (fun _=>[]) ?_
  rintro⟨(a:Int),(b:Int),_⟩ ⟨h1,h2,h3⟩
  have e:(gf [a,b] [a,b].length:Int)=gcd2 a b:=by
    show ((Nat.gcd (Nat.gcd 0 a.natAbs) b.natAbs:Nat):Int)=_
    rw[Nat.gcd_zero_left];rfl
  have e2:gcd2 a b≠0:=by rw[←e];exact zpI (xs:=[a,b]) (k:=1) h3
  have hd:pDiv [a,b]:=⟨by show ((2:Nat):Int)≤4611686018427387904;decide,fun i hi=>by
    have:i=0∨i=1:=by simp at hi;omega
    rcases this with rfl|rfl
    · exact h1
    · exact h2⟩
  repeat' (intro hzz;(try (rename Two=>hq;cases hq));(try dsimp only at hzz);(try simp only[zad,zac,eqD,inR,big,zab,zB] at hzz);(try simp only[zad,zac,eqD,inR,big,zab,zB,e] at hzz);(try (revert hzz;intro _)))
  all_goals try (rename Unit=>hq;clear hq)
  all_goals try ((with_reducible refine Held.mk ?_);(with_reducible (first|refine Frz.mk ?_|refine And.intro (Frz.mk ?_) ?_|refine And.intro ?_ (Frz.mk ?_)));repeat' first|exact True.intro|(change _=_;with_reducible rfl)|refine And.intro ?_ ?_|(with_reducible refine Frz.mk ?_))
  all_goals try (refine Held.mk ?_;(try dsimp only at *);(try simp only[zad,zac,eqD,inR,big,zab,zB] at *);(try simp only[zad,zac,eqD,inR,big,zab,zB,e] at *))
  all_goals first|exact hd|exact⟨e2,znh h1⟩|exact⟨e2,znh h2⟩|exact⟨rfl,rfl⟩|trace_state
def redG (l:List Int) (d:Int):Int:=(gf (l++[d]) (l++[d]).length:Int)
def redL (l:List Int) (d:Int):List Int×Int:=(tab (fun i=>Int.tdiv (vI l i) (redG l d)) l.length,Int.tdiv d (redG l d))
abbrev pRed (l:List Int) (d:Int):Prop:=l.length≤1000∧(∀i,i<l.length→(vI l i).natAbs≤9000000000000000000)∧d.natAbs≤9000000000000000000∧d≠0
@[reducible] def sRed:Spec:={pats:=[.dat (.sl I64),.dat I64],res:=[{own:=some 3,t:=.sl I64},{t:=I64}],pre:=fun x=>pRed x.1 x.2.1,f:=fun x=>((redL x.1 x.2.1).1,(redL x.1 x.2.1).2,())}
def zvh (l:List Int) (d:Int):LoopAnn:={σ:=Nat,pat:=fun k=>sI 18 k::sOwn 7 60007 3 (tab (fun i=>Int.tdiv (vI l i) (redG l d)) k),inv:=fun k=>k≤l.length,meas:=fun k=>l.length - k}
def zh5 (p:Int→Bool):List Int→Nat→Int
  | [],_=>-1
  | x::r,i=>if p x=true then i else zh5 p r (i+1)
theorem ziR {p:Int→Bool} {xs:List Int} {i:Nat} (h:i<xs.length):zh5 p (xs.drop i) i=if p (xs.getD i 0)=true then (i:Int) else zh5 p (xs.drop (i+1)) (i+1):=by
  rw[zjP h];rfl
theorem zk3 (p:Int→Bool):∀(xs:List Int) (i:Nat),decide (zh5 p xs i≥0)=xs.any p
  | [],i=>by simp[zh5]
  | x :: r,i=>by
    simp only[zh5,List.any_cons]
    by_cases h:p x=true
    · have h2:(if p x=true then (i:Int) else zh5 p r (i+1))=i:=if_pos h
      simp only[h,if_true,Bool.true_or,decide_eq_true_eq]
      omega
    · have h':p x=false:=by simpa using h
      simp only[h',Bool.false_eq_true,if_false,Bool.false_or]
      exact zk3 p r (i+1)
abbrev clM:Ty:=.clo 147 (.cons (.ptr I64) .nil)
abbrev outM (m n:Int):Bool:=!zaq n 0 m
@[reducible] def zuN:Spec:={pats:=[.dat I64,.dat (.ptr I64)],res:=[{t:=.bool}],pre:=fun _=>True,f:=fun x=>(outM x.2.1 x.1,())}
theorem h147:Ok 147 zuN:=by
  refine mk (ctr:=[(88,zbH)]) ⟨h88,trivial⟩ (nt:=8) Tryz.func147 rfl rfl rfl rfl (by kernel_rfl) (by kernel_rfl) (fun _=>[]) ?_
  rintro⟨(n:Int),(m:Int),_⟩ _
  repeat' (intro hzz;(try (rename Two=>hq;cases hq));(try dsimp only at hzz);(try simp only[zad,zac,eqD,inR,big,zab,zB] at hzz);(try (revert hzz;intro _)))
  all_goals try (rename Unit=>hq;clear hq)
  all_goals try ((with_reducible refine Held.mk ?_);(with_reducible (first|refine Frz.mk ?_|refine And.intro (Frz.mk ?_) ?_|refine And.intro ?_ (Frz.mk ?_)));repeat' first|exact True.intro|(change _=_;with_reducible rfl)|refine And.intro ?_ ?_|(with_reducible refine Frz.mk ?_))
  all_goals try (refine Held.mk ?_;(try dsimp only at *);(try simp only[zad,zac,eqD,inR,big,zab,zB] at *))
@[reducible] def zuQ:Spec:={pats:=[.dat (.sl I64),.dat clM],res:=[{t:=I64}],pre:=fun x=>pLen (List.length (α:=Int) x.1),f:=fun x=>(zh5 (outM x.2.1.1) x.1 0,())}
theorem h165:Ok 165 zuQ:=by
  refine mk (ctr:=[(147,zuN)]) ⟨h147,trivial⟩ (nt:=19) Tryz.func165 rfl rfl rfl rfl (by kernel_rfl) (by kernel_rfl) (fun x=>[fun _=>{σ:=Nat,pat:=fun i=>[sI 8 i],inv:=fun i=>i≤List.length (α:=Int) x.1∧zh5 (outM x.2.1.1) (List.drop (α:=Int) i x.1) i=zh5 (outM x.2.1.1) x.1 0,meas:=fun i=>List.length (α:=Int) x.1 - i}]) ?_
  rintro⟨(xs:List Int),⟨(m:Int),_⟩,_⟩ (hp:pLen xs.length)
  have:=hp.out
  repeat' (intro hzz;(try (rename Two=>hq;cases hq));(try dsimp only at hzz);(try simp only[zad,zac,eqD,inR,big,zab,zB] at hzz);(try simp only[zad,zac,eqD,inR,big,zab,zB,zav] at hzz);(try (first|contradiction|(exfalso;omega)));(try (revert hzz;intro _)))
  all_goals try (rename Unit=>hq;clear hq)
  all_goals try ((with_reducible refine Held.mk ?_);(with_reducible (first|refine Frz.mk ?_|refine And.intro (Frz.mk ?_) ?_|refine And.intro ?_ (Frz.mk ?_)));repeat' first|exact True.intro|(change _=_;with_reducible rfl)|refine And.intro ?_ ?_|(with_reducible refine Frz.mk ?_))
  all_goals try (refine Held.mk ?_;(try dsimp only at *);(try simp only[zad,zac,eqD,inR,big,zab,zB] at *);(try simp only[zad,zac,eqD,inR,big,zab,zB,zav] at *))
  all_goals try omega
  ·
    refine zaj.mk ?_
    refine Exists.intro 0 ?_
    refine And.intro (Leaf.mk ?_) ?_
    · repeat' first|exact True.intro|refine And.intro ?_ ?_
      all_goals try ((change _=_<;>try dsimp only)<;>try with_reducible rfl)
      all_goals try omega
    exact⟨Nat.zero_le _,rfl⟩
  · rename_i i hi hg h
    have h1:=ziR (p:=outM m) (xs:=xs) (i:=i) (by omega)
    have h2:outM m (xs.getD i 0)=true:=by
      have h':zaq (xs.getD i 0) 0 m=false:=decide_eq_false h
      simp only[outM,h',Bool.not_false]
    rw[if_pos h2] at h1
    exact h1.symm.trans hi.2
  · rename_i i hi hg h
    have h1:=ziR (p:=outM m) (xs:=xs) (i:=i) (by omega)
    have h2:¬outM m (xs.getD i 0)=true:=by
      have h':zaq (xs.getD i 0) 0 m=true:=decide_eq_true h
      simp only[outM,h',Bool.not_true];decide
    rw[if_neg h2] at h1
    refine zaj.mk ?_
    refine Exists.intro (i+1) ?_
    refine And.intro (Leaf.mk ?_) ?_
    · repeat' first|exact True.intro|refine And.intro ?_ ?_
      all_goals try ((change _=_<;>try dsimp only)<;>try with_reducible rfl)
      all_goals try omega
    exact⟨⟨by show i+1≤xs.length;omega,h1.symm.trans hi.2⟩,by show xs.length - (i+1)<xs.length - i;omega⟩
  · rename_i i hi hg
    have h1:=hi.2
    rw[List.drop_eq_nil_of_le (by omega)] at h1
    exact h1
@[reducible] def zrW:Spec:={pats:=[.dat (.sl I64),.dat clM],res:=[{t:=.bool}],pre:=fun x=>pLen (List.length (α:=Int) x.1),f:=fun x=>(List.any (α:=Int) x.1 (outM x.2.1.1),())}
theorem h146:Ok 146 zrW:=by
  refine mk (ctr:=[(165,zuQ)]) ⟨h165,trivial⟩ (nt:=9) Tryz.func146 rfl rfl rfl rfl (by kernel_rfl) (by kernel_rfl) (fun _=>[]) ?_
  rintro⟨(xs:List Int),⟨(m:Int),_⟩,_⟩ (hp:pLen xs.length)
  repeat' (intro hzz;(try (rename Two=>hq;cases hq));(try dsimp only at hzz);(try simp only[zad,zac,eqD,inR,big,zab,zB] at hzz);(try (revert hzz;intro _)))
  all_goals try (rename Unit=>hq;clear hq)
  all_goals try ((with_reducible refine Held.mk ?_);(with_reducible (first|refine Frz.mk ?_|refine And.intro (Frz.mk ?_) ?_|refine And.intro ?_ (Frz.mk ?_)));repeat' first|exact True.intro|(change _=_;with_reducible rfl)|refine And.intro ?_ ?_|(with_reducible refine Frz.mk ?_))
  all_goals try (refine Held.mk ?_;(try dsimp only at *);(try simp only[zad,zac,eqD,inR,big,zab,zB] at *))
  · exact hp
  · exact zk3 _ _ _
def allE (l:List Int) (m:Int):Int:=if l.any (outM m)=true then 2 else 0
@[reducible] def xCM:Xt:={clos:=[(147,[I64])]}
theorem zuk:Its xCM.its:=True.intro
@[reducible] def zsW:Spec:={pats:=[.dat (.sl I64),.dat I64],res:=[{t:=I64}],pre:=fun x=>pLen (List.length (α:=Int) x.1),f:=fun x=>(allE x.1 x.2.1,())}
theorem h104:Ok 104 zsW:=by
  refine mkX (X:=xCM) (hX:=zuk) (ctr:=[(146,zrW),(85,zcH)]) ⟨h146,h85,trivial⟩ (nt:=10) Tryz.func104 rfl rfl rfl rfl (by kernel_rfl) (by kernel_rfl) (fun _=>[]) ?_
  rintro⟨(xs:List Int),(m:Int),_⟩ (hp:pLen xs.length)
  repeat' (intro hzz;(try (rename Two=>hq;cases hq));(try dsimp only at hzz);(try simp only[zad,zac,eqD,inR,big,zab,zB] at hzz);(try (revert hzz;intro _)))
  all_goals try (rename Unit=>hq;clear hq)
  all_goals try ((with_reducible refine Held.mk ?_);(with_reducible (first|refine Frz.mk ?_|refine And.intro (Frz.mk ?_) ?_|refine And.intro ?_ (Frz.mk ?_)));repeat' first|exact True.intro|(change _=_;with_reducible rfl)|refine And.intro ?_ ?_|(with_reducible refine Frz.mk ?_))
  all_goals try (refine Held.mk ?_;(try dsimp only at *);(try simp only[zad,zac,eqD,inR,big,zab,zB] at *))
  · exact hp
  · unfold allE
    cases xs.any (outM m)<;>rfl
theorem zgm {l:List Int} {m:Int} (h:allE l m=0):∀i,i<l.length→0≤vI l i∧vI l i≤m:=by
  unfold allE at h
  split at h
  · cases h
  · rename_i hn
    intro i hi
    have h1:l.any (outM m)=false:=by simpa using hn
    have h2:=List.any_eq_false.1 h1 (vI l i) (by
      have:vI l i=l[i]:=by simp[vI,List.getD,List.getElem?_eq_getElem hi]
      rw[this];exact List.getElem_mem hi)
    simp only[outM,Bool.not_eq_true',Bool.not_eq_false] at h2
    exact of_decide_eq_true (by simpa using h2)
abbrev ncol (t:List (List Int)):Nat:=(t.getD 0 []).length
abbrev rowN (m:List (List Int)) (i:Nat):List Int:=m.getD i []
def zb8 (n0:Nat):List (List Int)→Int
  | []=>0
  | r::t=>if r.length=n0 then (if allE r 100=0 then zb8 n0 t else allE r 100) else 10
def chkT (t:List (List Int)) (cap:Int):Int:=
  if t.length=0 then 10 else if 4<t.length then 8 else if ncol t=0 then 10 else if 3<ncol t then 8 else if zb8 (ncol t) t=0 then (if 0≤cap∧cap≤1000 then 0 else 2) else zb8 (ncol t) t
theorem zpY {xs:List (List Int)} {i:Nat} (h:i<xs.length):xs.drop i=xs.getD i []::xs.drop (i+1):=by
  rw[List.drop_eq_getElem_cons h]
  simp[List.getD,List.getElem?_eq_getElem h]
theorem zdp {n0:Nat} {t:List (List Int)} {i:Nat} (h:i<t.length):zb8 n0 (t.drop i)=if (t.getD i []).length=n0 then (if allE (t.getD i []) 100=0 then zb8 n0 (t.drop (i+1)) else allE (t.getD i []) 100) else 10:=by
  rw[zpY h];rfl
theorem zaS (xs:List (List Int)) (i:Nat):List.getD xs ((i:Int)).toNat (Ty.dflt (.sl I64))=xs.getD i []:=rfl
theorem zbb (xs:List (List Int)):List.getD xs (Int.toNat 0) (Ty.dflt (.sl I64))=xs.getD 0 []:=rfl
@[reducible] def zls:Spec:={pats:=[.dat zeI],res:=[{t:=I64}],pre:=fun _=>True,f:=fun x=>(chkT x.1.1 x.1.2.1,())}
def ztX (t:List (List Int)):LoopAnn:={σ:=Nat,pat:=fun k=>[sI 33 k],inv:=fun k=>k≤t.length∧zb8 (ncol t) (t.drop k)=zb8 (ncol t) t,meas:=fun k=>t.length - k}
theorem h65:Ok 65 zls:=by
  refine mk (ctr:=[(88,zbH),(85,zcH),(104,zsW)]) ⟨h88,h85,h104,trivial⟩ (nt:=55) Tryz.func65 rfl rfl rfl rfl (by kernel_rfl) (by kernel_rfl) (fun x=>[fun _=>ztX x.1.1]) ?_
  rintro⟨⟨(t:List (List Int)),(cap:Int),_⟩,_⟩ _
  repeat' (intro hzz;(try (rename Two=>hq;cases hq));(try dsimp only at hzz);(try simp only[zad,zac,eqD,inR,big,zab,zB] at hzz);(try simp only[zad,zac,eqD,inR,big,zab,zB,zaS,zbb,zaq] at hzz);(try (revert hzz;intro _)))
  all_goals try (rename Unit=>hq;clear hq)
  all_goals try ((with_reducible refine Held.mk ?_);(with_reducible (first|refine Frz.mk ?_|refine And.intro (Frz.mk ?_) ?_|refine And.intro ?_ (Frz.mk ?_)));repeat' first|exact True.intro|(change _=_;with_reducible rfl)|refine And.intro ?_ ?_|(with_reducible refine Frz.mk ?_))
  all_goals try (refine Held.mk ?_;(try dsimp only at *);(try simp only[zad,zac,eqD,inR,big,zab,zB] at *);(try simp only[zad,zac,eqD,inR,big,zab,zB,zaS,zbb,zaq] at *))
  · rename_i h
    unfold chkT;rw[if_pos (by omega)]
  · rename_i h1 h
    unfold chkT;rw[if_neg (by omega),if_pos (by omega)]
  · omega
  · rename_i h1 h2 h
    unfold chkT;rw[if_neg (by omega),if_neg (by omega),if_pos (show (t.getD 0 []).length=0 by omega)]
  · omega
  · rename_i h1 h2 h3 h
    unfold chkT;rw[if_neg (by omega),if_neg (by omega),if_neg (show ¬(t.getD 0 []).length=0 by omega),if_pos (show 3<(t.getD 0 []).length by omega)]
  · rename_i h1 h2 h3 h
    refine zaj.mk ?_
    refine Exists.intro (0:Nat) ?_
    refine And.intro (Leaf.mk ?_) ?_
    · repeat' first|exact True.intro|refine And.intro ?_ ?_
      all_goals try ((change _=_<;>try dsimp only)<;>try with_reducible rfl)
      all_goals try omega
      all_goals (rfl)
    exact⟨Nat.zero_le _,rfl⟩
  · rename_i h1 h2 h3 h4 k hk h;omega
  · omega
  · rename_i h1 h2 h3 h4 k hk hg h
    have e:=zdp (n0:=ncol t) (show k<t.length by omega)
    rw[if_neg (show ¬(t.getD k []).length=(t.getD 0 []).length by omega),hk.2] at e
    unfold chkT;rw[if_neg (by omega),if_neg (by omega),if_neg (show ¬(t.getD 0 []).length=0 by omega),if_neg (show ¬3<(t.getD 0 []).length by omega),e,if_neg (by decide)]
  · rename_i h1 h2 h3 h4 k hk hg h
    show ((t.getD k []).length:Int)≤4611686018427387904
    omega
  · rename_i h1 h2 h3 h4 k hk hg h5 h
    have e:=zdp (n0:=ncol t) (show k<t.length by omega)
    rw[if_pos (show (t.getD k []).length=(t.getD 0 []).length by omega),if_neg h,hk.2] at e
    unfold chkT;rw[if_neg (by omega),if_neg (by omega),if_neg (show ¬(t.getD 0 []).length=0 by omega),if_neg (show ¬3<(t.getD 0 []).length by omega),e,if_neg h]
  · omega
  · rename_i h1 h2 h3 h4 k hk hg h5 h
    have e:=zdp (n0:=ncol t) (show k<t.length by omega)
    rw[if_pos (show (t.getD k []).length=(t.getD 0 []).length by omega),if_pos h,hk.2] at e
    refine zaj.mk ?_
    refine Exists.intro (k+1) ?_
    refine And.intro (Leaf.mk ?_) ?_
    · repeat' first|exact True.intro|refine And.intro ?_ ?_
      all_goals try ((change _=_<;>try dsimp only)<;>try with_reducible rfl)
      all_goals try omega
      all_goals (rfl)
    exact⟨⟨by show k+1≤t.length;omega,e.symm⟩,by show t.length - (k+1)<t.length - k;omega⟩
  · rename_i h1 h2 h3 h4 k hk h
    have e:=hk.2
    rw[List.drop_eq_nil_of_le (by omega)] at e
    have e:(0:Int)=zb8 (ncol t) t:=e
    unfold chkT;rw[if_neg (by omega),if_neg (by omega),if_neg (show ¬(t.getD 0 []).length=0 by omega),if_neg (show ¬3<(t.getD 0 []).length by omega),←e,if_pos rfl]
    by_cases hc:0≤cap∧cap≤1000
    · rw[if_pos hc,decide_eq_true hc];rfl
    · rw[if_neg hc,decide_eq_false hc];rfl
structure goodT (t:List (List Int)) (cap:Int):Prop where
  pos:0<t.length
  le:t.length≤4
  cpos:0<ncol t
  cle:ncol t≤3
  rows:∀i,i<t.length→(rowN t i).length=ncol t
  vals:∀i j,i<t.length→j<ncol t→0≤vI (rowN t i) j∧vI (rowN t i) j≤100
  cap0:0≤cap∧cap≤1000
theorem zgi {n0:Nat}:∀ {t:List (List Int)},zb8 n0 t=0→∀r∈t,r.length=n0∧allE r 100=0
  | [],_,r,hr=>by cases hr
  | q :: t,h,r,hr=>by
    simp only[zb8] at h
    split at h
    · split at h
      · rcases List.mem_cons.1 hr with rfl|hr
        · exact⟨by assumption,by assumption⟩
        · exact zgi h r hr
      · rename_i h1 h2;exact absurd h h2
    · cases h
theorem zr0 {t:List (List Int)} {i:Nat} (h:i<t.length):rowN t i∈t:=by
  have e:rowN t i=t[i]:=by simp[rowN,List.getD,List.getElem?_eq_getElem h]
  rw[e];exact List.getElem_mem h
theorem zdP {t:List (List Int)} {cap:Int} (h:chkT t cap=0):goodT t cap:=by
  unfold chkT at h
  split at h
  · cases h
  split at h
  · cases h
  split at h
  · cases h
  split at h
  · cases h
  split at h
  · rename_i h1 h2 h3 h4 h5
    split at h
    · rename_i h6
      exact ⟨by omega,by omega,by omega,by omega,fun i hi=>(zgi h5 _ (zr0 hi)).1,fun i j hi hj=>by
        have:=zgi h5 _ (zr0 hi)
        exact zgm this.2 j (by rw[this.1];exact hj),h6⟩
    · cases h
  · rename_i h5;exact absurd h h5
def zaY (c:Int):Nat→List Int→List Int
  | _,[]=>[]
  | k,n::r=>if (k:Int)=c then zaY c (k+1) r else n::zaY c (k+1) r
def zaJ (rw' c:Int):Nat→List (List Int)→List (List Int)
  | _,[]=>[]
  | i,r::t=>if (i:Int)=rw' then zaJ rw' c (i+1) t else zaY c 0 r::zaJ rw' c (i+1) t
def sumD (f:List (List Int)→Int) (rows:List (List Int)):Int→Nat→List Int→Int
  | _,_,[]=>0
  | sign,k,x::r=>sign*x*f (zaJ 0 k 0 rows)+sumD f rows (-sign) (k+1) r
def detN:Nat→List (List Int)→Int
  | 0,_=>1
  | n+1,rows=>sumD (detN n) rows 1 0 (rows.getD 0 [])
def zcG (N:Nat) (rows:List (List Int)):Prop:=rows.length=N∧∀r∈rows,r.length=N∧∀x∈r,-2000≤x∧x≤2000
def detB:Nat→Int
  | 0=>1
  | n+1=>(n+1)*(2000*detB n)
theorem zc6 (c:Int):∀(t:List (List Int)) (i:Nat),zaJ 0 c (i+1) t=t.map (zaY c 0)
  | [],_=>rfl
  | r::t,i=>by
    have h:¬((i+1:Nat):Int)=0:=by omega
    simp only[zaJ,if_neg h,List.map_cons,zc6 c t (i+1)]
theorem zfc (c:Nat):∀(row:List Int) (k:Nat),(zaY c k row).length=if k≤c∧c<k+row.length then row.length - 1 else row.length
  | [],k=>by simp[zaY]
  | n :: r,k=>by
    have ih:=zfc c r (k+1)
    simp only[zaY,List.length_cons]
    by_cases h:(k:Int)=c
    · rw[if_pos h,ih,if_neg (by omega),if_pos (by omega)]
      rfl
    · rw [if_neg h,List.length_cons,ih]
      by_cases h2:k+1≤c∧c<k+1+r.length
      · rw[if_pos h2,if_pos (by omega)]
        omega
      · rw[if_neg h2,if_neg (by omega)]
theorem zdR (c:Int):∀(row:List Int) (k:Nat) (x:Int),x∈zaY c k row→x∈row
  | [],_,_,h=>by simp[zaY] at h
  | n :: r,k,x,h=>by
    simp only[zaY] at h
    split at h
    · exact List.mem_cons_of_mem _ (zdR c r _ x h)
    · rcases List.mem_cons.1 h with rfl|h
      · exact List.mem_cons_self
      · exact List.mem_cons_of_mem _ (zdR c r _ x h)
theorem zja {N k:Nat} {rows:List (List Int)} (h:zcG (N+1) rows) (hk:k<N+1):zcG N (zaJ 0 k 0 rows):=by
  obtain⟨h1,h2⟩:=h
  cases rows with
  | nil=>simp at h1
  | cons r t=>
    have e:zaJ 0 k 0 (r::t)=t.map (zaY k 0):=by
      simp only[zaJ,Int.natCast_zero,if_true]
      exact zc6 k t 0
    rw[e]
    refine⟨by simp at h1 ⊢;omega,fun q hq=>?_⟩
    obtain⟨p,hp,rfl⟩:=List.mem_map.1 hq
    obtain⟨h3,h4⟩:=h2 p (List.mem_cons_of_mem _ hp)
    exact⟨by rw[zfc,if_pos (by omega)];omega,fun x hx=>h4 x (zdR _ _ _ _ hx)⟩
theorem zkL {x d X B:Int} (h1 : -X≤x) (h2:x≤X) (h3 : -B≤d) (h4:d≤B) : -(X*B)≤x*d∧x*d≤X*B:=by
  have e:(x*d).natAbs=x.natAbs*d.natAbs:=Int.natAbs_mul x d
  have hX:(X.toNat:Int)=X:=Int.toNat_of_nonneg (by omega)
  have hB:(B.toNat:Int)=B:=Int.toNat_of_nonneg (by omega)
  have h5:x.natAbs*d.natAbs≤X.toNat*B.toNat:=Nat.mul_le_mul (by omega) (by omega)
  have h6:((X.toNat*B.toNat:Nat):Int)=X*B:=by rw[Int.natCast_mul,hX,hB]
  omega
theorem zoj {f:List (List Int)→Int} {rows:List (List Int)} {N:Nat} {B:Int} (hf:∀k:Nat,k<N→-B≤f (zaJ 0 k 0 rows)∧f (zaJ 0 k 0 rows)≤B) :
    ∀(l:List Int) (sign:Int) (k:Nat),(sign=1∨sign = -1)→k+l.length≤N→(∀x∈l,-2000≤x∧x≤2000)→-(l.length*(2000*B))≤sumD f rows sign k l∧sumD f rows sign k l≤l.length*(2000*B)
  | [],_,_,_,_,_=>by simp[sumD]
  | x :: r,sign,k,hs,hk,hx=>by
    simp only[List.length_cons] at hk
    have ih:=zoj hf r (-sign) (k+1) (by omega) (by omega) (fun y hy=>hx y (List.mem_cons_of_mem _ hy))
    have hx0:=hx x List.mem_cons_self
    have hf0:=hf k (by omega)
    have h1 : -2000≤sign*x∧sign*x≤2000:=by rcases hs with rfl|rfl<;>omega
    have h2:=zkL h1.1 h1.2 hf0.1 hf0.2
    simp only[sumD,List.length_cons]
    have e:(((r.length+1:Nat):Int)*(2000*B))=(r.length:Int)*(2000*B)+2000*B:=by
      rw[Int.natCast_add,Int.add_mul];simp
    rw[e]
    generalize (r.length:Int)*(2000*B)=z at *
    omega
theorem zl5:∀(n:Nat) (rows:List (List Int)),zcG n rows→-(detB n)≤detN n rows∧detN n rows≤detB n
  | 0,rows,_=>by simp[detN,detB]
  | n + 1,rows,h=>by
    have hr:(rows.getD 0 []).length=n+1∧∀x∈rows.getD 0 [],-2000≤x∧x≤2000:=by
      cases rows with
      | nil=>have:=h.1;simp at this
      | cons r t=>exact h.2 r List.mem_cons_self
    have:=zoj (f:=detN n) (rows:=rows) (N:=n+1) (B:=detB n) (fun k hk=>zl5 n _ (zja h hk)) (rows.getD 0 []) 1 0 (.inl rfl) (by omega) hr.2
    rw[hr.1] at this
    simp only[detN,detB]
    push_cast at this
    exact this
@[reducible] def sDet (N:Nat):Spec:={pats:=[.dat MatT],res:=[{t:=I64}],pre:=fun x=>zcG N x.1,f:=fun x=>(detN N x.1,())}
@[reducible] def zmq:Spec:={pats:=[.dat MatT],res:=[{t:=I64}],pre:=fun x=>False,f:=fun x=>((0:Int),())}
theorem zk6:zc9 Tryz.prog 200:=⟨Tryz.f200,Tryz.func200,by kernel_rfl,by kernel_rfl⟩
theorem zqY:Ok 200 zmq:=⟨fun w M x vs bs _ _ h=>h.elim,zk6⟩
theorem row0 {N:Nat} {rows:List (List Int)} (h:zcG (N+1) rows):(rows.getD 0 []).length=N+1∧∀k:Nat,k<N+1→-2000≤(rows.getD 0 []).getD k 0∧(rows.getD 0 []).getD k 0≤2000:=by
  cases rows with
  | nil=>have:=h.1;simp at this
  | cons r t=>
    obtain⟨h1,h2⟩:=h.2 r List.mem_cons_self
    refine⟨h1,fun k hk=>?_⟩
    have hk':k<r.length:=by omega
    have e:r.getD k 0=r[k]:=by simp[List.getD,List.getElem?_eq_getElem hk']
    change -2000≤r.getD k 0∧r.getD k 0≤2000
    rw[e]
    exact h2 _ (List.getElem_mem hk')
theorem zoi {f:List (List Int)→Int} {rows:List (List Int)} {sign:Int} {row:List Int} {k:Nat} (h:k<row.length) :
    sumD f rows sign k (row.drop k)=sign*row.getD k 0*f (zaJ 0 k 0 rows)+sumD f rows (-sign) (k+1) (row.drop (k+1)):=by
  rw[zjP h];rfl
theorem zp4 {n:Nat} (h:n≤4):detB n≤400000000000000∧0≤detB n:=by
  match n,h with
  | 0,_=>decide
  | 1,_=>decide
  | 2,_=>decide
  | 3,_=>decide
  | 4,_=>decide
abbrev zmW (N:Nat) (rows:List (List Int)) (k:Nat) (sum sign:Int):Prop:=k≤(rows.getD 0 []).length∧(sign=1∨sign = -1)∧sum+sumD (detN N) rows sign k ((rows.getD 0 []).drop k)=detN (N+1) rows∧-(k*(2000*detB N))≤sum∧sum≤k*(2000*detB N)
theorem zc8 {N:Nat} (hN:N<4) {rows:List (List Int)} (hp:zcG (N+1) rows) {k:Nat} {sum sign:Int} (hi:zmW N rows k sum sign) (hk:k<(rows.getD 0 []).length) :
    (-9223372036854775808≤sign*(rows.getD 0 []).getD k 0*detN N (zaJ 0 k 0 rows)∧sign*(rows.getD 0 []).getD k 0*detN N (zaJ 0 k 0 rows)≤9223372036854775807)∧
    (-9223372036854775808≤sum+sign*(rows.getD 0 []).getD k 0*detN N (zaJ 0 k 0 rows)∧sum+sign*(rows.getD 0 []).getD k 0*detN N (zaJ 0 k 0 rows)≤9223372036854775807)∧
    zmW N rows (k+1) (sum+sign*(rows.getD 0 []).getD k 0*detN N (zaJ 0 k 0 rows)) (-sign):=by
  obtain⟨i1,i2,i3,i4,i5⟩:=hi
  have hr:=row0 hp
  have hx:=hr.2 k (by omega)
  have hd:=zl5 N _ (zja hp (k:=k) (by omega))
  have hB:=zp4 (n:=N) (by omega)
  have h1 : -2000≤sign*(rows.getD 0 []).getD k 0∧sign*(rows.getD 0 []).getD k 0≤2000:=by rcases i2 with rfl|rfl<;>omega
  have h2:=zkL h1.1 h1.2 hd.1 hd.2
  have e:(((k+1:Nat):Int)*(2000*detB N))=(k:Int)*(2000*detB N)+2000*detB N:=by
    rw[Int.natCast_add,Int.add_mul];simp
  have h3:(k:Int)*(2000*detB N)≤4*(2000*detB N):=Int.mul_le_mul_of_nonneg_right (by omega) (by omega)
  rw[zoi hk] at i3
  refine⟨by omega,by omega,by omega,by omega,by omega,?_,?_⟩
  · rw[e];omega
  · rw[e];omega
theorem zhH (c:Int):∀(row:List Int) (j m:Nat),c=j+m→zaY c j row=row.take m++row.drop (m+1)
  | [],j,m,_=>by simp[zaY]
  | n :: r,j,0,h=>by
    simp only[zaY]
    rw[if_pos (by omega)]
    have none:∀(l:List Int) (i:Nat),c<i→zaY c i l=l:=by
      intro l
      induction l with
      | nil=>intro i _;rfl
      | cons x l ih=>intro i hi;simp only[zaY];rw[if_neg (by omega),ih (i+1) (by omega)]
    rw[none r (j+1) (by omega)]
    simp
  | n::r,j,m+1,h=>by
    simp only[zaY]
    rw[if_neg (by omega),zhH c r (j+1) m (by omega)]
    simp
theorem zl4 {c:Int} {rows:List (List Int)} (h:0<rows.length):zaJ 0 c 0 rows=(rows.drop 1).map (zaY c 0):=by
  cases rows with
  | nil=>simp at h
  | cons r t=>
    simp only[zaJ,Int.natCast_zero,if_true]
    exact zc6 c t 0
abbrev cutC (rows:List (List Int)) (k i:Nat):List Int:=((rows.drop 1).getD i []).take k++((rows.drop 1).getD i []).drop (k+1)
theorem zih {α:Type} {f:Nat→α} {xs:List α} {k:Nat} (d:α) (hl:xs.length=k) (h:∀i,i<k→f i=xs.getD i d):tab f k=xs:=by
  refine List.ext_getElem (by rw[zal,hl]) fun i h1 h2=>?_
  have h3:=zaB f d k i (by rw[zal] at h1;exact h1)
  rw[h i (by omega)] at h3
  simpa [List.getD,List.getElem?_eq_getElem h1,List.getElem?_eq_getElem h2] using h3
theorem zbz (xs:List (List Int)) (i:Nat):List.getD xs i (Ty.dflt (.sl I64))=xs.getD i []:=rfl
theorem zbA (xs:List Int) (i:Nat):List.getD xs i (Ty.dflt I64)=xs.getD i 0:=rfl
theorem zbv:Int.toNat 1=1:=rfl
theorem zaR:Int.toNat 0=0:=rfl
theorem zes {N k:Nat} {rows:List (List Int)} (hp:zcG (N+1) rows):tab (cutC rows k) N=zaJ 0 k 0 rows:=by
  rw[zl4 (by rw[hp.1];omega)]
  refine zih [] (by rw[List.length_map,List.length_drop,hp.1];rfl) fun i hi=>?_
  have hi':i<(rows.drop 1).length:=by rw[List.length_drop,hp.1];omega
  simp only[List.getD_eq_getElem?_getD,List.getElem?_map,List.getElem?_eq_getElem hi',Option.map_some,Option.getD_some,cutC]
  rw[zhH (k:Int) _ 0 k (by omega)]
theorem zcV {N:Nat} {rows:List (List Int)} (hp:zcG (N+1) rows) {i:Nat} (h:i<N):((rows.drop 1).getD i []).length=N+1:=by
  have hi':i<(rows.drop 1).length:=by rw[List.length_drop,hp.1];omega
  simp only[List.getD_eq_getElem?_getD,List.getElem?_eq_getElem hi',Option.getD_some]
  exact (hp.2 _ (List.mem_of_mem_drop (List.getElem_mem hi'))).1
def zsu (N:Nat) (rows:List (List Int)):LoopAnn:=
  {σ:=Nat×Int×Int,pat:=fun s=>[sI 17 s.1,sI 3 s.2.1,sI 4 s.2.2],inv:=fun s=>zmW N rows s.1 s.2.1 s.2.2,meas:=fun s=>(rows.getD 0 []).length - s.1}
def zst (N:Nat) (rows:List (List Int)) (st:St):LoopAnn:=zfS 17 st fun k=>{σ:=Nat,pat:=fun i=>sI 27 i::zg8 7 60007 76 (tab (cutC rows k.toNat) i),inv:=fun i=>i≤N,meas:=fun i=>N - i}
theorem zbZ (n:Nat):((n:Int)+1).toNat=n+1:=rfl
theorem zrl:Ok 200 (sDet 0):=by
  refine mk (ctr:=[(145,zgq),(200,zmq)]) ⟨h145,zqY,trivial⟩ (nt:=56) Tryz.func200 rfl rfl rfl rfl (by kernel_rfl) (by kernel_rfl) (fun x=>[fun _=>zsu 0 x.1,zst 0 x.1]) ?_
  rintro⟨(rows:List (List Int)),_⟩ (hp:zcG 0 rows)
  have hl:rows.length=0:=hp.1
  repeat' (intro hzz;(try (rename Two=>hq;cases hq));(try dsimp only at hzz);(try simp only[zad,zac,eqD,inR,big,zab,zB] at hzz);(try simp only[zad,zac,eqD,inR,big,zab,zB,zaS,zav,zbb,Int.toNat_natCast,zbZ] at hzz);(try (first|contradiction|(exfalso;omega)));(try (revert hzz;intro _)))
  all_goals try (rename Unit=>hq;clear hq)
  all_goals try ((with_reducible refine Held.mk ?_);(with_reducible (first|refine Frz.mk ?_|refine And.intro (Frz.mk ?_) ?_|refine And.intro ?_ (Frz.mk ?_)));repeat' first|exact True.intro|(change _=_;with_reducible rfl)|refine And.intro ?_ ?_|(with_reducible refine Frz.mk ?_))
  all_goals try (refine Held.mk ?_;(try dsimp only at *);(try simp only[zad,zac,eqD,inR,big,zab,zB] at *);(try simp only[zad,zac,eqD,inR,big,zab,zB,zaS,zav,zbb,Int.toNat_natCast,zbZ] at *))
  all_goals try omega
  · rfl
theorem zrm {N:Nat} (hN:N<4) (ih:Ok 200 (sDet N)):Ok 200 (sDet (N+1)):=by
  refine mk (ctr:=[(145,zgq),(200,sDet N)]) ⟨h145,ih,trivial⟩ (nt:=56) Tryz.func200 rfl rfl rfl rfl (by kernel_rfl) (by kernel_rfl) (fun x=>[fun _=>zsu N x.1,zst N x.1]) ?_
  rintro⟨(rows:List (List Int)),_⟩ (hp:zcG (N+1) rows)
  have hl:rows.length=N+1:=hp.1
  repeat' (intro hzz;(try (rename Two=>hq;cases hq));(try dsimp only at hzz);(try simp only[zad,zac,eqD,inR,big,zab,zB] at hzz);(try simp only[zad,zac,eqD,inR,big,zab,zB,zaS,zav,zbb,Int.toNat_natCast,zbZ,zal,List.length_drop,zbv,zaR,zbz,zbA] at hzz);(try (revert hzz;intro _)))
  all_goals try (rename Unit=>hq;clear hq)
  all_goals try ((with_reducible refine Held.mk ?_);(with_reducible (first|refine Frz.mk ?_|refine And.intro (Frz.mk ?_) ?_|refine And.intro ?_ (Frz.mk ?_)));repeat' first|exact True.intro|(change _=_;with_reducible rfl)|refine And.intro ?_ ?_|(with_reducible refine Frz.mk ?_))
  all_goals try (refine Held.mk ?_;(try dsimp only at *);(try simp only[zad,zac,eqD,inR,big,zab,zB] at *);(try simp only[zad,zac,eqD,inR,big,zab,zB,zaS,zav,zbb,Int.toNat_natCast,zbZ,zal,List.length_drop,zbv,zaR,zbz,zbA] at *))
  all_goals try omega
  all_goals try have hr:=row0 hp
  ·
    refine zaj.mk ?_
    refine Exists.intro ((0,0,1):Nat×Int×Int) ?_
    refine And.intro (Leaf.mk ?_) ?_
    · repeat' first|exact True.intro|refine And.intro ?_ ?_
      all_goals try ((change _=_<;>try dsimp only)<;>try with_reducible rfl)
      all_goals try omega
    refine⟨Nat.zero_le _,.inl rfl,?_,by simp,by simp⟩
    simp[detN]
  · rename_i h0 s hi hg hx
    refine zaj.mk ?_
    refine Exists.intro (0:Nat) ?_
    refine And.intro (Leaf.mk ?_) ?_
    · repeat' first|exact True.intro|refine And.intro ?_ ?_
      all_goals try ((change _=_<;>try dsimp only)<;>try with_reducible rfl)
      all_goals try omega
      all_goals (rfl)
    exact Nat.zero_le _
  · rename_i h0 s hi hg hx i hI hi2
    have:=zcV hp (i:=i) (by omega)
    change 0≤(s.1:Int)∧(s.1:Int)≤(((rows.drop 1).getD i []).length:Int)
    omega
  · rename_i h0 s hi hg hx i hI hi2
    have:=zcV hp (i:=i) (by omega)
    change (List.take s.1 ((rows.drop 1).getD i [])).length≤2000000000
    rw[List.length_take];omega
  · omega
  · rename_i h0 s hi hg hx i hI hi2
    have:=zcV hp (i:=i) (by omega)
    change 0≤(s.1:Int)+1∧(s.1:Int)+1≤(((rows.drop 1).getD i []).length:Int)
    omega
  · rename_i h0 s hi hg hx i hI hi2
    have:=zcV hp (i:=i) (by omega)
    change (List.take s.1 ((rows.drop 1).getD i [])).length+(List.drop (s.1+1) ((rows.drop 1).getD i [])).length≤2147483648
    rw[List.length_take,List.length_drop];omega
  · rename_i h0 s hi hg hx i hI hi2
    show i+1≤2147483648
    omega
  · rename_i h0 s hi hg hx i hI hi2
    refine zaj.mk ?_
    refine Exists.intro (i+1) ?_
    refine And.intro (Leaf.mk ?_) ?_
    · repeat' first|exact True.intro|refine And.intro ?_ ?_
      all_goals try ((change _=_<;>try dsimp only)<;>try with_reducible rfl)
      all_goals try omega
      all_goals (rfl)
    exact⟨by show i+1≤N;omega,by show N - (i+1)<N - i;omega⟩
  · rename_i h0 s hi hg hx i hI hi2
    have hx:=hr.2 s.1 (by omega)
    have hs:s.2.2=1∨s.2.2 = -1:=hi.2.1
    change -9223372036854775808≤s.2.2*(rows.getD 0 []).getD s.1 0∧s.2.2*(rows.getD 0 []).getD s.1 0≤9223372036854775807
    rcases hs with hs|hs<;>rw[hs]<;>omega
  · rename_i h0 s hi hg hx i hI hi2
    have e:i=N:=by omega
    subst e
    rw[zes hp]
    exact zja hp (by omega)
  · rename_i h0 s hi hg hx i hI hi2
    have e:i=N:=by omega
    subst e
    rw[zes hp]
    exact (zc8 hN hp hi (by omega)).1
  · rename_i h0 s hi hg hx i hI hi2
    have e:i=N:=by omega
    subst e
    rw[zes hp]
    exact (zc8 hN hp hi (by omega)).2.1
  · omega
  · rename_i h0 s hi hg hx i hI hi2
    have e:i=N:=by omega
    subst e
    have hd:=zc8 hN hp hi (by omega)
    rw[←zes hp] at hd
    refine zaj.mk ?_
    refine Exists.intro ((s.1+1,s.2.1+s.2.2*(rows.getD 0 []).getD s.1 0*detN i (tab (cutC rows s.1) i),-s.2.2):Nat×Int×Int) ?_
    refine And.intro (Leaf.mk ?_) ?_
    · repeat' first|exact True.intro|refine And.intro ?_ ?_
      all_goals try ((change _=_<;>try dsimp only)<;>try with_reducible rfl)
      all_goals try omega
      all_goals (rfl)
    refine⟨hd.2.2,?_⟩
    change (rows.getD 0 []).length - (s.1+1)<(rows.getD 0 []).length - s.1
    omega
  · omega
  · rename_i h0 s hi hg hx
    have hd:=zc8 hN hp hi (by omega)
    have hx0:(rows.getD 0 []).getD s.1 0=0:=hx
    rw[hx0,Int.mul_zero,Int.zero_mul,Int.add_zero] at hd
    refine zaj.mk ?_
    refine Exists.intro ((s.1+1,s.2.1,-s.2.2):Nat×Int×Int) ?_
    refine And.intro (Leaf.mk ?_) ?_
    · repeat' first|exact True.intro|refine And.intro ?_ ?_
      all_goals try ((change _=_<;>try dsimp only)<;>try with_reducible rfl)
      all_goals try omega
      all_goals (rfl)
    refine⟨hd.2.2,?_⟩
    change (rows.getD 0 []).length - (s.1+1)<(rows.getD 0 []).length - s.1
    omega
  · rename_i h0 s hi hg
    obtain⟨i1,i2,i3,i4⟩:=hi
    rw[List.drop_eq_nil_of_le (by omega)] at i3
    simpa [sumD] using i3
theorem h200:∀N,N≤4→Ok 200 (sDet N)
  | 0,_=>zrl
  | N+1,h=>zrm (by omega) (h200 N (by omega))
abbrev zlF (m:List (List Int)):Prop:=∃N,N≤4∧zcG N m
def detA (m:List (List Int)):Int:=detN m.length m
@[reducible] def zed:Spec:={pats:=[.dat MatT],res:=[{t:=I64}],pre:=fun x=>zlF x.1,f:=fun x=>(detA x.1,())}
theorem hDet:Ok 200 zed:=⟨fun w M x vs bs hM hA ⟨N,hN,hs⟩=>by
  have h:=(h200 N hN).1 w M x vs bs hM hA hs
  have e:(sDet N).f x=zed.f x:=by
    simp only[sDet,zed,detA]
    rw[←hs.1]
  rw[e] at h
  exact h,zk6⟩
theorem zhI {m:List (List Int)} (h:zlF m) : -400000000000000≤detA m∧detA m≤400000000000000:=by
  obtain⟨N,hN,hs⟩:=h
  have h1:=zl5 N m hs
  have h2:=zp4 hN
  unfold detA
  rw[hs.1];omega
end Go.Eng.Ar
namespace Go.Eng
set_option linter.all false
set_option maxRecDepth 100000
section
variable {P:Program} {Q:Exit→Act→World→Prop} {a:Act} {w:World} {K:Act→World→Prop}
theorem zaO {o:Oper} {v:Value} (hnd:∀d,o.op≠.defer d) (hr:(execOp a.eval o).run P w=.ok (.value v) w) (h:K (a.put o.dst v) w):o.wpIn (Fw none) 0 P a w K Q:=
  zat hnd hr h
theorem zjt {o:Oper} {w':World} (hnd:∀d,o.op≠.defer d) (hr:(execOp a.eval o).run P w=.ok .skip w') (h:K (a.put o.dst undef) w'):o.wpIn (Fw none) 0 P a w K Q:=
  zat hnd hr h
theorem zqW {o:Oper} {f:Nat} {args:Array Value} (hnd:∀d,o.op≠.defer d) (hr:(execOp a.eval o).run P w=.ok (.enter f args) w)
    (h:Calls P f args w fun e w'=>∃v,e=.returned v∧K (a.put o.dst v) w'):o.wpIn (Fw none) 0 P a w K Q:=
  zat hnd hr ⟨fun h=>(by cases h),zhO (h.mono fun e w' ⟨v,h1,h2⟩=>by subst h1;exact h2)⟩
theorem zqV {o:Oper} {l f:Nat} {tmps:Array Value} {assign body:Code} (hnd:∀d,o.op≠.defer d) (hr:(execOp a.eval o).run P w=.ok (.round l f tmps assign body) w)
    (h:RoundIn (Fw none) 0 P l f tmps assign body w fun e w'=>∃v,e=.returned v∧K (a.put o.dst v) w'):o.wpIn (Fw none) 0 P a w K Q:=
  zat hnd hr ⟨fun h=>(by cases h),RoundIn.mono h (fun e w' ⟨v,h1,h2⟩=>by subst h1;exact h2)⟩
theorem zaP {ops:Array Oper} (h:Q .normal a w):wpListIn (Fw none) 0 P ops Q [] a w:=h
theorem zak {ops:Array Oper} {o:Oper} {rest:List Oper} (hg:o.guard=none) (h:o.wpIn (Fw none) 0 P a w (wpListIn (Fw none) 0 P ops Q rest) Q):wpListIn (Fw none) 0 P ops Q (o::rest) a w:=by
  have hw:Region.wanted o (yielded ops a.tmps)=true:=by simp[Region.wanted,hg]
  simp only[wpListIn,hw,if_true]
  exact h
theorem zc0 {ops:Array Oper} {o:Oper} {rest:List Oper} {v:Value} (h:wpListIn (Fw none) 0 P ops Q (o::rest) a w) (hg:o.guard=none) (hs:o.semAt (Fw none).round a.eval=execOp a.eval o) (hr:(execOp a.eval o).run P w=.ok (.value v) w) :
    wpListIn (Fw none) 0 P ops Q rest (a.put o.dst v) w:=by
  have hw:Region.wanted o (yielded ops a.tmps)=true:=by simp[Region.wanted,hg]
  simp only[wpListIn,hw,if_true] at h
  unfold Oper.wpIn at h
  have h:=h.2
  rw[hs,hr] at h
  simpa only [Oper.uponIn] using h
theorem zfx {ops:Array Oper} {o:Oper} {rest:List Oper} {w':World} (h:wpListIn (Fw none) 0 P ops Q (o::rest) a w) (hg:o.guard=none) (hs:o.semAt (Fw none).round a.eval=execOp a.eval o) (hr:(execOp a.eval o).run P w=.ok .skip w') :
    wpListIn (Fw none) 0 P ops Q rest (a.put o.dst undef) w':=by
  have hw:Region.wanted o (yielded ops a.tmps)=true:=by simp[Region.wanted,hg]
  simp only[wpListIn,hw,if_true] at h
  unfold Oper.wpIn at h
  have h:=h.2
  rw[hs,hr] at h
  simpa only [Oper.uponIn] using h
end
theorem zvx {P:Program} {o:Oper} {a:Act} {w:World} {K:Act→World→Prop} {Q Q':Exit→Act→World→Prop} (h:∀c a w,Q (.panic c) a w=Q' (.panic c) a w) (h2:LetsOut Q=LetsOut Q'):o.wpIn (Fw none) 0 P a w K Q=o.wpIn (Fw none) 0 P a w K Q':=by
  have e:∀r,o.uponIn (Fw none) 0 P a K Q r=o.uponIn (Fw none) 0 P a K Q' r:=by
    intro r
    unfold Oper.uponIn
    split<;>simp only[h,h2]
  unfold Oper.wpIn
  rw[e]
theorem zgM {P:Program} {ops:Array Oper} {Q:Exit→Act→World→Prop} {l2:List Oper}:∀(l1:List Oper) (a:Act) (w:World),
    wpListIn (Fw none) 0 P ops (fun e a w=>match e with | .normal=>wpListIn (Fw none) 0 P ops Q l2 a w|e=>Q e a w) l1 a w→wpListIn (Fw none) 0 P ops Q (l1++l2) a w
  | [],a,w,h=>h
  | o :: l1,a,w,h=>by
    simp only[wpListIn,List.cons_append] at h ⊢
    split
    · rename_i hw
      rw[if_pos hw] at h
      refine Oper.wpIn_mono (zgM l1) ?_
      rw[←zvx (Q:=fun e a w=>match e with | .normal=>wpListIn (Fw none) 0 P ops Q l2 a w|e=>Q e a w) (Q':=Q) (fun _ _ _=>rfl) rfl]
      exact h
    · rename_i hw
      rw[if_neg hw] at h
      exact⟨h.1,zgM l1 _ _ h.2⟩
theorem znv {F:Fence} {n:Nat} {P:Program} {Q Q':Exit→Act→World→Prop} {o:Oper} {a:Act} {w:World} {K K':Act→World→Prop} (h:∀a w,K a w→K' a w) (hq:∀e a w,Q e a w→Q' e a w)
    (hh:o.wpIn F n P a w K Q):o.wpIn F n P a w K' Q':=by
  unfold Oper.wpIn at *
  refine⟨hh.1,?_⟩
  have hh:=hh.2
  generalize (o.semAt F.round a.eval).run P w=r at *
  cases r with
  | ok x w'=>
    cases x<;>simp only[Oper.uponIn] at hh ⊢ <;>
      first
        | exact h _ _ hh
        | exact⟨hh.1,CallsIn.mono hh.2 (fun e w'' he=>by cases e<;>first|exact h _ _ he|exact hq _ _ _ he|exact (let ⟨a,w,h⟩:=he;⟨a,w,hq _ _ _ h⟩))⟩
        | exact⟨hh.1,RowsIn.mono hh.2 (fun _ _ he=>h _ _ he)⟩
        | exact⟨hh.1,RoundIn.mono hh.2 (fun e w'' he=>by cases e<;>first|exact h _ _ he|exact hq _ _ _ he|exact (let ⟨a,w,h⟩:=he;⟨a,w,hq _ _ _ h⟩))⟩
  | halt x w'=>cases x<;>simp only[Oper.uponIn] at hh ⊢<;>first|exact hh|exact hq _ _ _ hh
theorem zek {F:Fence} {n:Nat} {P:Program} {ops:Array Oper} {Q Q':Exit→Act→World→Prop} (hq:∀e a w,Q e a w→Q' e a w):∀(l:List Oper) (a:Act) (w:World),wpListIn F n P ops Q l a w→wpListIn F n P ops Q' l a w
  | [],a,w,h=>hq _ _ _ h
  | o :: r,a,w,h=>by
    unfold wpListIn at h ⊢
    split
    · rename_i hw
      rw[if_pos hw] at h
      exact znv (zek hq r) hq h
    · rename_i hw
      rw[if_neg hw] at h
      exact⟨h.1,zek hq r _ _ h.2⟩
theorem zlq (w:World) {b b':Nat} (h:b≠b') (c c':Array Value):(w.setRow b c).setRow b' c'=(w.setRow b' c').setRow b c:=by
  have:∀(f g:Obj→Obj),(w.heap.modify b f).modify b' g=(w.heap.modify b' g).modify b f:=by
    intro f g
    refine Array.ext (by simp) fun i h1 h2=>?_
    simp only[Array.getElem_modify]
    split<;>split<;>first|rfl|omega
  simp only[World.setRow,this]
end Go.Eng
namespace Go.Eng.Ar
open Go.Eng Go.Proofs
set_option linter.all false
set_option maxRecDepth 100000
set_option maxHeartbeats 1000000
theorem ia76 (a:Act) (w:World) (o:Oper) (x y:Operand) (ho:o.op=.indexAddr 76 x y) {b off n c:Nat} {i:Nat} (hx:a.eval x=.slice (some ⟨b,off,none⟩) n c) (hy:a.eval y=.int .i64 i) (h1:i<n) :
    (execOp a.eval o).run Tryz.prog w=.ok (.value (.pointer (some ⟨b,off+i,none⟩))) w:=by
  have hS:=zay row3 w
  have hs:i3.size=1:=rfl
  have h2:(i:Int)<(n:Int):=by omega
  simp[execOp,ho,hx,hy,Instr.indexAt,run_underlying Tryz.underlying76,asIntOf,hS,h2,hs,zaL]
  intro h;omega
theorem ia66 (a:Act) (w:World) (o:Oper) (x y:Operand) (ho:o.op=.indexAddr 66 x y) {b off n c:Nat} {i:Nat} (hx:a.eval x=.slice (some ⟨b,off,none⟩) n c) (hy:a.eval y=.int .i64 i) (h1:i<n) :
    (execOp a.eval o).run Tryz.prog w=.ok (.value (.pointer (some ⟨b,off+i,none⟩))) w:=by
  have hS:=zay zoL w
  have hs:i76.size=1:=rfl
  have h2:(i:Int)<(n:Int):=by omega
  simp[execOp,ho,hx,hy,Instr.indexAt,run_underlying Tryz.underlying66,asIntOf,hS,h2,hs,zaL]
  intro h;omega
theorem ld3 (a:Act) (w:World) (o:Oper) (x:Operand) (ho:o.op=.load 3 x) {b off el:Nat} {cur:Array Value} {f:Nat×Nat} {v:Value} (hx:a.eval x=.pointer (some ⟨b,off,none⟩)) (hb:w.heap[b]?=some (.cells cur el f)) (hv:cur[off]?=some v) :
    (execOp a.eval o).run Tryz.prog w=.ok (.value v) w:=by
  have hl:(loadVar 3 ⟨b,off,none⟩).run Tryz.prog w=.ok v w:=zbq row3 rfl (by rw[zbs hb];exact hv)
  simp[execOp,ho,hx,Instr.loadAt,Instr.sureAddr,hl]
theorem ld76 (a:Act) (w:World) (o:Oper) (x:Operand) (ho:o.op=.load 76 x) {b off el:Nat} {cur:Array Value} {f:Nat×Nat} {v:Value} (hx:a.eval x=.pointer (some ⟨b,off,none⟩)) (hb:w.heap[b]?=some (.cells cur el f)) (hv:cur[off]?=some v) :
    (execOp a.eval o).run Tryz.prog w=.ok (.value v) w:=by
  have hl:(loadVar 76 ⟨b,off,none⟩).run Tryz.prog w=.ok v w:=zbq zoL rfl (by rw[zbs hb];exact hv)
  simp[execOp,ho,hx,Instr.loadAt,Instr.sureAddr,hl]
theorem zko {cur:Array Value} {i:Nat} {v:Value} (hi:i<cur.size):(cur.toList.take i++[v]++cur.toList.drop (i+1)).toArray=cur.set! i v:=by
  refine Array.ext' ?_
  simp only[Array.set!_eq_setIfInBounds,Array.toList_setIfInBounds]
  rw[List.set_eq_take_append_cons_drop,if_pos (by simpa using hi)]
  simp
theorem st3 (a:Act) (w:World) (o:Oper) (x y:Operand) (ho:o.op=.store 3 x y) {b off el:Nat} {cur:Array Value} {n:Int} (hx:a.eval x=.pointer (some ⟨b,off,none⟩)) (hy:a.eval y=.int .i64 n) (hb:w.heap[b]?=some (.cells cur el (0,0))) (hi:off<cur.size) :
    (execOp a.eval o).run Tryz.prog w=.ok .skip (w.setRow b (cur.set! off (.int .i64 n))):=by
  have hst:=zbu (P:=Tryz.prog) row3 (b:=b) (off:=off) (v:=.int .i64 n) hb rfl hi (fun u hu=>by
    have:u=.int .i64 n:=by simpa [Value.cells] using hu
    rw[this];rfl)
  have e:(cur.toList.take off++(Value.int .i64 n).cells.toList++cur.toList.drop (off+(Value.int .i64 n).cells.size)).toArray=cur.set! off (.int .i64 n):=zko hi
  rw[e] at hst
  simp[execOp,ho,hx,hy,Instr.storeAt,Instr.sureAddr,hst]
theorem st76 (a:Act) (w:World) (o:Oper) (x y:Operand) (ho:o.op=.store 76 x y) {b off el:Nat} {cur:Array Value} {ad:Option Addr} {n c:Nat} (hx:a.eval x=.pointer (some ⟨b,off,none⟩)) (hy:a.eval y=.slice ad n c) (hb:w.heap[b]?=some (.cells cur el (0,0))) (hi:off<cur.size) :
    (execOp a.eval o).run Tryz.prog w=.ok .skip (w.setRow b (cur.set! off (.slice ad n c))):=by
  have hst:=zbu (P:=Tryz.prog) zoL (b:=b) (off:=off) (v:=.slice ad n c) hb rfl hi (fun u hu=>by
    have:u=.slice ad n c:=by simpa [Value.cells] using hu
    rw[this];rfl)
  have e:(cur.toList.take off++(Value.slice ad n c).cells.toList++cur.toList.drop (off+(Value.slice ad n c).cells.size)).toArray=cur.set! off (.slice ad n c):=zko hi
  rw[e] at hst
  simp[execOp,ho,hx,hy,Instr.storeAt,Instr.sureAddr,hst]
theorem mvR (a:Act) (w:World) (o:Oper) (x:Operand) (ho:o.op=.move x) {v:Value} (hx:a.eval x=v):(execOp a.eval o).run Tryz.prog w=.ok (.value v) w:=by
  simp[execOp,ho,hx]
theorem zi5 {V:View} {k:IntKind} {n:Int} {v:Value} (h:RepV V (.int k) n v):v=.int k n:=by
  obtain⟨l,h1,⟨h2,_⟩|⟨_,h2⟩⟩:=h
  · cases h2
  · have h1:l=[.int k n]:=h1
    rw[h1] at h2;simpa using h2.symm
theorem zai (a:Act) (t:Nat) (v:Value):(a.put (some t) v).tmps.size=a.tmps.size:=by simp[Act.put]
theorem zag (a:Act) (t:Nat) (v:Value):(a.put (some t) v).defers=a.defers:=rfl
end Go.Eng.Ar
namespace Go.Eng
set_option linter.all false
set_option maxRecDepth 100000
section
variable {P:Program} {a:Act} {w:World} {ops:Array Oper}
theorem zeL {Q:Act→Prop} {o:Oper} {v:Value} {rest:List Oper} (hg:o.guard=none) (hr:(execOp a.eval o).run P w=.ok (.value v) w) (h:wpStill P ops w Q rest (a.put o.dst v)):wpStill P ops w Q (o::rest) a:=by
  have hw:Region.wanted o (yielded ops a.tmps)=true:=by simp[Region.wanted,hg]
  simp only[wpStill,hw,if_true,Oper.still,hr,Oper.stillUpon]
  exact⟨trivial,h⟩
theorem znr {Q:Exit→Act→World→Prop} {o:Oper} {w':World} (hnd:∀d,o.op≠.defer d) (hg:o.guard=none) (hr:(execOp a.eval o).run P w=.ok .skip w') (h:Q .normal (a.put o.dst undef) w'):wpList P ops Q [o] a w:=by
  have hw:Region.wanted o (yielded ops a.tmps)=true:=by simp[Region.wanted,hg]
  simp only[wpList,hw,if_true]
  unfold Oper.wp
  simp only[hr,Oper.upon]
  exact .inl h
theorem zvf {E:Env} {nt:Nat} {st:St} {a':Act} {ds:List Nat} (hR:RelS E nt st a w) (hsz:a'.tmps.size=nt) (hd:a'.defers=a.defers) (h:∀t,t ∉ ds→a'.tmps.getD t undef=a.tmps.getD t undef) (hds:∀u s,Fact.slot u s∈st→u ∉ ds):RelS E nt st a' w:=by
  obtain⟨η,g,H⟩:=hR
  refine⟨η,zky (E:=E) (E':=E) (ds:=ds) rfl rfl rfl rfl rfl rfl g H (fun b c h=>h) hsz (fun t ht=>(h t ht).symm) hds ?_ (fun hn=>by rw[hd];exact g.nd hn)⟩
  obtain⟨⟨ms,q1,q2⟩,q3⟩:=g.defers
  exact⟨⟨ms,by rw[hd];exact q1,q2⟩,q3⟩
theorem zoQ {E:Env} {nt:Nat} {st:St} (n:Nat) (hR:RelS E nt st a w):RelS E nt st a {w with drawn:=n}:=by
  obtain⟨η,g,H⟩:=hR
  exact ⟨η,⟨g.size,g.lim,g.defers,g.os,g.tape,g.output,g.grow,g.keep,g.own,g.dis,g.inj,g.old,g.obkeep,g.nd⟩,fun f hf=>by
    have:=H f hf
    cases f<;>exact this⟩
theorem ztI:Fw none=Fence.wide:=rfl
end
section
variable {c:Cfg}
theorem zpO {P:Program} {OB:Nat→Obj→Prop} (hC:CfgOk P OB c) {f:Nat} {fn:Func} {body:Code} {rs:List ResultVar} {sp:Spec}
    (hf:P.funcs[f]?=some fn) (hb:fn.body=some body) (hnt:fn.ntmps=c.nt) (hps:sp.pats.length≤c.nt) (hlim:c.nt≤1000000) (hob:zb6 sp.pats≤1) (hrs:fn.results.toList=rs)
    (h : ∀x,sp.pre x→∀(M:Nat→Prop) (bs:List Nat) (w:World) (a:Act),a.defers=[]→RelS {P:=P,M:=M,mu:=fun b=>b∈bs,w0:=w,OB:=OB} c.nt (za8 sp.pats x 0) a w→
      body.wpIn (Fw none) 0 P (zn3 {P:=P,M:=M,mu:=fun b=>b∈bs,w0:=w,OB:=OB} c.nt fun e st=>match e with
        | .ret | .normal=>zgE c rs sp.res (sp.f x) st
        | _=>False) a w):zry P OB f sp:=by
  intro w M x vs bs hM hA hpre
  obtain⟨o1,o2,o3,o4⟩:=zcb sp.pats x vs bs 0 hA
  let E:Env:={P:=P,M:=M,mu:=fun b=>b∈bs,w0:=w,OB:=OB}
  refine callsIn_wide.1 (callsIn_of_wp_marks (F:=Fence.wide) (n:=0) hf hb trivial ?_)
  have hsz:(vs.toArray++Array.replicate (fn.ntmps - vs.toArray.size) undef).size=c.nt:=by
    simp;omega
  have hR : RelS E c.nt (za8 sp.pats x 0) {tmps:=vs.toArray++Array.replicate (fn.ntmps - vs.toArray.size) undef,defers:=[]} w:=by
    have hη:∀k b n,zjH (zbk sp.pats vs 0) k=some (b,n)→(k,b)∈zbk sp.pats vs 0∧n=0:=by
      intro k b n
      generalize zbk sp.pats vs 0=l
      induction l with
      | nil=>intro h;cases h
      | cons p r ih=>
        intro h
        simp only[zjH] at h
        split at h
        · rename_i hk
          simp only[Option.some.injEq,Prod.mk.injEq] at h
          obtain⟨rfl,rfl⟩:=h
          subst hk
          exact⟨List.mem_cons_self,rfl⟩
        · obtain⟨h1,h2⟩:=ih h
          exact⟨List.mem_cons_of_mem _ h1,h2⟩
    have hbs:∀k b,(k,b)∈zbk sp.pats vs 0→b∈bs:=fun k b hkb=>by rw[←o1];exact List.mem_map.2 ⟨_,hkb,rfl⟩
    refine⟨zjH (zbk sp.pats vs 0),?_,?_⟩
    · exact {
        size:=hsz,lim:=hlim,defers:=⟨⟨[],rfl,List.nodup_nil,fun _ h=>by cases h⟩,fun _ h=>by cases h⟩,os:=rfl,tape:=rfl,output:=rfl,grow:=Nat.le_refl _,keep:=fun _ _ _ _=>rfl,
        own:=fun k b n hk=>⟨(o4 b (hbs k b (hη k b n hk).1)).2,.inr (hbs k b (hη k b n hk).1)⟩,
        dis:=fun b hb h=>h.elim (fun h=>absurd (o4 b hb).2 (Nat.not_lt_of_le h)) id,
        inj := fun k k' b n n' hk hk'=>by
          have h1:=(hη k b n hk).1
          have h2:=(hη k' b n' hk').1
          have hl:(zbk sp.pats vs 0).length≤1:=by omega
          match hobs:zbk sp.pats vs 0,hl with
          | [],_=>rw[hobs] at h1;cases h1
          | [p],_=>
            rw[hobs] at h1 h2
            simp only[List.mem_singleton] at h1 h2
            rw[←h2] at h1
            simpa using h1
        old:=fun b hb h=>h.elim (fun h=>absurd (hM b hb) (Nat.not_lt_of_le h)) id,obkeep:=fun b i o _ _ h1 h2=>⟨o,h1,h2⟩}
    · refine zcc rfl rfl (fun b h=>h.elim id fun⟨_,h⟩=>by cases h) rfl (fun k b n hk=>(o4 b (hbs k b (hη k b n hk).1)).1) sp.pats x vs bs 0 hA (by omega) (fun j v hj=>?_) (fun k b hkb=>?_)
      · simp only[Nat.zero_add]
        have hjl:=(List.getElem?_eq_some_iff.1 hj).1
        simp only[Array.getD_eq_getD_getElem?]
        rw[Array.getElem?_append_left (by simpa using hjl)]
        simp[hj]
      · have hl:(zbk sp.pats vs 0).length≤1:=by omega
        match hobs:zbk sp.pats vs 0,hl with
        | [],_=>rw[hobs] at hkb;cases hkb
        | [p],_=>
          rw[hobs] at hkb
          simp only[List.mem_singleton] at hkb
          subst hkb
          simp[zjH]
  have hCE:CfgOk E.P E.OB c:=hC
  refine wpIn_mono (h x hpre M bs w _ rfl hR) fun e a' w' ⟨xe,st',e1,e2,e3⟩=>?_
  subst e1
  have leave:∀(R:Ending→World→Prop) (st1:St) (η:Eta) (tmps:Array Value),(∀a1 w1,a1.tmps=tmps→Good E c.nt η a1 w1→(∀f∈st1,Fact.holds E η a1 w1 f)→∃v,(results fn tmps).run P w1=.ok v w1∧R (.returned v) w1)→
      ∀(ms:List Nat) (a1:Act) (w1:World),a1.tmps=tmps→a1.defers=ms.map mkD→ms.Nodup→(∀D∈ms,E.w0.heap.size≤D∧w1.heap[D]?=some (.deferred (some []))∧∀k c,η k≠some (D,c))→
      Good E c.nt η a1 w1→(∀f∈st1,Fact.holds E η a1 w1 f)→LeavesInM Fence.wide 0 P fn tmps R a1.defers .returning w1:=by
    intro R st1 η tmps hfin ms
    induction ms with
    | nil=>
      intro a1 w1 ht hd1 _ _ g H
      rw[hd1]
      exact hfin a1 w1 ht g H
    | cons D ms ih=>
      intro a1 w1 ht hd1 hn hm g H
      have ht2:=zkf rfl g H (by rw[hd1];rfl) hn hm
      rw[hd1]
      refine⟨by simp,.inl ⟨D,_,rfl,run_takeDeferred (hm D List.mem_cons_self).2.1,?_⟩⟩
      refine ih {a1 with defers:=ms.map mkD} _ ht rfl (List.nodup_cons.1 hn).2 (fun D' hD'=>?_) ht2.1 ht2.2
      obtain⟨p1,p2,p3⟩:=hm D' (List.mem_cons_of_mem _ hD')
      have hne:D'≠D:=fun e=>(List.nodup_cons.1 hn).1 (by rw[←e];exact hD')
      exact⟨p1,(World.putObj_heap_other hne).trans p2,p3⟩
  have fin : ∀st',zgE c rs sp.res (sp.f x) st'→RelS E c.nt st' a' w'→LeavesInM Fence.wide 0 P fn a'.tmps (fun e w'=>∃rs g,e=.returned (zcW rs)∧CPost OB w w' bs∧
      zfR w' (fun b c=>¬M b∧g≠some b∧∃el f,w'.heap[b]?=some (.cells c el f)) w.heap.size sp.res (sp.f x) rs g) a'.defers .returning w':=by
    intro st' hr hR
    unfold zgE at hr
    split at hr
    case h_2=>exact hr.elim
    case h_1 p st1 hfz=>
      split at hr
      case h_2=>exact hr.elim
      case h_1 q y hq=>
        obtain⟨r1,hr⟩:=OP.andK_out hr
        obtain⟨r2,r3⟩:=hr.out
        have r3:=zeV _ _ _ r3
        obtain⟨η,g,H⟩:=zbr hfz r1 hR
        obtain⟨⟨ms,m1,m2,m3⟩,_⟩:=g.defers
        refine leave _ st1 η a'.tmps (fun a1 w1 ht g H=>?_) ms a' w' rfl m1 m2 m3 g H
        obtain⟨vs',gb,k1,k2,k3,k4⟩:=zca hCE.tbl g H rs sp.res q y hq r2 (.inr fun _ h=>h)
        rw[r3] at k4
        rw[←hrs,ht] at k1
        refine⟨_,zdB k1,vs',gb,rfl,?_,k4 _ (fun b c ⟨m1,m2,m3⟩=>⟨fun hm=>m1 (.inl hm),fun hg=>?_,m3⟩)⟩
        · exact {os:=g.os,tape:=g.tape,output:=g.output,size:=g.grow,keep:=fun b hb hn=>g.keep b hb hn (fun h=>h),obk:=fun b hb i o h1 h2=>g.obkeep b i o (o4 b hb).2 hb h1 h2}
        · obtain⟨k,n,hk⟩:=k2 b hg
          exact m2 k n hk
  cases xe with
  | normal=>exact fin st' e2 e3
  | exit id=>exact e2.elim
  | ret=>exact fin st' e2 e3
end
end Go.Eng
namespace Go.Eng.Ar
open Go.Eng Go.Proofs
set_option linter.all false
set_option maxRecDepth 100000
set_option maxHeartbeats 2000000
@[reducible] noncomputable def EH (M:Nat→Prop) (bs:List Nat) (w:World) (nd:Bool):Env:={P:=Tryz.prog,M:=M,mu:=fun b=>b∈bs,w0:=w,OB:=OB,x:={nd:=nd}}
theorem zvB {M:Nat→Prop} {bs:List Nat} {w0 w:World} {nt:Nat} {st:St} {a:Act} (hR:RelS (EH M bs w0 false) nt st a w) (hd:a.defers=[]):RelS (EH M bs w0 true) nt st a w:=
  let ⟨η,g,H⟩:=hR
  ⟨η,⟨g.size,g.lim,g.defers,g.os,g.tape,g.output,g.grow,g.keep,g.own,g.dis,g.inj,g.old,g.obkeep,fun _=>hd⟩,H⟩
theorem zpf {M:Nat→Prop} {bs:List Nat} {w0 w:World} {nt:Nat} {st:St} {a:Act} (hR:RelS (EH M bs w0 true) nt st a w):RelS (EH M bs w0 false) nt st a w∧a.defers=[]:=
  let ⟨η,g,H⟩:=hR
  ⟨⟨η,⟨g.size,g.lim,g.defers,g.os,g.tape,g.output,g.grow,g.keep,g.own,g.dis,g.inj,g.old,g.obkeep,fun h=>by cases h⟩,H⟩,g.nd rfl⟩
noncomputable def b180:Code:=zdt Tryz.f180
noncomputable def zlP:Code:=match b180 with | .seq _ (.seq _ (.seq _ (.seq _ (.seq (.seq _ (.block _ (.loop x))) _))))=>x|c=>c
noncomputable def zpt:Code:=match zlP with | .seq _ (.seq _ (.seq (.block _ (.seq _ (.seq _ (.seq (.seq _ (.block _ (.loop x))) _)))) _))=>x|c=>c
noncomputable def r12:Code:=match zpt with | .seq _ (.seq _ (.seq (.block _ (.seq _ (.seq x _))) _))=>x|c=>c
noncomputable def r13:Code:=match zpt with | .seq _ (.seq _ (.seq (.block _ (.seq _ (.seq _ x))) _))=>x|c=>c
noncomputable def zh1:List Oper:=match r12 with | .region _ x _=>x.toList | _=>[]
noncomputable def zwP:List Oper:=match r13 with | .region _ x _=>x.toList | _=>[]
theorem zvl:r13=.region 13 zwP.toArray true:=rfl
abbrev mk0 (d:Option Nat) (t:Nat) (op:Op):Oper:={dst:=d,op:=op,type:=t,pos:="", after:=#[],guard:=none}
def opsB:List Oper:=[mk0 (some 40) 76 (.move (.tmp 36)),mk0 (some 42) 3 (.move (.tmp 9)),mk0 (some 43) 76 (.move (.tmp 1)),mk0 (some 44) 3 (.move (.tmp 11)),mk0 (some 45) 0 (.indexAddr 76 (.tmp 43) (.tmp 44)),mk0 (some 46) 3 (.load 3 (.tmp 45)),
  mk0 (some 47) 0 (.indexAddr 76 (.tmp 40) (.tmp 42)),mk0 none 3 (.store 3 (.tmp 47) (.tmp 46)),mk0 (some 37) 0 (.indexAddr 66 (.tmp 33) (.tmp 34)),mk0 none 76 (.store 76 (.tmp 37) (.tmp 36))]
@[reducible] def stA (K:Nat) (m xs:List (List Int)) (right row outs:List Int) (den:Int) (i k n:Nat):St:=
  [.slot 33 (.one (.o K n)),sI 34 i,.slot 36 (.one (.o 36 row.length)),.row 36 3 I64 row,.slot 10 (.one (.o K n)),.row K 76 (.sl I64) xs,sI 28 i,.slot 26 (.one (.d MatT m)),sI 27 n,sI 11 i,sI 9 k,sI 20 k,sI 19 n,sI 7 den,.slot 8 (.one (.o 60008 outs.length)),.row 60008 3 I64 outs,.slot 0 (.one (.d MatT m)),.slot 1 (.one (.d (.sl I64) right))]
@[reducible] def stB (K:Nat) (m xs:List (List Int)) (right outs:List Int) (den:Int) (i k n:Nat):St:=
  [.slot 10 (.one (.o K n)),.row K 76 (.sl I64) xs,sI 28 i,.slot 26 (.one (.d MatT m)),sI 27 n,sI 9 k,sI 20 k,sI 19 n,sI 7 den,.slot 8 (.one (.o 60008 outs.length)),.row 60008 3 I64 outs,.slot 0 (.one (.d MatT m)),.slot 1 (.one (.d (.sl I64) right))]
abbrev cSv:List (Nat×Spec):=[(145,zgq),(200,zed)]
theorem zsz:All cSv:=⟨h145,hDet,trivial⟩
@[reducible] def cfS:Cfg:=cfg {} cSv 75
theorem vcB (m xs:List (List Int)) (right row outs:List Int) (den:Int) (i k n:Nat) (hi:i<n) (hn:xs.length=n) (hr:i<right.length) (hk:k<row.length):zd1 cfS opsB.toArray opsB (stA 60010 m xs right row outs den i k n)
    (fun st=>Goal (∃s:Unit,ent st (stB 60010 m (xs.set i (row.set k (vI right i))) right outs den i k n)∧True)):=by
  repeat' (intro hzz;(try (rename Two=>hq;cases hq));(try dsimp only at hzz);(try simp only[zad,zac,eqD,inR,big,zab,zB] at hzz);(try simp only[zad,zac,eqD,inR,big,zab,zB,zav] at hzz);(try (revert hzz;intro _)))
  all_goals try (rename Unit=>hq;clear hq)
  all_goals try ((with_reducible refine Held.mk ?_);(with_reducible (first|refine Frz.mk ?_|refine And.intro (Frz.mk ?_) ?_|refine And.intro ?_ (Frz.mk ?_)));repeat' first|exact True.intro|(change _=_;with_reducible rfl)|refine And.intro ?_ ?_|(with_reducible refine Frz.mk ?_))
  all_goals try (refine Held.mk ?_;(try dsimp only at *);(try simp only[zad,zac,eqD,inR,big,zab,zB] at *);(try simp only[zad,zac,eqD,inR,big,zab,zB,zav] at *))
  all_goals try omega
  · show row.length=(row.set k (vI right i)).length
    rw[List.length_set]
  · show row.length=(row.set k (vI right i)).length
    rw[List.length_set]
  ·
    refine zaj.mk ?_
    refine Exists.intro () ?_
    refine And.intro (Leaf.mk ?_) ?_
    · repeat' first|exact True.intro|refine And.intro ?_ ?_
      all_goals try ((change _=_<;>try dsimp only)<;>try with_reducible rfl)
      all_goals try omega
      all_goals (first|rfl|(rw[List.length_set]))
    trivial
structure RawN (a:Act) (w:World) (row right:List Int) (i n:Nat) (bK cK:Nat) (curK:Array Value) (bC cC:Nat) (curC:Array Value) (bR oR cR elR:Nat) (curR:Array Value) (fR:Nat×Nat):Prop where
  t33:a.tmps.getD 33 undef=.slice (some ⟨bK,0,none⟩) n cK
  t10:a.tmps.getD 10 undef=.slice (some ⟨bK,0,none⟩) n cK
  t36:a.tmps.getD 36 undef=.slice (some ⟨bC,0,none⟩) row.length cC
  t1:a.tmps.getD 1 undef=.slice (some ⟨bR,oR,none⟩) right.length cR
  hK:w.heap[bK]?=some (.cells curK 76 (0,0))
  hC:w.heap[bC]?=some (.cells curC 3 (0,0))
  hR:w.heap[bR]?=some (.cells curR elR fR)
  sK:n≤curK.size
  sC:row.length≤curC.size
  gR:curR[oR+i]?=some (.int .i64 (vI right i))
  ne:bK≠bC
  neK:bR≠bK
  neC:bR≠bC
theorem zvj {M:Nat→Prop} {bs:List Nat} {w0 w:World} {a:Act} {m xs:List (List Int)} {right row outs:List Int} {den:Int} {i k n:Nat} (hR:RelS (EH M bs w0 true) 75 (stA 60010 m xs right row outs den i k n) a w) (hi:i<n) (hn:xs.length=n) (hr:i<right.length) (hk:k<row.length) :
    ∃bK cK curK bC cC curC bR oR cR elR curR fR,RawN a w row right i n bK cK curK bC cC curC bR oR cR elR curR fR:=by
  obtain⟨η,g,H⟩:=hR
  have f33:=H (.slot 33 (.one (.o 60010 n))) (by simp)
  have f10:=H (.slot 10 (.one (.o 60010 n))) (by simp)
  have f36:=H (.slot 36 (.one (.o 36 row.length))) (by simp)
  have fK:=H (.row 60010 76 (.sl I64) xs) (by simp)
  have fC:=H (.row 36 3 I64 row) (by simp)
  have f1:=H (.slot 1 (.one (.d (.sl I64) right))) (by simp)
  simp only[Fact.holds,zam,zaH] at f33 f10 f36 fK fC f1
  rw[zbn (by decide)] at f33 f10 f36 f1
  rcases f33 with ⟨_,h,_⟩|⟨bK,cK,e1,e2,_⟩
  · omega
  rcases f10 with ⟨_,h,_⟩|⟨bK',cK',e3,e4,_⟩
  · omega
  rw[e1] at e3;cases e3
  rcases f36 with ⟨_,h,_⟩|⟨bC,cC,e5,e6,_⟩
  · omega
  rcases fK with ⟨h,_⟩|⟨b1,c1,curK,_,e7,hK,rK⟩
  · rw[e1] at h;cases h
  rw[e1] at e7;cases e7
  rcases fC with ⟨h,_⟩|⟨b2,c2,curC,_,e8,hC,rC⟩
  · rw[e5] at h;cases h
  rw[e5] at e8;cases e8
  obtain⟨l,⟨ad,cap,q1,q2,q3,q4,q5⟩,⟨hf,_⟩|⟨_,hv⟩⟩:=f1
  · cases hf
  rw[q1] at hv
  simp only[List.cons.injEq,and_true] at hv
  have hne:right≠[]:=by intro h;rw[h] at hr;simp at hr
  cases ad with
  | none=>exact absurd (q4 rfl).1 hne
  | some ad=>
    obtain⟨hsp,c,⟨v1,v2,el,f,v3⟩,hsz,hrep⟩:=q5 ad rfl hne
    obtain⟨bR,oR,sp⟩:=ad
    simp only at hsp v1 v2 v3 hsz hrep
    subst hsp
    have hg:=hrep i (vI right i) (by simp[vI,List.getElem?_eq_getElem hr])
    have hg:((c.toList.drop (oR+i*1)).take 1)=[.int .i64 (vI right i)]:=hg
    have hgr:c[oR+i]?=some (.int .i64 (vI right i)):=by
      have h2:=congrArg (fun l=>l[0]?) hg
      simpa [List.getElem?_take,List.getElem?_drop] using h2
    refine⟨bK,cK,curK,bC,cC,curC,bR,oR,cap,el,c,f,e2,e4,e6,hv.symm,hK,hC,v3,?_,?_,hgr,fun h=>?_,fun h=>?_,fun h=>?_⟩
    · have h1:=rK.1;have h2:=rK.2.1
      have:curK.size=cK*1:=h1
      have:xs.length≤cK:=h2
      omega
    · have h1:=rC.1;have h2:=rC.2.1
      have:curC.size=cC*1:=h1
      have:row.length≤cC:=h2
      omega
    · subst h
      have:=g.inj _ _ _ _ _ e1 e5
      cases this
    · subst h;exact v2 _ _ e1
    · subst h;exact v2 _ _ e5
theorem zol {K:Nat} {m xs:List (List Int)} {right outs:List Int} {den:Int} {i k n:Nat} {u:Nat} {s:SV} (h:Fact.slot u s∈stB K m xs right outs den i k n):u ∉ [36,37,38,39,40,41,42,43,44,45,46,47]:=by
  simp only[stB,List.mem_cons,List.not_mem_nil,or_false,Fact.slot.injEq,reduceCtorEq,false_or] at h
  simp only[List.mem_cons,List.not_mem_nil,or_false]
  omega
theorem ev (a:Act) (t:Nat):a.eval (.tmp t)=a.tmps.getD t undef:=rfl
theorem nest {M:Nat→Prop} {bs:List Nat} {w0 w:World} {a:Act} {m xs:List (List Int)} {right row outs:List Int} {den:Int} {i k n:Nat} {Q:Exit→Act→World→Prop} (hR:RelS (EH M bs w0 true) 75 (stA 60010 m xs right row outs den i k n) a w) (hi:i<n) (hn:xs.length=n) (hr:i<right.length) (hk:k<row.length)
    (hQ:∀a' w',RelS (EH M bs w0 true) 75 (stB 60010 m (xs.set i (row.set k (vI right i))) right outs den i k n) a' w'→Q .normal a' w') :
    wpListIn (Fw none) 0 Tryz.prog zh1.toArray (fun e a w=>match e with | .normal=>r13.wpIn (Fw none) 0 Tryz.prog Q a w|e=>Q e a w) (zh1.drop 4) a w:=by
  obtain⟨bK,cK,curK,bC,cC,curC,bR,oR,cR,elR,curR,fR,r⟩:=zvj hR hi hn hr hk
  have hsz:a.tmps.size=75:=by obtain⟨η,g,H⟩:=hR;exact g.size
  have s34:a.tmps.getD 34 undef=.int .i64 i:=by
    obtain⟨η,g,H⟩:=hR
    have h:=H (sI 34 i) (by simp)
    simp only[Fact.holds] at h
    rw[zbn (by decide)] at h
    exact zi5 h
  have s11:a.tmps.getD 11 undef=.int .i64 i:=by
    obtain⟨η,g,H⟩:=hR
    have h:=H (sI 11 i) (by simp)
    simp only[Fact.holds] at h
    rw[zbn (by decide)] at h
    exact zi5 h
  have s9:a.tmps.getD 9 undef=.int .i64 k:=by
    obtain⟨η,g,H⟩:=hR
    have h:=H (sI 9 k) (by simp)
    simp only[Fact.holds] at h
    rw[zbn (by decide)] at h
    exact zi5 h
  obtain⟨vC,hvC⟩:∃vC,vC=Value.slice (some ⟨bC,0,none⟩) row.length cC:=⟨_,rfl⟩
  obtain⟨x,hx⟩:∃x,x=vI right i:=⟨_,rfl⟩
  -- the way of B
  have hB:=zcl (E:=EH M bs w0 true) (c:=cfS) (ro:=none) (q:=0) (zl6 (X:={}) trivial zsz) (ops:=opsB.toArray) (Q:=fun e a' w'=>e=.normal∧RelS (EH M bs w0 true) 75 (stB 60010 m (xs.set i (row.set k (vI right i))) right outs den i k n) a' w')
    (by intro o ho t ht
        have hall:(opsB.all fun o=>match o.dst with|some t=>Nat.blt t 75|none=>true)=true:=by kernel_rfl
        have:=List.all_eq_true.1 hall o (by simpa using ho)
        rw[ht] at this
        exact Nat.le_of_ble_eq_true this) opsB (fun o ho=>by simpa using ho) _ _ a w (vcB m xs right row outs den i k n hi hn hr hk) hR
    (fun st' a' w' h1 h2=>by obtain⟨_,h4,_⟩:=h1.out;exact⟨rfl,zbL h4 h2⟩)
  simp only[opsB] at hB
  have za:=hsz
  have e36:a.tmps.getD 36 undef=vC:=r.t36.trans hvC.symm
  have hB1:=zc0 hB rfl rfl (mvR a w _ (.tmp 36) rfl e36)
  obtain⟨B1,qB1⟩:∃x,x=a.put (some 40) vC:=⟨_,rfl⟩
  have zB1:B1.tmps.size=75:=by rw[qB1,zai];exact za
  have gB1_36:B1.tmps.getD 36 undef=vC:=by rw[qB1];exact (zaa (by decide)).trans e36
  have gB1_33:B1.tmps.getD 33 undef=(.slice (some ⟨bK,0,none⟩) n cK):=by rw[qB1];exact (zaa (by decide)).trans r.t33
  have gB1_10:B1.tmps.getD 10 undef=(.slice (some ⟨bK,0,none⟩) n cK):=by rw[qB1];exact (zaa (by decide)).trans r.t10
  have gB1_34:B1.tmps.getD 34 undef=(.int .i64 i):=by rw[qB1];exact (zaa (by decide)).trans s34
  have gB1_11:B1.tmps.getD 11 undef=(.int .i64 i):=by rw[qB1];exact (zaa (by decide)).trans s11
  have gB1_9:B1.tmps.getD 9 undef=(.int .i64 k):=by rw[qB1];exact (zaa (by decide)).trans s9
  have gB1_1:B1.tmps.getD 1 undef=(.slice (some ⟨bR,oR,none⟩) right.length cR):=by rw[qB1];exact (zaa (by decide)).trans r.t1
  have gB1_40:B1.tmps.getD 40 undef=vC:=by rw[qB1];exact zae (by rw[za];decide)
  change wpListIn (Fw none) 0 Tryz.prog _ _ _ (a.put (some 40) vC) w at hB1
  rw[←qB1] at hB1
  have hB2:=zc0 hB1 rfl rfl (mvR B1 w _ (.tmp 9) rfl gB1_9)
  obtain⟨B2,qB2⟩:∃x,x=B1.put (some 42) (.int .i64 k):=⟨_,rfl⟩
  have zB2:B2.tmps.size=75:=by rw[qB2,zai];exact zB1
  have gB2_36:B2.tmps.getD 36 undef=vC:=by rw[qB2];exact (zaa (by decide)).trans gB1_36
  have gB2_33:B2.tmps.getD 33 undef=(.slice (some ⟨bK,0,none⟩) n cK):=by rw[qB2];exact (zaa (by decide)).trans gB1_33
  have gB2_10:B2.tmps.getD 10 undef=(.slice (some ⟨bK,0,none⟩) n cK):=by rw[qB2];exact (zaa (by decide)).trans gB1_10
  have gB2_34:B2.tmps.getD 34 undef=(.int .i64 i):=by rw[qB2];exact (zaa (by decide)).trans gB1_34
  have gB2_11:B2.tmps.getD 11 undef=(.int .i64 i):=by rw[qB2];exact (zaa (by decide)).trans gB1_11
  have gB2_9:B2.tmps.getD 9 undef=(.int .i64 k):=by rw[qB2];exact (zaa (by decide)).trans gB1_9
  have gB2_1:B2.tmps.getD 1 undef=(.slice (some ⟨bR,oR,none⟩) right.length cR):=by rw[qB2];exact (zaa (by decide)).trans gB1_1
  have gB2_40:B2.tmps.getD 40 undef=vC:=by rw[qB2];exact (zaa (by decide)).trans gB1_40
  have gB2_42:B2.tmps.getD 42 undef=(.int .i64 k):=by rw[qB2];exact zae (by rw[zB1];decide)
  change wpListIn (Fw none) 0 Tryz.prog _ _ _ (B1.put (some 42) (.int .i64 k)) w at hB2
  rw[←qB2] at hB2
  have hB3:=zc0 hB2 rfl rfl (mvR B2 w _ (.tmp 1) rfl gB2_1)
  obtain⟨B3,qB3⟩:∃x,x=B2.put (some 43) (.slice (some ⟨bR,oR,none⟩) right.length cR):=⟨_,rfl⟩
  have zB3:B3.tmps.size=75:=by rw[qB3,zai];exact zB2
  have gB3_36:B3.tmps.getD 36 undef=vC:=by rw[qB3];exact (zaa (by decide)).trans gB2_36
  have gB3_33:B3.tmps.getD 33 undef=(.slice (some ⟨bK,0,none⟩) n cK):=by rw[qB3];exact (zaa (by decide)).trans gB2_33
  have gB3_10:B3.tmps.getD 10 undef=(.slice (some ⟨bK,0,none⟩) n cK):=by rw[qB3];exact (zaa (by decide)).trans gB2_10
  have gB3_34:B3.tmps.getD 34 undef=(.int .i64 i):=by rw[qB3];exact (zaa (by decide)).trans gB2_34
  have gB3_11:B3.tmps.getD 11 undef=(.int .i64 i):=by rw[qB3];exact (zaa (by decide)).trans gB2_11
  have gB3_9:B3.tmps.getD 9 undef=(.int .i64 k):=by rw[qB3];exact (zaa (by decide)).trans gB2_9
  have gB3_1:B3.tmps.getD 1 undef=(.slice (some ⟨bR,oR,none⟩) right.length cR):=by rw[qB3];exact (zaa (by decide)).trans gB2_1
  have gB3_40:B3.tmps.getD 40 undef=vC:=by rw[qB3];exact (zaa (by decide)).trans gB2_40
  have gB3_42:B3.tmps.getD 42 undef=(.int .i64 k):=by rw[qB3];exact (zaa (by decide)).trans gB2_42
  have gB3_43:B3.tmps.getD 43 undef=(.slice (some ⟨bR,oR,none⟩) right.length cR):=by rw[qB3];exact zae (by rw[zB2];decide)
  change wpListIn (Fw none) 0 Tryz.prog _ _ _ (B2.put (some 43) (.slice (some ⟨bR,oR,none⟩) right.length cR)) w at hB3
  rw[←qB3] at hB3
  have hB4:=zc0 hB3 rfl rfl (mvR B3 w _ (.tmp 11) rfl gB3_11)
  obtain⟨B4,qB4⟩:∃x,x=B3.put (some 44) (.int .i64 i):=⟨_,rfl⟩
  have zB4:B4.tmps.size=75:=by rw[qB4,zai];exact zB3
  have gB4_36:B4.tmps.getD 36 undef=vC:=by rw[qB4];exact (zaa (by decide)).trans gB3_36
  have gB4_33:B4.tmps.getD 33 undef=(.slice (some ⟨bK,0,none⟩) n cK):=by rw[qB4];exact (zaa (by decide)).trans gB3_33
  have gB4_10:B4.tmps.getD 10 undef=(.slice (some ⟨bK,0,none⟩) n cK):=by rw[qB4];exact (zaa (by decide)).trans gB3_10
  have gB4_34:B4.tmps.getD 34 undef=(.int .i64 i):=by rw[qB4];exact (zaa (by decide)).trans gB3_34
  have gB4_11:B4.tmps.getD 11 undef=(.int .i64 i):=by rw[qB4];exact (zaa (by decide)).trans gB3_11
  have gB4_9:B4.tmps.getD 9 undef=(.int .i64 k):=by rw[qB4];exact (zaa (by decide)).trans gB3_9
  have gB4_1:B4.tmps.getD 1 undef=(.slice (some ⟨bR,oR,none⟩) right.length cR):=by rw[qB4];exact (zaa (by decide)).trans gB3_1
  have gB4_40:B4.tmps.getD 40 undef=vC:=by rw[qB4];exact (zaa (by decide)).trans gB3_40
  have gB4_42:B4.tmps.getD 42 undef=(.int .i64 k):=by rw[qB4];exact (zaa (by decide)).trans gB3_42
  have gB4_43:B4.tmps.getD 43 undef=(.slice (some ⟨bR,oR,none⟩) right.length cR):=by rw[qB4];exact (zaa (by decide)).trans gB3_43
  have gB4_44:B4.tmps.getD 44 undef=(.int .i64 i):=by rw[qB4];exact zae (by rw[zB3];decide)
  change wpListIn (Fw none) 0 Tryz.prog _ _ _ (B3.put (some 44) (.int .i64 i)) w at hB4
  rw[←qB4] at hB4
  have hB5:=zc0 hB4 rfl rfl (ia76 B4 w _ (.tmp 43) (.tmp 44) rfl gB4_43 gB4_44 hr)
  obtain⟨B5,qB5⟩:∃x,x=B4.put (some 45) (.pointer (some ⟨bR,oR+i,none⟩)):=⟨_,rfl⟩
  have zB5:B5.tmps.size=75:=by rw[qB5,zai];exact zB4
  have gB5_36:B5.tmps.getD 36 undef=vC:=by rw[qB5];exact (zaa (by decide)).trans gB4_36
  have gB5_33:B5.tmps.getD 33 undef=(.slice (some ⟨bK,0,none⟩) n cK):=by rw[qB5];exact (zaa (by decide)).trans gB4_33
  have gB5_10:B5.tmps.getD 10 undef=(.slice (some ⟨bK,0,none⟩) n cK):=by rw[qB5];exact (zaa (by decide)).trans gB4_10
  have gB5_34:B5.tmps.getD 34 undef=(.int .i64 i):=by rw[qB5];exact (zaa (by decide)).trans gB4_34
  have gB5_11:B5.tmps.getD 11 undef=(.int .i64 i):=by rw[qB5];exact (zaa (by decide)).trans gB4_11
  have gB5_9:B5.tmps.getD 9 undef=(.int .i64 k):=by rw[qB5];exact (zaa (by decide)).trans gB4_9
  have gB5_1:B5.tmps.getD 1 undef=(.slice (some ⟨bR,oR,none⟩) right.length cR):=by rw[qB5];exact (zaa (by decide)).trans gB4_1
  have gB5_40:B5.tmps.getD 40 undef=vC:=by rw[qB5];exact (zaa (by decide)).trans gB4_40
  have gB5_42:B5.tmps.getD 42 undef=(.int .i64 k):=by rw[qB5];exact (zaa (by decide)).trans gB4_42
  have gB5_43:B5.tmps.getD 43 undef=(.slice (some ⟨bR,oR,none⟩) right.length cR):=by rw[qB5];exact (zaa (by decide)).trans gB4_43
  have gB5_44:B5.tmps.getD 44 undef=(.int .i64 i):=by rw[qB5];exact (zaa (by decide)).trans gB4_44
  have gB5_45:B5.tmps.getD 45 undef=(.pointer (some ⟨bR,oR+i,none⟩)):=by rw[qB5];exact zae (by rw[zB4];decide)
  change wpListIn (Fw none) 0 Tryz.prog _ _ _ (B4.put (some 45) (.pointer (some ⟨bR,oR+i,none⟩))) w at hB5
  rw[←qB5] at hB5
  have hB6:=zc0 hB5 rfl rfl (ld3 B5 w _ (.tmp 45) rfl gB5_45 r.hR r.gR)
  obtain⟨B6,qB6⟩:∃x,x=B5.put (some 46) (.int .i64 (vI right i)):=⟨_,rfl⟩
  have zB6:B6.tmps.size=75:=by rw[qB6,zai];exact zB5
  have gB6_36:B6.tmps.getD 36 undef=vC:=by rw[qB6];exact (zaa (by decide)).trans gB5_36
  have gB6_33:B6.tmps.getD 33 undef=(.slice (some ⟨bK,0,none⟩) n cK):=by rw[qB6];exact (zaa (by decide)).trans gB5_33
  have gB6_10:B6.tmps.getD 10 undef=(.slice (some ⟨bK,0,none⟩) n cK):=by rw[qB6];exact (zaa (by decide)).trans gB5_10
  have gB6_34:B6.tmps.getD 34 undef=(.int .i64 i):=by rw[qB6];exact (zaa (by decide)).trans gB5_34
  have gB6_11:B6.tmps.getD 11 undef=(.int .i64 i):=by rw[qB6];exact (zaa (by decide)).trans gB5_11
  have gB6_9:B6.tmps.getD 9 undef=(.int .i64 k):=by rw[qB6];exact (zaa (by decide)).trans gB5_9
  have gB6_1:B6.tmps.getD 1 undef=(.slice (some ⟨bR,oR,none⟩) right.length cR):=by rw[qB6];exact (zaa (by decide)).trans gB5_1
  have gB6_40:B6.tmps.getD 40 undef=vC:=by rw[qB6];exact (zaa (by decide)).trans gB5_40
  have gB6_42:B6.tmps.getD 42 undef=(.int .i64 k):=by rw[qB6];exact (zaa (by decide)).trans gB5_42
  have gB6_43:B6.tmps.getD 43 undef=(.slice (some ⟨bR,oR,none⟩) right.length cR):=by rw[qB6];exact (zaa (by decide)).trans gB5_43
  have gB6_44:B6.tmps.getD 44 undef=(.int .i64 i):=by rw[qB6];exact (zaa (by decide)).trans gB5_44
  have gB6_45:B6.tmps.getD 45 undef=(.pointer (some ⟨bR,oR+i,none⟩)):=by rw[qB6];exact (zaa (by decide)).trans gB5_45
  have gB6_46:B6.tmps.getD 46 undef=(.int .i64 (vI right i)):=by rw[qB6];exact zae (by rw[zB5];decide)
  change wpListIn (Fw none) 0 Tryz.prog _ _ _ (B5.put (some 46) (.int .i64 (vI right i))) w at hB6
  rw[←qB6] at hB6
  have hB7:=zc0 hB6 rfl rfl (ia76 B6 w _ (.tmp 40) (.tmp 42) rfl (gB6_40.trans hvC) gB6_42 hk)
  obtain⟨B7,qB7⟩:∃x,x=B6.put (some 47) (.pointer (some ⟨bC,0+k,none⟩)):=⟨_,rfl⟩
  have zB7:B7.tmps.size=75:=by rw[qB7,zai];exact zB6
  have gB7_36:B7.tmps.getD 36 undef=vC:=by rw[qB7];exact (zaa (by decide)).trans gB6_36
  have gB7_33:B7.tmps.getD 33 undef=(.slice (some ⟨bK,0,none⟩) n cK):=by rw[qB7];exact (zaa (by decide)).trans gB6_33
  have gB7_10:B7.tmps.getD 10 undef=(.slice (some ⟨bK,0,none⟩) n cK):=by rw[qB7];exact (zaa (by decide)).trans gB6_10
  have gB7_34:B7.tmps.getD 34 undef=(.int .i64 i):=by rw[qB7];exact (zaa (by decide)).trans gB6_34
  have gB7_11:B7.tmps.getD 11 undef=(.int .i64 i):=by rw[qB7];exact (zaa (by decide)).trans gB6_11
  have gB7_9:B7.tmps.getD 9 undef=(.int .i64 k):=by rw[qB7];exact (zaa (by decide)).trans gB6_9
  have gB7_1:B7.tmps.getD 1 undef=(.slice (some ⟨bR,oR,none⟩) right.length cR):=by rw[qB7];exact (zaa (by decide)).trans gB6_1
  have gB7_40:B7.tmps.getD 40 undef=vC:=by rw[qB7];exact (zaa (by decide)).trans gB6_40
  have gB7_42:B7.tmps.getD 42 undef=(.int .i64 k):=by rw[qB7];exact (zaa (by decide)).trans gB6_42
  have gB7_43:B7.tmps.getD 43 undef=(.slice (some ⟨bR,oR,none⟩) right.length cR):=by rw[qB7];exact (zaa (by decide)).trans gB6_43
  have gB7_44:B7.tmps.getD 44 undef=(.int .i64 i):=by rw[qB7];exact (zaa (by decide)).trans gB6_44
  have gB7_45:B7.tmps.getD 45 undef=(.pointer (some ⟨bR,oR+i,none⟩)):=by rw[qB7];exact (zaa (by decide)).trans gB6_45
  have gB7_46:B7.tmps.getD 46 undef=(.int .i64 (vI right i)):=by rw[qB7];exact (zaa (by decide)).trans gB6_46
  have gB7_47:B7.tmps.getD 47 undef=(.pointer (some ⟨bC,0+k,none⟩)):=by rw[qB7];exact zae (by rw[zB6];decide)
  change wpListIn (Fw none) 0 Tryz.prog _ _ _ (B6.put (some 47) (.pointer (some ⟨bC,0+k,none⟩))) w at hB7
  rw[←qB7] at hB7
  obtain⟨wB8,hwB8⟩:∃x,x=w.setRow bC (curC.set! (0+k) (.int .i64 (vI right i))):=⟨_,rfl⟩
  have kwB8o:=(setRow_other w bC bK (curC.set! (0+k) (.int .i64 (vI right i))) r.ne).trans r.hK
  have kwB8R:=(setRow_other w bC bR (curC.set! (0+k) (.int .i64 (vI right i))) r.neC).trans r.hR
  have kwB8s:=setRow_heap w bC curC (curC.set! (0+k) (.int .i64 (vI right i))) _ _ r.hC
  rw[←hwB8] at kwB8s kwB8o kwB8R
  have hB8:=zfx hB7 rfl rfl (st3 B7 w _ (.tmp 47) (.tmp 46) rfl gB7_47 gB7_46 r.hC (by have:=r.sC;omega))
  change wpListIn (Fw none) 0 Tryz.prog _ _ _ B7 (w.setRow bC (curC.set! (0+k) (.int .i64 (vI right i)))) at hB8
  rw[←hwB8] at hB8
  have hB9:=zc0 hB8 rfl rfl (ia66 B7 wB8 _ (.tmp 33) (.tmp 34) rfl gB7_33 gB7_34 hi)
  obtain⟨B9,qB9⟩:∃x,x=B7.put (some 37) (.pointer (some ⟨bK,0+i,none⟩)):=⟨_,rfl⟩
  have zB9:B9.tmps.size=75:=by rw[qB9,zai];exact zB7
  have gB9_36:B9.tmps.getD 36 undef=vC:=by rw[qB9];exact (zaa (by decide)).trans gB7_36
  have gB9_33:B9.tmps.getD 33 undef=(.slice (some ⟨bK,0,none⟩) n cK):=by rw[qB9];exact (zaa (by decide)).trans gB7_33
  have gB9_10:B9.tmps.getD 10 undef=(.slice (some ⟨bK,0,none⟩) n cK):=by rw[qB9];exact (zaa (by decide)).trans gB7_10
  have gB9_34:B9.tmps.getD 34 undef=(.int .i64 i):=by rw[qB9];exact (zaa (by decide)).trans gB7_34
  have gB9_11:B9.tmps.getD 11 undef=(.int .i64 i):=by rw[qB9];exact (zaa (by decide)).trans gB7_11
  have gB9_9:B9.tmps.getD 9 undef=(.int .i64 k):=by rw[qB9];exact (zaa (by decide)).trans gB7_9
  have gB9_1:B9.tmps.getD 1 undef=(.slice (some ⟨bR,oR,none⟩) right.length cR):=by rw[qB9];exact (zaa (by decide)).trans gB7_1
  have gB9_40:B9.tmps.getD 40 undef=vC:=by rw[qB9];exact (zaa (by decide)).trans gB7_40
  have gB9_42:B9.tmps.getD 42 undef=(.int .i64 k):=by rw[qB9];exact (zaa (by decide)).trans gB7_42
  have gB9_43:B9.tmps.getD 43 undef=(.slice (some ⟨bR,oR,none⟩) right.length cR):=by rw[qB9];exact (zaa (by decide)).trans gB7_43
  have gB9_44:B9.tmps.getD 44 undef=(.int .i64 i):=by rw[qB9];exact (zaa (by decide)).trans gB7_44
  have gB9_45:B9.tmps.getD 45 undef=(.pointer (some ⟨bR,oR+i,none⟩)):=by rw[qB9];exact (zaa (by decide)).trans gB7_45
  have gB9_46:B9.tmps.getD 46 undef=(.int .i64 (vI right i)):=by rw[qB9];exact (zaa (by decide)).trans gB7_46
  have gB9_47:B9.tmps.getD 47 undef=(.pointer (some ⟨bC,0+k,none⟩)):=by rw[qB9];exact (zaa (by decide)).trans gB7_47
  have gB9_37:B9.tmps.getD 37 undef=(.pointer (some ⟨bK,0+i,none⟩)):=by rw[qB9];exact zae (by rw[zB7];decide)
  change wpListIn (Fw none) 0 Tryz.prog _ _ _ (B7.put (some 37) (.pointer (some ⟨bK,0+i,none⟩))) wB8 at hB9
  rw[←qB9] at hB9
  obtain⟨wB10,hwB10⟩:∃x,x=wB8.setRow bK (curK.set! (0+i) vC):=⟨_,rfl⟩
  have kwB10o:=(setRow_other wB8 bK bC (curK.set! (0+i) vC) (fun h=>r.ne h.symm)).trans kwB8s
  have kwB10R:=(setRow_other wB8 bK bR (curK.set! (0+i) vC) r.neK).trans kwB8R
  have kwB10s:=setRow_heap wB8 bK curK (curK.set! (0+i) vC) _ _ kwB8o
  rw[←hwB10] at kwB10s kwB10o kwB10R
  have hB10:=zfx hB9 rfl rfl (st76 B9 wB8 _ (.tmp 37) (.tmp 36) rfl gB9_37 (gB9_36.trans hvC) kwB8o (by have:=r.sK;omega))
  rw[←hvC] at hB10
  change wpListIn (Fw none) 0 Tryz.prog _ _ _ B9 (wB8.setRow bK (curK.set! (0+i) vC)) at hB10
  rw[←hwB10] at hB10
  -- the way of the code
  refine zak rfl (zaO (by intro d h;cases h) (ia66 a w _ (.tmp 33) (.tmp 34) rfl r.t33 s34 hi) ?_)
  obtain⟨A1,qA1⟩:∃x,x=a.put (some 37) (.pointer (some ⟨bK,0+i,none⟩)):=⟨_,rfl⟩
  have zA1:A1.tmps.size=75:=by rw[qA1,zai];exact za
  have gA1_36:A1.tmps.getD 36 undef=vC:=by rw[qA1];exact (zaa (by decide)).trans e36
  have gA1_33:A1.tmps.getD 33 undef=(.slice (some ⟨bK,0,none⟩) n cK):=by rw[qA1];exact (zaa (by decide)).trans r.t33
  have gA1_10:A1.tmps.getD 10 undef=(.slice (some ⟨bK,0,none⟩) n cK):=by rw[qA1];exact (zaa (by decide)).trans r.t10
  have gA1_34:A1.tmps.getD 34 undef=(.int .i64 i):=by rw[qA1];exact (zaa (by decide)).trans s34
  have gA1_11:A1.tmps.getD 11 undef=(.int .i64 i):=by rw[qA1];exact (zaa (by decide)).trans s11
  have gA1_9:A1.tmps.getD 9 undef=(.int .i64 k):=by rw[qA1];exact (zaa (by decide)).trans s9
  have gA1_1:A1.tmps.getD 1 undef=(.slice (some ⟨bR,oR,none⟩) right.length cR):=by rw[qA1];exact (zaa (by decide)).trans r.t1
  have gA1_37:A1.tmps.getD 37 undef=(.pointer (some ⟨bK,0+i,none⟩)):=by rw[qA1];exact zae (by rw[za];decide)
  change wpListIn (Fw none) 0 Tryz.prog _ _ _ (a.put (some 37) (.pointer (some ⟨bK,0+i,none⟩))) w
  rw[←qA1]
  obtain⟨wA2,hwA2⟩:∃x,x=w.setRow bK (curK.set! (0+i) vC):=⟨_,rfl⟩
  have kwA2o:=(setRow_other w bK bC (curK.set! (0+i) vC) (fun h=>r.ne h.symm)).trans r.hC
  have kwA2R:=(setRow_other w bK bR (curK.set! (0+i) vC) r.neK).trans r.hR
  have kwA2s:=setRow_heap w bK curK (curK.set! (0+i) vC) _ _ r.hK
  rw[←hwA2] at kwA2s kwA2o kwA2R
  refine zak rfl (zjt (by intro d h;cases h) (st76 A1 w _ (.tmp 37) (.tmp 36) rfl gA1_37 (gA1_36.trans hvC) r.hK (by have:=r.sK;omega)) ?_)
  rw[←hvC]
  change wpListIn (Fw none) 0 Tryz.prog _ _ _ A1 (w.setRow bK (curK.set! (0+i) vC))
  rw[←hwA2]
  refine zaP ?_
  show r13.wpIn (Fw none) 0 Tryz.prog Q A1 wA2
  rw[zvl,ztI]
  refine wpIn_wide.2 (wp_region_still_tail 10 mixed (by kernel_rfl) ?_)
  obtain⟨wd,hwd⟩:∃x,x=({wA2 with drawn:=wA2.drawn+1}:World):=⟨_,rfl⟩
  rw[←hwd]
  have dbK:=(show wd.heap[bK]?=wA2.heap[bK]? by rw[hwd]).trans kwA2s
  have dbC:=(show wd.heap[bC]?=wA2.heap[bC]? by rw[hwd]).trans kwA2o
  have dbR:=(show wd.heap[bR]?=wA2.heap[bR]? by rw[hwd]).trans kwA2R
  have gV:(curK.set! (0+i) vC)[0+i]?=some vC:=by rw[Array.set!_eq_setIfInBounds,Array.getElem?_setIfInBounds_self_of_lt (by have:=r.sK;omega)]
  refine zeL rfl (mvR A1 wd _ (.tmp 10) rfl gA1_10) ?_
  obtain⟨D1,qD1⟩:∃x,x=A1.put (some 38) (.slice (some ⟨bK,0,none⟩) n cK):=⟨_,rfl⟩
  have zD1:D1.tmps.size=75:=by rw[qD1,zai];exact zA1
  have gD1_36:D1.tmps.getD 36 undef=vC:=by rw[qD1];exact (zaa (by decide)).trans gA1_36
  have gD1_33:D1.tmps.getD 33 undef=(.slice (some ⟨bK,0,none⟩) n cK):=by rw[qD1];exact (zaa (by decide)).trans gA1_33
  have gD1_10:D1.tmps.getD 10 undef=(.slice (some ⟨bK,0,none⟩) n cK):=by rw[qD1];exact (zaa (by decide)).trans gA1_10
  have gD1_34:D1.tmps.getD 34 undef=(.int .i64 i):=by rw[qD1];exact (zaa (by decide)).trans gA1_34
  have gD1_11:D1.tmps.getD 11 undef=(.int .i64 i):=by rw[qD1];exact (zaa (by decide)).trans gA1_11
  have gD1_9:D1.tmps.getD 9 undef=(.int .i64 k):=by rw[qD1];exact (zaa (by decide)).trans gA1_9
  have gD1_1:D1.tmps.getD 1 undef=(.slice (some ⟨bR,oR,none⟩) right.length cR):=by rw[qD1];exact (zaa (by decide)).trans gA1_1
  have gD1_37:D1.tmps.getD 37 undef=(.pointer (some ⟨bK,0+i,none⟩)):=by rw[qD1];exact (zaa (by decide)).trans gA1_37
  have gD1_38:D1.tmps.getD 38 undef=(.slice (some ⟨bK,0,none⟩) n cK):=by rw[qD1];exact zae (by rw[zA1];decide)
  change wpStill Tryz.prog _ _ _ _ (A1.put (some 38) (.slice (some ⟨bK,0,none⟩) n cK))
  rw[←qD1]
  refine zeL rfl (mvR D1 wd _ (.tmp 11) rfl gD1_11) ?_
  obtain⟨D2,qD2⟩:∃x,x=D1.put (some 39) (.int .i64 i):=⟨_,rfl⟩
  have zD2:D2.tmps.size=75:=by rw[qD2,zai];exact zD1
  have gD2_36:D2.tmps.getD 36 undef=vC:=by rw[qD2];exact (zaa (by decide)).trans gD1_36
  have gD2_33:D2.tmps.getD 33 undef=(.slice (some ⟨bK,0,none⟩) n cK):=by rw[qD2];exact (zaa (by decide)).trans gD1_33
  have gD2_10:D2.tmps.getD 10 undef=(.slice (some ⟨bK,0,none⟩) n cK):=by rw[qD2];exact (zaa (by decide)).trans gD1_10
  have gD2_34:D2.tmps.getD 34 undef=(.int .i64 i):=by rw[qD2];exact (zaa (by decide)).trans gD1_34
  have gD2_11:D2.tmps.getD 11 undef=(.int .i64 i):=by rw[qD2];exact (zaa (by decide)).trans gD1_11
  have gD2_9:D2.tmps.getD 9 undef=(.int .i64 k):=by rw[qD2];exact (zaa (by decide)).trans gD1_9
  have gD2_1:D2.tmps.getD 1 undef=(.slice (some ⟨bR,oR,none⟩) right.length cR):=by rw[qD2];exact (zaa (by decide)).trans gD1_1
  have gD2_37:D2.tmps.getD 37 undef=(.pointer (some ⟨bK,0+i,none⟩)):=by rw[qD2];exact (zaa (by decide)).trans gD1_37
  have gD2_38:D2.tmps.getD 38 undef=(.slice (some ⟨bK,0,none⟩) n cK):=by rw[qD2];exact (zaa (by decide)).trans gD1_38
  have gD2_39:D2.tmps.getD 39 undef=(.int .i64 i):=by rw[qD2];exact zae (by rw[zD1];decide)
  change wpStill Tryz.prog _ _ _ _ (D1.put (some 39) (.int .i64 i))
  rw[←qD2]
  refine zeL rfl (ia66 D2 wd _ (.tmp 38) (.tmp 39) rfl gD2_38 gD2_39 hi) ?_
  obtain⟨D3,qD3⟩:∃x,x=D2.put (some 40) (.pointer (some ⟨bK,0+i,none⟩)):=⟨_,rfl⟩
  have zD3:D3.tmps.size=75:=by rw[qD3,zai];exact zD2
  have gD3_36:D3.tmps.getD 36 undef=vC:=by rw[qD3];exact (zaa (by decide)).trans gD2_36
  have gD3_33:D3.tmps.getD 33 undef=(.slice (some ⟨bK,0,none⟩) n cK):=by rw[qD3];exact (zaa (by decide)).trans gD2_33
  have gD3_10:D3.tmps.getD 10 undef=(.slice (some ⟨bK,0,none⟩) n cK):=by rw[qD3];exact (zaa (by decide)).trans gD2_10
  have gD3_34:D3.tmps.getD 34 undef=(.int .i64 i):=by rw[qD3];exact (zaa (by decide)).trans gD2_34
  have gD3_11:D3.tmps.getD 11 undef=(.int .i64 i):=by rw[qD3];exact (zaa (by decide)).trans gD2_11
  have gD3_9:D3.tmps.getD 9 undef=(.int .i64 k):=by rw[qD3];exact (zaa (by decide)).trans gD2_9
  have gD3_1:D3.tmps.getD 1 undef=(.slice (some ⟨bR,oR,none⟩) right.length cR):=by rw[qD3];exact (zaa (by decide)).trans gD2_1
  have gD3_37:D3.tmps.getD 37 undef=(.pointer (some ⟨bK,0+i,none⟩)):=by rw[qD3];exact (zaa (by decide)).trans gD2_37
  have gD3_38:D3.tmps.getD 38 undef=(.slice (some ⟨bK,0,none⟩) n cK):=by rw[qD3];exact (zaa (by decide)).trans gD2_38
  have gD3_39:D3.tmps.getD 39 undef=(.int .i64 i):=by rw[qD3];exact (zaa (by decide)).trans gD2_39
  have gD3_40:D3.tmps.getD 40 undef=(.pointer (some ⟨bK,0+i,none⟩)):=by rw[qD3];exact zae (by rw[zD2];decide)
  change wpStill Tryz.prog _ _ _ _ (D2.put (some 40) (.pointer (some ⟨bK,0+i,none⟩)))
  rw[←qD3]
  refine zeL rfl (ld76 D3 wd _ (.tmp 40) rfl gD3_40 dbK gV) ?_
  obtain⟨D4,qD4⟩:∃x,x=D3.put (some 41) vC:=⟨_,rfl⟩
  have zD4:D4.tmps.size=75:=by rw[qD4,zai];exact zD3
  have gD4_36:D4.tmps.getD 36 undef=vC:=by rw[qD4];exact (zaa (by decide)).trans gD3_36
  have gD4_33:D4.tmps.getD 33 undef=(.slice (some ⟨bK,0,none⟩) n cK):=by rw[qD4];exact (zaa (by decide)).trans gD3_33
  have gD4_10:D4.tmps.getD 10 undef=(.slice (some ⟨bK,0,none⟩) n cK):=by rw[qD4];exact (zaa (by decide)).trans gD3_10
  have gD4_34:D4.tmps.getD 34 undef=(.int .i64 i):=by rw[qD4];exact (zaa (by decide)).trans gD3_34
  have gD4_11:D4.tmps.getD 11 undef=(.int .i64 i):=by rw[qD4];exact (zaa (by decide)).trans gD3_11
  have gD4_9:D4.tmps.getD 9 undef=(.int .i64 k):=by rw[qD4];exact (zaa (by decide)).trans gD3_9
  have gD4_1:D4.tmps.getD 1 undef=(.slice (some ⟨bR,oR,none⟩) right.length cR):=by rw[qD4];exact (zaa (by decide)).trans gD3_1
  have gD4_37:D4.tmps.getD 37 undef=(.pointer (some ⟨bK,0+i,none⟩)):=by rw[qD4];exact (zaa (by decide)).trans gD3_37
  have gD4_38:D4.tmps.getD 38 undef=(.slice (some ⟨bK,0,none⟩) n cK):=by rw[qD4];exact (zaa (by decide)).trans gD3_38
  have gD4_39:D4.tmps.getD 39 undef=(.int .i64 i):=by rw[qD4];exact (zaa (by decide)).trans gD3_39
  have gD4_40:D4.tmps.getD 40 undef=(.pointer (some ⟨bK,0+i,none⟩)):=by rw[qD4];exact (zaa (by decide)).trans gD3_40
  have gD4_41:D4.tmps.getD 41 undef=vC:=by rw[qD4];exact zae (by rw[zD3];decide)
  change wpStill Tryz.prog _ _ _ _ (D3.put (some 41) vC)
  rw[←qD4]
  refine zeL rfl (mvR D4 wd _ (.tmp 9) rfl gD4_9) ?_
  obtain⟨D5,qD5⟩:∃x,x=D4.put (some 42) (.int .i64 k):=⟨_,rfl⟩
  have zD5:D5.tmps.size=75:=by rw[qD5,zai];exact zD4
  have gD5_36:D5.tmps.getD 36 undef=vC:=by rw[qD5];exact (zaa (by decide)).trans gD4_36
  have gD5_33:D5.tmps.getD 33 undef=(.slice (some ⟨bK,0,none⟩) n cK):=by rw[qD5];exact (zaa (by decide)).trans gD4_33
  have gD5_10:D5.tmps.getD 10 undef=(.slice (some ⟨bK,0,none⟩) n cK):=by rw[qD5];exact (zaa (by decide)).trans gD4_10
  have gD5_34:D5.tmps.getD 34 undef=(.int .i64 i):=by rw[qD5];exact (zaa (by decide)).trans gD4_34
  have gD5_11:D5.tmps.getD 11 undef=(.int .i64 i):=by rw[qD5];exact (zaa (by decide)).trans gD4_11
  have gD5_9:D5.tmps.getD 9 undef=(.int .i64 k):=by rw[qD5];exact (zaa (by decide)).trans gD4_9
  have gD5_1:D5.tmps.getD 1 undef=(.slice (some ⟨bR,oR,none⟩) right.length cR):=by rw[qD5];exact (zaa (by decide)).trans gD4_1
  have gD5_37:D5.tmps.getD 37 undef=(.pointer (some ⟨bK,0+i,none⟩)):=by rw[qD5];exact (zaa (by decide)).trans gD4_37
  have gD5_38:D5.tmps.getD 38 undef=(.slice (some ⟨bK,0,none⟩) n cK):=by rw[qD5];exact (zaa (by decide)).trans gD4_38
  have gD5_39:D5.tmps.getD 39 undef=(.int .i64 i):=by rw[qD5];exact (zaa (by decide)).trans gD4_39
  have gD5_40:D5.tmps.getD 40 undef=(.pointer (some ⟨bK,0+i,none⟩)):=by rw[qD5];exact (zaa (by decide)).trans gD4_40
  have gD5_41:D5.tmps.getD 41 undef=vC:=by rw[qD5];exact (zaa (by decide)).trans gD4_41
  have gD5_42:D5.tmps.getD 42 undef=(.int .i64 k):=by rw[qD5];exact zae (by rw[zD4];decide)
  change wpStill Tryz.prog _ _ _ _ (D4.put (some 42) (.int .i64 k))
  rw[←qD5]
  refine zeL rfl (mvR D5 wd _ (.tmp 1) rfl gD5_1) ?_
  obtain⟨D6,qD6⟩:∃x,x=D5.put (some 43) (.slice (some ⟨bR,oR,none⟩) right.length cR):=⟨_,rfl⟩
  have zD6:D6.tmps.size=75:=by rw[qD6,zai];exact zD5
  have gD6_36:D6.tmps.getD 36 undef=vC:=by rw[qD6];exact (zaa (by decide)).trans gD5_36
  have gD6_33:D6.tmps.getD 33 undef=(.slice (some ⟨bK,0,none⟩) n cK):=by rw[qD6];exact (zaa (by decide)).trans gD5_33
  have gD6_10:D6.tmps.getD 10 undef=(.slice (some ⟨bK,0,none⟩) n cK):=by rw[qD6];exact (zaa (by decide)).trans gD5_10
  have gD6_34:D6.tmps.getD 34 undef=(.int .i64 i):=by rw[qD6];exact (zaa (by decide)).trans gD5_34
  have gD6_11:D6.tmps.getD 11 undef=(.int .i64 i):=by rw[qD6];exact (zaa (by decide)).trans gD5_11
  have gD6_9:D6.tmps.getD 9 undef=(.int .i64 k):=by rw[qD6];exact (zaa (by decide)).trans gD5_9
  have gD6_1:D6.tmps.getD 1 undef=(.slice (some ⟨bR,oR,none⟩) right.length cR):=by rw[qD6];exact (zaa (by decide)).trans gD5_1
  have gD6_37:D6.tmps.getD 37 undef=(.pointer (some ⟨bK,0+i,none⟩)):=by rw[qD6];exact (zaa (by decide)).trans gD5_37
  have gD6_38:D6.tmps.getD 38 undef=(.slice (some ⟨bK,0,none⟩) n cK):=by rw[qD6];exact (zaa (by decide)).trans gD5_38
  have gD6_39:D6.tmps.getD 39 undef=(.int .i64 i):=by rw[qD6];exact (zaa (by decide)).trans gD5_39
  have gD6_40:D6.tmps.getD 40 undef=(.pointer (some ⟨bK,0+i,none⟩)):=by rw[qD6];exact (zaa (by decide)).trans gD5_40
  have gD6_41:D6.tmps.getD 41 undef=vC:=by rw[qD6];exact (zaa (by decide)).trans gD5_41
  have gD6_42:D6.tmps.getD 42 undef=(.int .i64 k):=by rw[qD6];exact (zaa (by decide)).trans gD5_42
  have gD6_43:D6.tmps.getD 43 undef=(.slice (some ⟨bR,oR,none⟩) right.length cR):=by rw[qD6];exact zae (by rw[zD5];decide)
  change wpStill Tryz.prog _ _ _ _ (D5.put (some 43) (.slice (some ⟨bR,oR,none⟩) right.length cR))
  rw[←qD6]
  refine zeL rfl (mvR D6 wd _ (.tmp 11) rfl gD6_11) ?_
  obtain⟨D7,qD7⟩:∃x,x=D6.put (some 44) (.int .i64 i):=⟨_,rfl⟩
  have zD7:D7.tmps.size=75:=by rw[qD7,zai];exact zD6
  have gD7_36:D7.tmps.getD 36 undef=vC:=by rw[qD7];exact (zaa (by decide)).trans gD6_36
  have gD7_33:D7.tmps.getD 33 undef=(.slice (some ⟨bK,0,none⟩) n cK):=by rw[qD7];exact (zaa (by decide)).trans gD6_33
  have gD7_10:D7.tmps.getD 10 undef=(.slice (some ⟨bK,0,none⟩) n cK):=by rw[qD7];exact (zaa (by decide)).trans gD6_10
  have gD7_34:D7.tmps.getD 34 undef=(.int .i64 i):=by rw[qD7];exact (zaa (by decide)).trans gD6_34
  have gD7_11:D7.tmps.getD 11 undef=(.int .i64 i):=by rw[qD7];exact (zaa (by decide)).trans gD6_11
  have gD7_9:D7.tmps.getD 9 undef=(.int .i64 k):=by rw[qD7];exact (zaa (by decide)).trans gD6_9
  have gD7_1:D7.tmps.getD 1 undef=(.slice (some ⟨bR,oR,none⟩) right.length cR):=by rw[qD7];exact (zaa (by decide)).trans gD6_1
  have gD7_37:D7.tmps.getD 37 undef=(.pointer (some ⟨bK,0+i,none⟩)):=by rw[qD7];exact (zaa (by decide)).trans gD6_37
  have gD7_38:D7.tmps.getD 38 undef=(.slice (some ⟨bK,0,none⟩) n cK):=by rw[qD7];exact (zaa (by decide)).trans gD6_38
  have gD7_39:D7.tmps.getD 39 undef=(.int .i64 i):=by rw[qD7];exact (zaa (by decide)).trans gD6_39
  have gD7_40:D7.tmps.getD 40 undef=(.pointer (some ⟨bK,0+i,none⟩)):=by rw[qD7];exact (zaa (by decide)).trans gD6_40
  have gD7_41:D7.tmps.getD 41 undef=vC:=by rw[qD7];exact (zaa (by decide)).trans gD6_41
  have gD7_42:D7.tmps.getD 42 undef=(.int .i64 k):=by rw[qD7];exact (zaa (by decide)).trans gD6_42
  have gD7_43:D7.tmps.getD 43 undef=(.slice (some ⟨bR,oR,none⟩) right.length cR):=by rw[qD7];exact (zaa (by decide)).trans gD6_43
  have gD7_44:D7.tmps.getD 44 undef=(.int .i64 i):=by rw[qD7];exact zae (by rw[zD6];decide)
  change wpStill Tryz.prog _ _ _ _ (D6.put (some 44) (.int .i64 i))
  rw[←qD7]
  refine zeL rfl (ia76 D7 wd _ (.tmp 43) (.tmp 44) rfl gD7_43 gD7_44 hr) ?_
  obtain⟨D8,qD8⟩:∃x,x=D7.put (some 45) (.pointer (some ⟨bR,oR+i,none⟩)):=⟨_,rfl⟩
  have zD8:D8.tmps.size=75:=by rw[qD8,zai];exact zD7
  have gD8_36:D8.tmps.getD 36 undef=vC:=by rw[qD8];exact (zaa (by decide)).trans gD7_36
  have gD8_33:D8.tmps.getD 33 undef=(.slice (some ⟨bK,0,none⟩) n cK):=by rw[qD8];exact (zaa (by decide)).trans gD7_33
  have gD8_10:D8.tmps.getD 10 undef=(.slice (some ⟨bK,0,none⟩) n cK):=by rw[qD8];exact (zaa (by decide)).trans gD7_10
  have gD8_34:D8.tmps.getD 34 undef=(.int .i64 i):=by rw[qD8];exact (zaa (by decide)).trans gD7_34
  have gD8_11:D8.tmps.getD 11 undef=(.int .i64 i):=by rw[qD8];exact (zaa (by decide)).trans gD7_11
  have gD8_9:D8.tmps.getD 9 undef=(.int .i64 k):=by rw[qD8];exact (zaa (by decide)).trans gD7_9
  have gD8_1:D8.tmps.getD 1 undef=(.slice (some ⟨bR,oR,none⟩) right.length cR):=by rw[qD8];exact (zaa (by decide)).trans gD7_1
  have gD8_37:D8.tmps.getD 37 undef=(.pointer (some ⟨bK,0+i,none⟩)):=by rw[qD8];exact (zaa (by decide)).trans gD7_37
  have gD8_38:D8.tmps.getD 38 undef=(.slice (some ⟨bK,0,none⟩) n cK):=by rw[qD8];exact (zaa (by decide)).trans gD7_38
  have gD8_39:D8.tmps.getD 39 undef=(.int .i64 i):=by rw[qD8];exact (zaa (by decide)).trans gD7_39
  have gD8_40:D8.tmps.getD 40 undef=(.pointer (some ⟨bK,0+i,none⟩)):=by rw[qD8];exact (zaa (by decide)).trans gD7_40
  have gD8_41:D8.tmps.getD 41 undef=vC:=by rw[qD8];exact (zaa (by decide)).trans gD7_41
  have gD8_42:D8.tmps.getD 42 undef=(.int .i64 k):=by rw[qD8];exact (zaa (by decide)).trans gD7_42
  have gD8_43:D8.tmps.getD 43 undef=(.slice (some ⟨bR,oR,none⟩) right.length cR):=by rw[qD8];exact (zaa (by decide)).trans gD7_43
  have gD8_44:D8.tmps.getD 44 undef=(.int .i64 i):=by rw[qD8];exact (zaa (by decide)).trans gD7_44
  have gD8_45:D8.tmps.getD 45 undef=(.pointer (some ⟨bR,oR+i,none⟩)):=by rw[qD8];exact zae (by rw[zD7];decide)
  change wpStill Tryz.prog _ _ _ _ (D7.put (some 45) (.pointer (some ⟨bR,oR+i,none⟩)))
  rw[←qD8]
  refine zeL rfl (ld3 D8 wd _ (.tmp 45) rfl gD8_45 dbR r.gR) ?_
  obtain⟨D9,qD9⟩:∃x,x=D8.put (some 46) (.int .i64 (vI right i)):=⟨_,rfl⟩
  have zD9:D9.tmps.size=75:=by rw[qD9,zai];exact zD8
  have gD9_36:D9.tmps.getD 36 undef=vC:=by rw[qD9];exact (zaa (by decide)).trans gD8_36
  have gD9_33:D9.tmps.getD 33 undef=(.slice (some ⟨bK,0,none⟩) n cK):=by rw[qD9];exact (zaa (by decide)).trans gD8_33
  have gD9_10:D9.tmps.getD 10 undef=(.slice (some ⟨bK,0,none⟩) n cK):=by rw[qD9];exact (zaa (by decide)).trans gD8_10
  have gD9_34:D9.tmps.getD 34 undef=(.int .i64 i):=by rw[qD9];exact (zaa (by decide)).trans gD8_34
  have gD9_11:D9.tmps.getD 11 undef=(.int .i64 i):=by rw[qD9];exact (zaa (by decide)).trans gD8_11
  have gD9_9:D9.tmps.getD 9 undef=(.int .i64 k):=by rw[qD9];exact (zaa (by decide)).trans gD8_9
  have gD9_1:D9.tmps.getD 1 undef=(.slice (some ⟨bR,oR,none⟩) right.length cR):=by rw[qD9];exact (zaa (by decide)).trans gD8_1
  have gD9_37:D9.tmps.getD 37 undef=(.pointer (some ⟨bK,0+i,none⟩)):=by rw[qD9];exact (zaa (by decide)).trans gD8_37
  have gD9_38:D9.tmps.getD 38 undef=(.slice (some ⟨bK,0,none⟩) n cK):=by rw[qD9];exact (zaa (by decide)).trans gD8_38
  have gD9_39:D9.tmps.getD 39 undef=(.int .i64 i):=by rw[qD9];exact (zaa (by decide)).trans gD8_39
  have gD9_40:D9.tmps.getD 40 undef=(.pointer (some ⟨bK,0+i,none⟩)):=by rw[qD9];exact (zaa (by decide)).trans gD8_40
  have gD9_41:D9.tmps.getD 41 undef=vC:=by rw[qD9];exact (zaa (by decide)).trans gD8_41
  have gD9_42:D9.tmps.getD 42 undef=(.int .i64 k):=by rw[qD9];exact (zaa (by decide)).trans gD8_42
  have gD9_43:D9.tmps.getD 43 undef=(.slice (some ⟨bR,oR,none⟩) right.length cR):=by rw[qD9];exact (zaa (by decide)).trans gD8_43
  have gD9_44:D9.tmps.getD 44 undef=(.int .i64 i):=by rw[qD9];exact (zaa (by decide)).trans gD8_44
  have gD9_45:D9.tmps.getD 45 undef=(.pointer (some ⟨bR,oR+i,none⟩)):=by rw[qD9];exact (zaa (by decide)).trans gD8_45
  have gD9_46:D9.tmps.getD 46 undef=(.int .i64 (vI right i)):=by rw[qD9];exact zae (by rw[zD8];decide)
  change wpStill Tryz.prog _ _ _ _ (D8.put (some 46) (.int .i64 (vI right i)))
  rw[←qD9]
  refine zeL rfl (ia76 D9 wd _ (.tmp 41) (.tmp 42) rfl (gD9_41.trans hvC) gD9_42 hk) ?_
  obtain⟨D10,qD10⟩:∃x,x=D9.put (some 47) (.pointer (some ⟨bC,0+k,none⟩)):=⟨_,rfl⟩
  have zD10:D10.tmps.size=75:=by rw[qD10,zai];exact zD9
  have gD10_36:D10.tmps.getD 36 undef=vC:=by rw[qD10];exact (zaa (by decide)).trans gD9_36
  have gD10_33:D10.tmps.getD 33 undef=(.slice (some ⟨bK,0,none⟩) n cK):=by rw[qD10];exact (zaa (by decide)).trans gD9_33
  have gD10_10:D10.tmps.getD 10 undef=(.slice (some ⟨bK,0,none⟩) n cK):=by rw[qD10];exact (zaa (by decide)).trans gD9_10
  have gD10_34:D10.tmps.getD 34 undef=(.int .i64 i):=by rw[qD10];exact (zaa (by decide)).trans gD9_34
  have gD10_11:D10.tmps.getD 11 undef=(.int .i64 i):=by rw[qD10];exact (zaa (by decide)).trans gD9_11
  have gD10_9:D10.tmps.getD 9 undef=(.int .i64 k):=by rw[qD10];exact (zaa (by decide)).trans gD9_9
  have gD10_1:D10.tmps.getD 1 undef=(.slice (some ⟨bR,oR,none⟩) right.length cR):=by rw[qD10];exact (zaa (by decide)).trans gD9_1
  have gD10_37:D10.tmps.getD 37 undef=(.pointer (some ⟨bK,0+i,none⟩)):=by rw[qD10];exact (zaa (by decide)).trans gD9_37
  have gD10_38:D10.tmps.getD 38 undef=(.slice (some ⟨bK,0,none⟩) n cK):=by rw[qD10];exact (zaa (by decide)).trans gD9_38
  have gD10_39:D10.tmps.getD 39 undef=(.int .i64 i):=by rw[qD10];exact (zaa (by decide)).trans gD9_39
  have gD10_40:D10.tmps.getD 40 undef=(.pointer (some ⟨bK,0+i,none⟩)):=by rw[qD10];exact (zaa (by decide)).trans gD9_40
  have gD10_41:D10.tmps.getD 41 undef=vC:=by rw[qD10];exact (zaa (by decide)).trans gD9_41
  have gD10_42:D10.tmps.getD 42 undef=(.int .i64 k):=by rw[qD10];exact (zaa (by decide)).trans gD9_42
  have gD10_43:D10.tmps.getD 43 undef=(.slice (some ⟨bR,oR,none⟩) right.length cR):=by rw[qD10];exact (zaa (by decide)).trans gD9_43
  have gD10_44:D10.tmps.getD 44 undef=(.int .i64 i):=by rw[qD10];exact (zaa (by decide)).trans gD9_44
  have gD10_45:D10.tmps.getD 45 undef=(.pointer (some ⟨bR,oR+i,none⟩)):=by rw[qD10];exact (zaa (by decide)).trans gD9_45
  have gD10_46:D10.tmps.getD 46 undef=(.int .i64 (vI right i)):=by rw[qD10];exact (zaa (by decide)).trans gD9_46
  have gD10_47:D10.tmps.getD 47 undef=(.pointer (some ⟨bC,0+k,none⟩)):=by rw[qD10];exact zae (by rw[zD9];decide)
  change wpStill Tryz.prog _ _ _ _ (D9.put (some 47) (.pointer (some ⟨bC,0+k,none⟩)))
  rw[←qD10]
  refine wpStill_nil ?_
  refine znr (by intro d h;cases h) rfl (st3 D10 wd _ (.tmp 47) (.tmp 46) rfl gD10_47 gD10_46 dbC (by have:=r.sC;omega)) ?_
  change Q .normal D10 (wd.setRow bC (curC.set! (0+k) (.int .i64 (vI right i))))
  have hfin:RelS (EH M bs w0 true) 75 (stB 60010 m (xs.set i (row.set k (vI right i))) right outs den i k n) B9 wB10:=hB10.2
  have e:wd.setRow bC (curC.set! (0+k) (.int .i64 (vI right i))) = {wB10 with drawn:=wA2.drawn+1}:=by
    rw[hwd,hwB10,hwB8,hwA2,←zlq w r.ne]
    rfl
  refine hQ _ _ ?_
  rw[e]
  refine zoQ _ (zvf (ds:=[36,37,38,39,40,41,42,43,44,45,46,47]) hfin zD10 ?_ (fun t ht=>?_) (fun u s h=>zol h))
  · have l1:D10.defers=a.defers:=by rw[qD10,zag,qD9,zag,qD8,zag,qD7,zag,qD6,zag,qD5,zag,qD4,zag,qD3,zag,qD2,zag,qD1,zag,qA1,zag]
    have l2:B9.defers=a.defers:=by rw[qB9,zag,qB7,zag,qB6,zag,qB5,zag,qB4,zag,qB3,zag,qB2,zag,qB1,zag]
    rw[l1,l2]
  · simp only[List.mem_cons,List.not_mem_nil,or_false,not_or] at ht
    obtain⟨n36,n37,n38,n39,n40,n41,n42,n43,n44,n45,n46,n47⟩:=ht
    have l1:D10.tmps.getD t undef=a.tmps.getD t undef:=by rw[qD10,zaa n47,qD9,zaa n46,qD8,zaa n45,qD7,zaa n44,qD6,zaa n43,qD5,zaa n42,qD4,zaa n41,qD3,zaa n40,qD2,zaa n39,qD1,zaa n38,qA1,zaa n37]
    have l2:B9.tmps.getD t undef=a.tmps.getD t undef:=by rw[qB9,zaa n37,qB7,zaa n47,qB6,zaa n46,qB5,zaa n45,qB4,zaa n44,qB3,zaa n43,qB2,zaa n42,qB1,zaa n40]
    rw[l1,l2]
end Go.Eng.Ar
