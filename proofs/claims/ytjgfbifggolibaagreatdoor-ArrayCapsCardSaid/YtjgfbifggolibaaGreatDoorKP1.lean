/- Texts D2 D3 D4 D5 D6 LP1 LP2 LP3 LP4 LP5 W9, as far as they are used. Conditions: each lemma's own. -/
import Derived.Test.YtjgfbifggolibaaGreatDoorKM6
import Derived.WalkKit
namespace Go.Eng.Ar
open Go.Eng Go.Proofs
set_option linter.all false
set_option maxRecDepth 100000
set_option maxHeartbeats 8000000
abbrev pK (n:Nat):Prop:=n≤1000
def cmpI (n d m k:Int):Int:=if n*k<m*d then -1 else if m*d<n*k then 1 else 0
abbrev pCmp (n d m k:Int):Prop:=(-1000000000000000000≤n∧n≤1000000000000000000)∧(0<d∧d≤1000000000000000000)∧(-1000000000000000000≤m∧m≤1000000000000000000)∧0<k∧k≤1000000000000000000
theorem zeX {n d:Int} (hd:0<d):n - d<n / d*d∧n / d*d≤n∧n=n / d*d+n % d∧0≤n % d∧n % d<d:=by
  have h1:=Int.emod_nonneg n (show d≠0 by omega)
  have h2:=Int.emod_lt_of_pos n hd
  have h3:=Int.emod_def n d
  rw[Int.mul_comm] at h3
  omega
theorem zhy {n d m k:Int} (hd:0<d) (hk:0<k) (h:n / d<m / k):cmpI n d m k = -1:=by
  obtain⟨a1,a2,a3,a4,a5⟩:=zeX (n:=n) hd
  obtain⟨b1,b2,b3,b4,b5⟩:=zeX (n:=m) hk
  refine if_pos ?_
  have h1:n+1≤(m / k)*d:=by
    have:(n / d+1)*d≤(m / k)*d:=Int.mul_le_mul_of_nonneg_right (by omega) (by omega)
    rw[Int.add_mul,Int.one_mul] at this;omega
  have h2:(n+1)*k≤(m / k)*d*k:=Int.mul_le_mul_of_nonneg_right h1 (by omega)
  have h3:(m / k*k)*d≤m*d:=Int.mul_le_mul_of_nonneg_right b2 (by omega)
  have h4:(m / k)*d*k=(m / k*k)*d:=by rw[Int.mul_assoc,Int.mul_comm d k,←Int.mul_assoc]
  rw[Int.add_mul,Int.one_mul] at h2
  omega
theorem zlB (n d m k:Int):cmpI n d m k = -cmpI m k n d:=by
  unfold cmpI
  by_cases h1:n*k<m*d
  · rw[if_pos h1,if_neg (by omega),if_pos h1]
  · rw[if_neg h1]
    by_cases h2:m*d<n*k
    · rw[if_pos h2,if_pos h2];rfl
    · rw[if_neg h2,if_neg h2,if_neg h1];rfl
theorem zkq {n d m k:Int} (hd:0<d) (hk:0<k) (h:m / k<n / d):cmpI n d m k=1:=by
  rw[zlB,zhy hk hd h];rfl
theorem zek {n d m k p:Int}:cmpI n d m k=cmpI (n - p*d) d (m - p*k) k:=by
  have e1:(n - p*d)*k=n*k - p*d*k:=Int.sub_mul _ _ _
  have e2:(m - p*k)*d=m*d - p*d*k:=by rw[Int.sub_mul,Int.mul_assoc p k d,Int.mul_comm k d,←Int.mul_assoc]
  unfold cmpI
  rw[e1,e2]
  generalize n*k=a
  generalize m*d=b
  generalize p*d*k=c
  by_cases h1:a<b
  · rw[if_pos h1,if_pos (show a - c<b - c by omega)]
  · rw[if_neg h1,if_neg (show ¬a - c<b - c by omega)]
    by_cases h2:b<a
    · rw[if_pos h2,if_pos (show b - c<a - c by omega)]
    · rw[if_neg h2,if_neg (show ¬b - c<a - c by omega)]
theorem zlA {n d m k:Int}:cmpI k m d n=cmpI n d m k:=by
  unfold cmpI;rw[Int.mul_comm k n,Int.mul_comm d m]
theorem zsX {d k:Int}:cmpI 0 d 0 k=0:=by unfold cmpI;rw[Int.zero_mul,Int.zero_mul];rfl
theorem zw2 {d m k:Int} (hd:0<d) (hm:0<m):cmpI 0 d m k = -1:=by
  refine if_pos ?_;rw[Int.zero_mul];exact Int.mul_pos hm hd
theorem zw1 {n d k:Int} (hk:0<k) (hn:0<n):cmpI n d 0 k=1:=by
  unfold cmpI
  have:=Int.mul_pos hn hk
  rw[Int.zero_mul,if_neg (by omega),if_pos this]
@[reducible] def zf4:Spec:={pats:=[.dat I64,.dat I64,.dat I64,.dat I64],res:=[{t:=I64}],pre:=fun x=>pCmp x.1 x.2.1 x.2.2.1 x.2.2.2.1,f:=fun x=>(cmpI x.1 x.2.1 x.2.2.1 x.2.2.2.1,())}
def zsY (c:Int):LoopAnn:={σ:=Int×Int×Int×Int,pat:=fun s=>[sI 0 s.1,sI 1 s.2.1,sI 2 s.2.2.1,sI 3 s.2.2.2],inv:=fun s=>pCmp s.1 s.2.1 s.2.2.1 s.2.2.2∧cmpI s.1 s.2.1 s.2.2.1 s.2.2.2=c,meas:=fun s=>(s.2.1+s.2.2.2).toNat}
theorem h45:Ok 45 zf4:=by
  refine mk (ctr:=[(82,zin)]) ⟨h82,trivial⟩ (nt:=47) Tryz.func45 rfl rfl rfl rfl (by kernel_rfl) (by kernel_rfl) (fun x=>[fun _=>zsY (cmpI x.1 x.2.1 x.2.2.1 x.2.2.2.1)]) ?_
  rintro⟨(n0:Int),(d0:Int),(m0:Int),(k0:Int),⟨⟩⟩ (h:pCmp n0 d0 m0 k0)
  repeat' (intro hzz;(try (rename Two=>hq;cases hq));(try dsimp only at hzz);(try simp only[zad,zac,eqD,inR,big,zab,zB] at hzz);(try simp only[zad,zac,eqD,inR,big,zab,zB,zeY] at hzz);(try (revert hzz;intro _)))
  all_goals try (rename Unit=>hq;clear hq)
  all_goals try ((with_reducible refine Held.mk ?_);(with_reducible (first|refine Frz.mk ?_|refine And.intro (Frz.mk ?_) ?_|refine And.intro ?_ (Frz.mk ?_)));repeat' first|exact True.intro|(change _=_;with_reducible rfl)|refine And.intro ?_ ?_|(with_reducible refine Frz.mk ?_))
  all_goals try (refine Held.mk ?_;(try dsimp only at *);(try simp only[zad,zac,eqD,inR,big,zab,zB] at *);(try simp only[zad,zac,eqD,inR,big,zab,zB,zeY] at *))
  all_goals try omega
  ·
    refine zai.mk ?_
    refine Exists.intro (n0,d0,m0,k0) ?_
    refine And.intro (Leaf.mk ?_) ?_
    · repeat' first|exact True.intro|refine And.intro ?_ ?_
      all_goals try ((change _=_<;>try dsimp only)<;>try with_reducible rfl)
      all_goals try omega
    exact⟨h,rfl⟩
  · rename_i s hs h
    rw[←hs.2];exact (zhy hs.1.2.1.1 hs.1.2.2.2.1 h).symm
  · rename_i s hs h1 h
    rw[←hs.2];exact (zkq hs.1.2.1.1 hs.1.2.2.2.1 h).symm
  all_goals (try (rename_i s hs h1 h2;obtain⟨⟨q1,q2,q3,q4⟩,q5⟩:=hs;have f1:=zeX (n:=s.1) q2.1;have f2:=zeX (n:=s.2.2.1) q4.1;omega))
  · rename_i s hs h1 h2 h3 h4
    obtain⟨⟨q1,q2,q3,q4⟩,q5⟩:=hs
    rw[←q5,zek (p:=s.1 / s.2.1),h3,show s.1 / s.2.1=s.2.2.1 / s.2.2.2 from Int.le_antisymm h2 h1,h4];exact zsX.symm
  · rename_i s hs h1 h2 h3 h4 h5
    obtain⟨⟨q1,q2,q3,q4⟩,q5⟩:=hs
    have f2:=zeX (n:=s.2.2.1) q4.1
    rw[←q5,zek (p:=s.1 / s.2.1),h3,show s.1 / s.2.1=s.2.2.1 / s.2.2.2 from Int.le_antisymm h2 h1]
    exact (zw2 q2.1 (by omega)).symm
  · rename_i s hs h1 h2 h3 h4 h5
    obtain⟨⟨q1,q2,q3,q4⟩,q5⟩:=hs
    have f1:=zeX (n:=s.1) q2.1
    rw[←q5,zek (p:=s.2.2.1 / s.2.2.2),h5,←show s.1 / s.2.1=s.2.2.1 / s.2.2.2 from Int.le_antisymm h2 h1]
    exact (zw1 q4.1 (by omega)).symm
  · rename_i s hs h1 h2 h3 h3' h4
    obtain⟨⟨q1,q2,q3,q4⟩,q5⟩:=hs
    have f1:=zeX (n:=s.1) q2.1
    have f2:=zeX (n:=s.2.2.1) q4.1
    have P:pCmp s.2.2.2 (s.2.2.1 - s.2.2.1 / s.2.2.2*s.2.2.2) s.2.1 (s.1 - s.1 / s.2.1*s.2.1):=⟨⟨by omega,by omega⟩,⟨by omega,by omega⟩,⟨by omega,by omega⟩,by omega,by omega⟩
    refine zai.mk ?_
    refine Exists.intro (s.2.2.2,s.2.2.1 - s.2.2.1 / s.2.2.2*s.2.2.2,s.2.1,s.1 - s.1 / s.2.1*s.2.1) ?_
    refine And.intro (Leaf.mk ?_) ?_
    · repeat' first|exact True.intro|refine And.intro ?_ ?_
      all_goals try ((change _=_<;>try dsimp only)<;>try with_reducible rfl)
      all_goals try omega
    refine⟨⟨P,?_⟩,?_⟩
    · show cmpI s.2.2.2 (s.2.2.1 - s.2.2.1 / s.2.2.2*s.2.2.2) s.2.1 (s.1 - s.1 / s.2.1*s.2.1)=_
      rw[zlA,←q5,zek (n:=s.1) (p:=s.1 / s.2.1),show s.1 / s.2.1=s.2.2.1 / s.2.2.2 from Int.le_antisymm h2 h1]
    · show (s.2.2.1 - s.2.2.1 / s.2.2.2*s.2.2.2+(s.1 - s.1 / s.2.1*s.2.1)).toNat<(s.2.1+s.2.2.2).toNat
      omega
theorem zkE {a b:Int}:∃g:Int,0≤g∧gcd2 a b=g∧a=Int.tdiv a g*g∧b=Int.tdiv b g*g:=by
  refine⟨gcd2 a b,Int.natCast_nonneg _,rfl,?_,?_⟩
  · exact (Int.tdiv_mul_cancel (Int.ofNat_dvd_left.2 (Nat.gcd_dvd_left _ _))).symm
  · exact (Int.tdiv_mul_cancel (Int.ofNat_dvd_left.2 (Nat.gcd_dvd_right _ _))).symm
@[reducible] def zq4:Spec:={pats:=[.dat I64],res:=[{t:=I64}],pre:=fun x=>(x.1:Int).natAbs≤9000000000000000000,f:=fun x=>(((x.1:Int).natAbs:Int),())}
theorem h152:Ok 152 zq4:=by
  refine mk (ctr:=[]) trivial (nt:=7) Tryz.func152 rfl rfl rfl rfl (by kernel_rfl) (by kernel_rfl) (fun _=>[]) ?_
  rintro⟨(n:Int),⟨⟩⟩ (h:n.natAbs≤9000000000000000000)
  repeat' (intro hzz;(try (rename Two=>hq;cases hq));(try dsimp only at hzz);(try simp only[zad,zac,eqD,inR,big,zab,zB] at hzz);(try (revert hzz;intro _)))
  all_goals try (rename Unit=>hq;clear hq)
  all_goals try ((with_reducible refine Held.mk ?_);(with_reducible (first|refine Frz.mk ?_|refine And.intro (Frz.mk ?_) ?_|refine And.intro ?_ (Frz.mk ?_)));repeat' first|exact True.intro|(change _=_;with_reducible rfl)|refine And.intro ?_ ?_|(with_reducible refine Frz.mk ?_))
  all_goals try (refine Held.mk ?_;(try dsimp only at *);(try simp only[zad,zac,eqD,inR,big,zab,zB] at *))
  all_goals try omega
  · simp only[cond_true];split<;>omega
@[reducible] def sGcd:Spec:={pats:=[.dat I64,.dat I64],res:=[{t:=I64}],pre:=fun x=>(x.1:Int).natAbs≤9000000000000000000∧(x.2.1:Int).natAbs≤9000000000000000000,f:=fun x=>(gcd2 x.1 x.2.1,())}
def zsA (a b:Int):LoopAnn:={σ:=Int×Int,pat:=fun s=>[sI 0 s.1,sI 1 s.2],inv:=fun s=>Nat.gcd s.1.natAbs s.2.natAbs=Nat.gcd a.natAbs b.natAbs∧s.1.natAbs≤9000000000000000000∧s.2.natAbs≤9000000000000000000,meas:=fun s=>s.2.natAbs}
theorem h167:Ok 167 sGcd:=by
  refine mk (ctr:=[(152,zq4)]) ⟨h152,trivial⟩ (nt:=13) Tryz.func167 rfl rfl rfl rfl (by kernel_rfl) (by kernel_rfl) (fun x=>[fun _=>zsA x.1 x.2.1]) ?_
  rintro⟨(a:Int),(b:Int),⟨⟩⟩ ⟨(h1:a.natAbs≤9000000000000000000),(h2:b.natAbs≤9000000000000000000)⟩
  repeat' (intro hzz;(try (rename Two=>hq;cases hq));(try dsimp only at hzz);(try simp only[zad,zac,eqD,inR,big,zab,zB] at hzz);(try (revert hzz;intro _)))
  all_goals try (rename Unit=>hq;clear hq)
  all_goals try ((with_reducible refine Held.mk ?_);(with_reducible (first|refine Frz.mk ?_|refine And.intro (Frz.mk ?_) ?_|refine And.intro ?_ (Frz.mk ?_)));repeat' first|exact True.intro|(change _=_;with_reducible rfl)|refine And.intro ?_ ?_|(with_reducible refine Frz.mk ?_))
  all_goals try (refine Held.mk ?_;(try dsimp only at *);(try simp only[zad,zac,eqD,inR,big,zab,zB] at *))
  all_goals try omega
  ·
    refine zai.mk ?_
    refine Exists.intro (a,b) ?_
    refine And.intro (Leaf.mk ?_) ?_
    · repeat' first|exact True.intro|refine And.intro ?_ ?_
      all_goals try ((change _=_<;>try dsimp only)<;>try with_reducible rfl)
      all_goals try omega
    exact⟨rfl,h1,h2⟩
  · rename_i s hs hn
    refine zai.mk ?_
    refine Exists.intro (s.2,s.1.tmod s.2) ?_
    refine And.intro (Leaf.mk ?_) ?_
    · repeat' first|exact True.intro|refine And.intro ?_ ?_
      all_goals try ((change _=_<;>try dsimp only)<;>try with_reducible rfl)
      all_goals try omega
    refine⟨⟨?_,hs.2.2,?_⟩,?_⟩
    · refine Eq.trans ?_ hs.1
      show Nat.gcd s.2.natAbs (s.1.tmod s.2).natAbs=_
      rw[Int.natAbs_tmod,Nat.gcd_comm,←Nat.gcd_rec,Nat.gcd_comm]
    · show (s.1.tmod s.2).natAbs≤_
      rw[Int.natAbs_tmod]
      exact Nat.le_trans (Nat.mod_le _ _) hs.2.1
    · show (s.1.tmod s.2).natAbs<s.2.natAbs
      rw[Int.natAbs_tmod]
      exact Nat.mod_lt _ (Nat.pos_of_ne_zero (fun h=>hn (Int.natAbs_eq_zero.1 h)))
  · rename_i s hs hn
    have e:=hs.1
    have hn:s.2=0:=hn
    rw[hn] at e
    have e:s.1.natAbs=Nat.gcd a.natAbs b.natAbs:=by simpa using e
    unfold gcd2;rw[←e]
abbrev zwf (a b:Int):Prop:=a.natAbs≤9000000000000000000∧b.natAbs≤9000000000000000000∧0<b
@[reducible] def zjw:Spec:={pats:=[.dat I64,.dat I64],res:=[{t:=zaD}],pre:=fun x=>zwf x.1 x.2.1,f:=fun x=>((Int.tdiv x.1 (gcd2 x.1 x.2.1),Int.tdiv x.2.1 (gcd2 x.1 x.2.1),()),())}
theorem zgo {a b:Int} (h:0<b):0<gcd2 a b:=by
  unfold gcd2
  have:Nat.gcd a.natAbs b.natAbs≠0:=fun e=>by have:=(Nat.gcd_eq_zero_iff.1 e).2;omega
  omega
theorem h150:Ok 150 zjw:=by
  refine mk (ctr:=[(167,sGcd)]) ⟨h167,trivial⟩ (nt:=20) Tryz.func150 rfl rfl rfl rfl (by kernel_rfl) (by kernel_rfl) (fun _=>[]) ?_
  rintro⟨(a:Int),(b:Int),⟨⟩⟩ ⟨(h1:a.natAbs≤9000000000000000000),(h2:b.natAbs≤9000000000000000000),(h3:0<b)⟩
  have hg:=zgo (a:=a) h3
  have t1:=zlS (b:=gcd2 a b) h1
  have t2:=zlS (b:=gcd2 a b) h2
  repeat' (intro hzz;(try (rename Two=>hq;cases hq));(try dsimp only at hzz);(try simp only[zad,zac,eqD,inR,big,zab,zB] at hzz);(try (revert hzz;intro _)))
  all_goals try (rename Unit=>hq;clear hq)
  all_goals try ((with_reducible refine Held.mk ?_);(with_reducible (first|refine Frz.mk ?_|refine And.intro (Frz.mk ?_) ?_|refine And.intro ?_ (Frz.mk ?_)));repeat' first|exact True.intro|(change _=_;with_reducible rfl)|refine And.intro ?_ ?_|(with_reducible refine Frz.mk ?_))
  all_goals try (refine Held.mk ?_;(try dsimp only at *);(try simp only[zad,zac,eqD,inR,big,zab,zB] at *))
  all_goals try omega
theorem h116:Ok 116 zjw:=by
  refine mk (ctr:=[(150,zjw)]) ⟨h150,trivial⟩ (nt:=14) Tryz.func116 rfl rfl rfl rfl (by kernel_rfl) (by kernel_rfl) (fun _=>[]) ?_
  rintro⟨(a:Int),(b:Int),⟨⟩⟩ ⟨(h1:a.natAbs≤9000000000000000000),(h2:b.natAbs≤9000000000000000000),(h3:0<b)⟩
  repeat' (intro hzz;(try (rename Two=>hq;cases hq));(try dsimp only at hzz);(try simp only[zad,zac,eqD,inR,big,zab,zB] at hzz);(try (revert hzz;intro _)))
  all_goals try (rename Unit=>hq;clear hq)
  all_goals try ((with_reducible refine Held.mk ?_);(with_reducible (first|refine Frz.mk ?_|refine And.intro (Frz.mk ?_) ?_|refine And.intro ?_ (Frz.mk ?_)));repeat' first|exact True.intro|(change _=_;with_reducible rfl)|refine And.intro ?_ ?_|(with_reducible refine Frz.mk ?_))
  all_goals try (refine Held.mk ?_;(try dsimp only at *);(try simp only[zad,zac,eqD,inR,big,zab,zB] at *))
  all_goals try omega
@[reducible] def zhn:Spec:={pats:=[.dat (.sl I64)],res:=[{t:=.sl I64}],pre:=fun x=>pK (List.length (α:=Int) x.1),f:=fun x=>(x.1,())}
theorem h109:Ok 109 zhn:=by
  refine mk (ctr:=[]) trivial (nt:=6) Tryz.func109 rfl rfl rfl rfl (by kernel_rfl) (by kernel_rfl) (fun _=>[]) ?_
  rintro⟨(l:List Int),⟨⟩⟩ (hp:l.length≤1000)
  repeat' (intro hzz;(try (rename Two=>hq;cases hq));(try dsimp only at hzz);(try simp only[zad,zac,eqD,inR,big,zab,zB] at hzz);(try (revert hzz;intro _)))
  all_goals try (rename Unit=>hq;clear hq)
  all_goals try ((with_reducible refine Held.mk ?_);(with_reducible (first|refine Frz.mk ?_|refine And.intro (Frz.mk ?_) ?_|refine And.intro ?_ (Frz.mk ?_)));repeat' first|exact True.intro|(change _=_;with_reducible rfl)|refine And.intro ?_ ?_|(with_reducible refine Frz.mk ?_))
  all_goals try (refine Held.mk ?_;(try dsimp only at *);(try simp only[zad,zac,eqD,inR,big,zab,zB] at *))
  · show 0+l.length≤2147483648;omega
  · rfl
abbrev zeO (l:List (List Int)):Prop:=pK l.length∧∀i,i<l.length→pK (rowN l i).length
@[reducible] def zme:Spec:={pats:=[.dat MatT],res:=[{t:=MatT}],pre:=fun x=>zeO x.1,f:=fun x=>(x.1,())}
theorem h103:Ok 103 zme:=by
  refine mk (ctr:=[(109,zhn)]) ⟨h109,trivial⟩ (nt:=20) Tryz.func103 rfl rfl rfl rfl (by kernel_rfl) (by kernel_rfl) (fun x=>[fun _=>{σ:=Nat,pat:=fun k=>sI 4 k::zra 3 60003 76 (tab (rowN x.1) k),inv:=fun k=>k≤List.length (α:=List Int) x.1,meas:=fun k=>List.length (α:=List Int) x.1 - k}]) ?_
  rintro⟨(l:List (List Int)),⟨⟩⟩ ⟨(hp:l.length≤1000),(hr:∀i,i<l.length→(rowN l i).length≤1000)⟩
  repeat' (intro hzz;(try (rename Two=>hq;cases hq));(try dsimp only at hzz);(try simp only[zad,zac,eqD,inR,big,zab,zB] at hzz);(try simp only[zad,zac,eqD,inR,big,zab,zB,za7,Int.toNat_natCast,zam] at hzz);(try (revert hzz;intro _)))
  all_goals try (rename Unit=>hq;clear hq)
  all_goals try ((with_reducible refine Held.mk ?_);(with_reducible (first|refine Frz.mk ?_|refine And.intro (Frz.mk ?_) ?_|refine And.intro ?_ (Frz.mk ?_)));repeat' first|exact True.intro|(change _=_;with_reducible rfl)|refine And.intro ?_ ?_|(with_reducible refine Frz.mk ?_))
  all_goals try (refine Held.mk ?_;(try dsimp only at *);(try simp only[zad,zac,eqD,inR,big,zab,zB] at *);(try simp only[zad,zac,eqD,inR,big,zab,zB,za7,Int.toNat_natCast,zam] at *))
  all_goals try omega
  ·
    refine zai.mk ?_
    refine Exists.intro (0:Nat) ?_
    refine And.intro (Leaf.mk ?_) ?_
    · repeat' first|exact True.intro|refine And.intro ?_ ?_
      all_goals try ((change _=_<;>try dsimp only)<;>try with_reducible rfl)
      all_goals try omega
      all_goals (rfl)
    exact Nat.zero_le _
  · rename_i k hk hlt
    exact hr k (by omega)
  · rename_i k hk hlt
    show k+1≤2147483648;omega
  · rename_i k hk hlt
    refine zai.mk ?_
    refine Exists.intro (k+1) ?_
    refine And.intro (Leaf.mk ?_) ?_
    · repeat' first|exact True.intro|refine And.intro ?_ ?_
      all_goals try ((change _=_<;>try dsimp only)<;>try with_reducible rfl)
      all_goals try omega
      all_goals (rfl)
    exact⟨(show k+1≤l.length by omega),(show l.length - (k+1)<l.length - k by omega)⟩
  · rename_i k hk hlt
    rw[show k=l.length by omega];exact (zk8 [] l).symm
@[reducible] def zmc:Spec:={pats:=[.dat zeq],res:=[{t:=zeq}],pre:=fun x=>zeO x.1.1,f:=fun x=>(x.1,())}
theorem h42:Ok 42 zmc:=by
  refine mk (ctr:=[(103,zme)]) ⟨h103,trivial⟩ (nt:=8) Tryz.func42 rfl rfl rfl rfl (by kernel_rfl) (by kernel_rfl) (fun _=>[]) ?_
  rintro⟨⟨(t:List (List Int)),(cap:Int),⟨⟩⟩,⟨⟩⟩ (h:zeO t)
  repeat' (intro hzz;(try (rename Two=>hq;cases hq));(try dsimp only at hzz);(try simp only[zad,zac,eqD,inR,big,zab,zB] at hzz);(try (revert hzz;intro _)))
  all_goals try (rename Unit=>hq;clear hq)
  all_goals try ((with_reducible refine Held.mk ?_);(with_reducible (first|refine Frz.mk ?_|refine And.intro (Frz.mk ?_) ?_|refine And.intro ?_ (Frz.mk ?_)));repeat' first|exact True.intro|(change _=_;with_reducible rfl)|refine And.intro ?_ ?_|(with_reducible refine Frz.mk ?_))
  all_goals try (refine Held.mk ?_;(try dsimp only at *);(try simp only[zad,zac,eqD,inR,big,zab,zB] at *))
  · exact h
@[reducible] def zmd:Spec:={pats:=[.dat zhN],res:=[{t:=zhN}],pre:=fun x=>pK (List.length (α:=Int) x.1.2.1),f:=fun x=>(x.1,())}
theorem h44:Ok 44 zmd:=by
  refine mk (ctr:=[(109,zhn)]) ⟨h109,trivial⟩ (nt:=8) Tryz.func44 rfl rfl rfl rfl (by kernel_rfl) (by kernel_rfl) (fun _=>[]) ?_
  rintro⟨⟨(d:Int),(l:List Int),⟨⟩⟩,⟨⟩⟩ (h:pK l.length)
  repeat' (intro hzz;(try (rename Two=>hq;cases hq));(try dsimp only at hzz);(try simp only[zad,zac,eqD,inR,big,zab,zB] at hzz);(try (revert hzz;intro _)))
  all_goals try (rename Unit=>hq;clear hq)
  all_goals try ((with_reducible refine Held.mk ?_);(with_reducible (first|refine Frz.mk ?_|refine And.intro (Frz.mk ?_) ?_|refine And.intro ?_ (Frz.mk ?_)));repeat' first|exact True.intro|(change _=_;with_reducible rfl)|refine And.intro ?_ ?_|(with_reducible refine Frz.mk ?_))
  all_goals try (refine Held.mk ?_;(try dsimp only at *);(try simp only[zad,zac,eqD,inR,big,zab,zB] at *))
  · exact h
def zcF (t:List (List Int)):Nat→Bool
  | 0=>true
  | k+1=>zcF t k&&decide ((rowN t k).length≤5)
theorem zeL {t:List (List Int)} {k:Nat} (h:5<(rowN t k).length):∀n,k<n→zcF t n=false
  | 0,hk=>absurd hk (Nat.not_lt_zero _)
  | n+1,hk=>by
    simp only[zcF]
    by_cases e:k=n
    · subst e;rw[decide_eq_false (by omega),Bool.and_false]
    · rw[zeL h n (by omega),Bool.false_and]
theorem zdI {t:List (List Int)}:∀ {n:Nat},zcF t n=true→∀k,k<n→(rowN t k).length≤5
  | n+1,h,k,hk=>by
    simp only[zcF,Bool.and_eq_true] at h
    by_cases e:k=n
    · subst e;exact of_decide_eq_true h.2
    · exact zdI h.1 k (by omega)
def smT (t:List (List Int)):Bool:=decide (t.length≤6)&&zcF t t.length
@[reducible] def zil:Spec:={pats:=[.dat zeq],res:=[{t:=.bool}],pre:=fun _=>True,f:=fun x=>(smT x.1.1,())}
theorem h40:Ok 40 zil:=by
  refine mk (ctr:=[]) trivial (nt:=22) Tryz.func40 rfl rfl rfl rfl (by kernel_rfl) (by kernel_rfl) (fun x=>[fun _=>{σ:=Nat,pat:=fun k=>[sI 3 k],inv:=fun k=>k≤List.length (α:=List Int) x.1.1∧zcF x.1.1 k=true,meas:=fun k=>List.length (α:=List Int) x.1.1 - k}]) ?_
  rintro⟨⟨(t:List (List Int)),(cap:Int),⟨⟩⟩,⟨⟩⟩ _
  repeat' (intro hzz;(try (rename Two=>hq;cases hq));(try dsimp only at hzz);(try simp only[zad,zac,eqD,inR,big,zab,zB] at hzz);(try simp only[zad,zac,eqD,inR,big,zab,zB,za7,Int.toNat_natCast] at hzz);(try (revert hzz;intro _)))
  all_goals try (rename Unit=>hq;clear hq)
  all_goals try ((with_reducible refine Held.mk ?_);(with_reducible (first|refine Frz.mk ?_|refine And.intro (Frz.mk ?_) ?_|refine And.intro ?_ (Frz.mk ?_)));repeat' first|exact True.intro|(change _=_;with_reducible rfl)|refine And.intro ?_ ?_|(with_reducible refine Frz.mk ?_))
  all_goals try (refine Held.mk ?_;(try dsimp only at *);(try simp only[zad,zac,eqD,inR,big,zab,zB] at *);(try simp only[zad,zac,eqD,inR,big,zab,zB,za7,Int.toNat_natCast] at *))
  all_goals try omega
  · rename_i h
    unfold smT;rw[decide_eq_false (by omega)];rfl
  · rename_i h
    refine zai.mk ?_
    refine Exists.intro (0:Nat) ?_
    refine And.intro (Leaf.mk ?_) ?_
    · repeat' first|exact True.intro|refine And.intro ?_ ?_
      all_goals try ((change _=_<;>try dsimp only)<;>try with_reducible rfl)
      all_goals try omega
      all_goals (rfl)
    exact⟨Nat.zero_le _,rfl⟩
  · rename_i h k hk hlt h5
    have h5:(5:Int)<((rowN t k).length:Int):=h5
    unfold smT;rw[zeL (k:=k) (by omega) _ (by omega),Bool.and_false]
  · rename_i h k hk hlt h5
    have h5:((rowN t k).length:Int)≤5:=h5
    refine zai.mk ?_
    refine Exists.intro (k+1) ?_
    refine And.intro (Leaf.mk ?_) ?_
    · repeat' first|exact True.intro|refine And.intro ?_ ?_
      all_goals try ((change _=_<;>try dsimp only)<;>try with_reducible rfl)
      all_goals try omega
      all_goals (rfl)
    exact⟨⟨(show k+1≤t.length by omega),(show (zcF t k&&decide ((rowN t k).length≤5))=true by rw[hk.2,decide_eq_true (by omega)];rfl)⟩,(show t.length - (k+1)<t.length - k by omega)⟩
  · rename_i h k hk hlt
    have e:=hk.2
    rw[show k=t.length by omega] at e
    unfold smT;rw[e,decide_eq_true (by omega)];rfl
end Go.Eng.Ar
namespace Go.Eng.Ar
open Go.Eng Go.Proofs
set_option linter.all false
set_option maxRecDepth 100000
set_option maxHeartbeats 8000000
/-! ### The reference's tasks -/
theorem zh2 {l:List Int} {m:Int} {k:Nat} (hk:k<l.length) (h:¬(0≤vI l k∧vI l k≤m)):allE l m=2:=by
  unfold allE
  rw[if_pos]
  refine List.any_eq_true.2 ⟨vI l k,zhj hk,?_⟩
  simp only[outM];rw[show zal (vI l k) 0 m=false from decide_eq_false h];rfl
theorem zdz {l:List Int} {m:Int} (h:∀i,i<l.length→0≤vI l i∧vI l i≤m):allE l m=0:=by
  unfold allE
  rw[if_neg]
  intro ha
  obtain⟨x,hx,h2⟩:=List.any_eq_true.1 ha
  obtain⟨i,hi,rfl⟩:=zmB hx
  have:=h i hi
  simp only[outM] at h2
  rw[show zal (vI l i) 0 m=true from decide_eq_true this] at h2
  cases h2
theorem zfm {l:List Int} {m:Int}:allE l m=0∨allE l m=2:=by unfold allE;split<;>simp
def zfn (l:List Int) (m:Int):Bool:=decide (allE l m=0)
@[reducible] def sWi:Spec:={pats:=[.dat (.sl I64),.dat I64],res:=[{t:=.bool}],pre:=fun x=>pLen (List.length (α:=Int) x.1),f:=fun x=>(zfn x.1 x.2.1,())}
theorem h115:Ok 115 sWi:=by
  refine mk (ctr:=[(29,zbi)]) ⟨h29,trivial⟩ (nt:=19) Tryz.func115 rfl rfl rfl rfl (by kernel_rfl) (by kernel_rfl) (fun x=>[fun _=>{σ:=Nat,pat:=fun k=>[sI 5 k],inv:=fun k=>k≤List.length (α:=Int) x.1∧∀j,j<k→0≤vI x.1 j∧vI x.1 j≤x.2.1,meas:=fun k=>List.length (α:=Int) x.1 - k}]) ?_
  rintro⟨(l:List Int),(m:Int),⟨⟩⟩ (hp:pLen l.length)
  have hp':=hp.out
  repeat' (intro hzz;(try (rename Two=>hq;cases hq));(try dsimp only at hzz);(try simp only[zad,zac,eqD,inR,big,zab,zB] at hzz);(try simp only[zad,zac,eqD,inR,big,zab,zB,zaz,zal,Int.toNat_natCast] at hzz);(try (revert hzz;intro _)))
  all_goals try (rename Unit=>hq;clear hq)
  all_goals try ((with_reducible refine Held.mk ?_);(with_reducible (first|refine Frz.mk ?_|refine And.intro (Frz.mk ?_) ?_|refine And.intro ?_ (Frz.mk ?_)));repeat' first|exact True.intro|(change _=_;with_reducible rfl)|refine And.intro ?_ ?_|(with_reducible refine Frz.mk ?_))
  all_goals try (refine Held.mk ?_;(try dsimp only at *);(try simp only[zad,zac,eqD,inR,big,zab,zB] at *);(try simp only[zad,zac,eqD,inR,big,zab,zB,zaz,zal,Int.toNat_natCast] at *))
  all_goals try omega
  ·
    refine zai.mk ?_
    refine Exists.intro (0:Nat) ?_
    refine And.intro (Leaf.mk ?_) ?_
    · repeat' first|exact True.intro|refine And.intro ?_ ?_
      all_goals try ((change _=_<;>try dsimp only)<;>try with_reducible rfl)
      all_goals try omega
      all_goals (rfl)
    exact⟨Nat.zero_le _,fun j hj=>absurd hj (Nat.not_lt_zero _)⟩
  · rename_i k hk hlt hn
    unfold zfn;rw[zh2 (k:=k) (by omega) hn];rfl
  · rename_i k hk hlt hn
    refine zai.mk ?_
    refine Exists.intro (k+1) ?_
    refine And.intro (Leaf.mk ?_) ?_
    · repeat' first|exact True.intro|refine And.intro ?_ ?_
      all_goals try ((change _=_<;>try dsimp only)<;>try with_reducible rfl)
      all_goals try omega
      all_goals (rfl)
    refine⟨⟨(show k+1≤l.length by omega),fun i hi=>?_⟩,(show l.length - (k+1)<l.length - k by omega)⟩
    by_cases e:i=k
    · subst e;exact hn
    · exact hk.2 i (by omega)
  · rename_i k hk hlt
    unfold zfn;rw[zdz fun i hi=>hk.2 i (by omega)];rfl
def gets (t:List (List Int)) (l:List Int) (k:Nat):List Int:=tab (fun i=>dotI (rowN t i) l) k
theorem zbf {t l k}:(gets t l k).length=k:=zam _ _
theorem zbt {t:List (List Int)} {l:List Int} {k i:Nat} (h:i<k):vI (gets t l k) i=dotI (rowN t i) l:=zaE (fun i=>dotI (rowN t i) l) 0 k i h
def opE0 (n:Nat) (d:Int) (l:List Int):Int:=if 1≤d∧d≤1000000000000 then (if l.length=n then allE l d else 10) else 2
def opE (t:List (List Int)) (cap d:Int) (l:List Int):Int:=if opE0 (ncol t) d l=0 then (if cap*d<mx (gets t l t.length) (t.length - 1) then 24 else 0) else opE0 (ncol t) d l
def lowP (a b:Int):zaD.Den:=(Int.tdiv a (gcd2 a b),Int.tdiv b (gcd2 a b),())
def opV (t:List (List Int)) (d:Int) (l:List Int):zaD.Den:=lowP (mn (gets t l t.length) (t.length - 1)) d
def opR (t:List (List Int)) (cap d:Int) (l:List Int):zaD.Den×Int×Unit:=if opE t cap d l=0 then (opV t d l,0,()) else ((0,0,()),opE t cap d l,())
def opRA (t:List (List Int)) (cap d:Int) (l:List Int):zaD.Den×Int×Unit:=if chkT t cap=0 then opR t cap d l else ((0,0,()),chkT t cap,())
@[reducible] def zgM:Spec:={pats:=[.dat zeq,.dat zhN],res:=[{t:=zaD},{t:=I64}],pre:=fun x=>pLen (List.length (α:=Int) x.2.1.2.1),f:=fun x=>opRA x.1.1 x.1.2.1 x.2.1.1 x.2.1.2.1}
theorem zb0 {n:Nat} {d:Int} {l:List Int} (h:opE0 n d l=0):(1≤d∧d≤1000000000000)∧l.length=n∧∀i,i<l.length→0≤vI l i∧vI l i≤d:=by
  unfold opE0 at h
  split at h
  · rename_i h1
    split at h
    · rename_i h2;exact⟨h1,h2,zep h⟩
    · cases h
  · cases h
theorem zjA {t:List (List Int)} {cap d:Int} {l:List Int} (h:opE t cap d l=0):opE0 (ncol t) d l=0∧mx (gets t l t.length) (t.length - 1)≤cap*d:=by
  unfold opE at h
  split at h
  · rename_i h1
    split at h
    · cases h
    · rename_i h2;exact⟨h1,by omega⟩
  · rename_i h1;exact absurd h h1
theorem zeI {f:Nat→Int} {B:Int}:∀k:Nat,(∀i,i<k→0≤f i∧f i≤B)→0≤sm f k∧sm f k≤(k:Int)*B
  | 0,_=>⟨Int.le_refl _,by simp[sm]⟩
  | k+1,h=>by
    have h1:=zeI k fun i hi=>h i (by omega)
    have h2:=h k (by omega)
    have e:(((k+1:Nat):Int)*B)=(k:Int)*B+B:=by rw[Int.natCast_add,Int.add_mul];simp
    rw[e]
    show 0≤sm f k+f k∧sm f k+f k≤_
    omega
theorem zb1 {a b A B:Int} (h1:0≤a∧a≤A) (h2:0≤b∧b≤B):0≤a*b∧a*b≤A*B:=⟨Int.mul_nonneg h1.1 h2.1,Int.mul_le_mul h1.2 h2.2 h2.1 (Int.le_trans h1.1 h1.2)⟩
theorem zfA {t:List (List Int)} {cap d:Int} {l:List Int} (hg:goodT t cap) (h:opE0 (ncol t) d l=0) {i:Nat} (hi:i<t.length):(0≤dotI (rowN t i) l∧dotI (rowN t i) l≤300000000000000)∧pDot (rowN t i) l∧∀k,k≤ncol t→0≤sm (fun j=>vI (rowN t i) j*vI l j) k∧sm (fun j=>vI (rowN t i) j*vI l j) k≤300000000000000:=by
  obtain⟨h1,h2,h3⟩:=zb0 h
  have hr:=hg.rows i hi
  have hc:=hg.cle
  have hb:∀j,j<ncol t→0≤vI (rowN t i) j*vI l j∧vI (rowN t i) j*vI l j≤100000000000000:=fun j hj=>by
    have q1:=hg.vals i j hi hj
    have q2:=h3 j (by omega)
    have:=zb1 q1 (show 0≤vI l j∧vI l j≤1000000000000 by omega)
    omega
  have hs:∀k,k≤ncol t→0≤sm (fun j=>vI (rowN t i) j*vI l j) k∧sm (fun j=>vI (rowN t i) j*vI l j) k≤300000000000000:=fun k hk=>by
    have:=zeI (f:=fun j=>vI (rowN t i) j*vI l j) (B:=100000000000000) k fun j hj=>hb j (by omega)
    omega
  refine⟨?_,⟨by omega,by omega,fun j hj=>?_⟩,hs⟩
  · unfold dotI;rw[hr];exact hs _ (Nat.le_refl _)
  · have:=hb j (by omega);omega
theorem zmy {xs : List Int} {c:Int}:∀ {k:Nat},mx xs k≤c↔∀i,i≤k→vI xs i≤c
  | 0 => ⟨fun h i hi => by obtain rfl:i=0:=by omega
                           exact h,fun h=>h 0 (Nat.le_refl _)⟩
  | k + 1=>by
    have ih:=zmy (xs:=xs) (c:=c) (k:=k)
    simp only[mx]
    constructor
    · intro h i hi
      split at h
      · rename_i h1
        by_cases e:i=k+1
        · subst e;exact h
        · exact ih.1 (by omega) i (by omega)
      · rename_i h1
        by_cases e:i=k+1
        · subst e;show xs.getD (k+1) 0≤c;omega
        · exact ih.1 h i (by omega)
    · intro h
      split
      · exact h (k+1) (Nat.le_refl _)
      · exact ih.2 fun i hi=>h i (by omega)
theorem za0 {xs:List Int} {A B:Int}:∀ {k:Nat},(∀i,i≤k→A≤vI xs i∧vI xs i≤B)→A≤mn xs k∧mn xs k≤B
  | 0,h=>h 0 (Nat.le_refl _)
  | k+1,h=>by
    have ih:=za0 (xs:=xs) (k:=k) fun i hi=>h i (by omega)
    have:=h (k+1) (Nat.le_refl _)
    simp only[mn];split
    · exact this
    · exact ih
theorem zaI {n:Nat} {d:Int} {l:List Int}:za8 [bif zal d 1 1000000000000 then 0 else 2,bif decide ((l.length:Int)=(n:Int)) then 0 else 10,allE l d]=opE0 n d l:=by
  simp only[za8,opE0]
  by_cases h1:1≤d∧d≤1000000000000
  · rw [if_pos h1,show zal d 1 1000000000000=true from decide_eq_true h1]
    show (if (0:Int)=0 then _ else _)=_
    rw[if_pos rfl]
    by_cases h2:l.length=n
    · rw[if_pos h2,decide_eq_true (show (l.length:Int)=(n:Int) by omega)]
      show (if (0:Int)=0 then _ else _)=_
      rw[if_pos rfl]
      split
      · rename_i h;exact h.symm
      · rfl
    · rw[if_neg h2,decide_eq_false (show ¬(l.length:Int)=(n:Int) by omega)];rfl
  · rw[if_neg h1,show zal d 1 1000000000000=false from decide_eq_false h1];rfl
def zw0 (t:List (List Int)) (l:List Int):LoopAnn:={σ:=Nat,pat:=fun k=>sI 45 k::sOwn 8 60008 3 (gets t l k),inv:=fun k=>k≤t.length,meas:=fun k=>t.length - k}
theorem zrG {t:List (List Int)} {cap d:Int} {l:List Int} (h:¬chkT t cap=0):opRA t cap d l=((0,0,()),chkT t cap,()):=if_neg h
theorem zp7 {t:List (List Int)} {cap d:Int} {l:List Int} (h:¬opE0 (ncol t) d l=0):opR t cap d l=((0,0,()),opE0 (ncol t) d l,()):=by
  have e:opE t cap d l=opE0 (ncol t) d l:=if_neg h
  unfold opR;rw[e,if_neg h]
theorem zt4 {t:List (List Int)} {cap d:Int} {l:List Int} (h:opE0 (ncol t) d l=0) (h2:cap*d<mx (gets t l t.length) (t.length - 1)):opR t cap d l=((0,0,()),24,()):=by
  have e:opE t cap d l=24:=(if_pos h).trans (if_pos h2)
  unfold opR;rw[e];rfl
theorem zt3 {t:List (List Int)} {cap d:Int} {l:List Int} (h:opE0 (ncol t) d l=0) (h2:¬cap*d<mx (gets t l t.length) (t.length - 1)):opR t cap d l=(opV t d l,0,()):=by
  have e:opE t cap d l=0:=(if_pos h).trans (if_neg h2)
  unfold opR;rw[e,if_pos rfl]
theorem zuE {cap d:Int} (h1:0≤cap∧cap≤1000) (h2:1≤d∧d≤1000000000000):0≤cap*d∧cap*d≤1000000000000000:=by
  have:=zb1 h1 (show 0≤d∧d≤1000000000000 by omega)
  omega
theorem h43:Ok 43 zgM:=by
  refine mk (ctr:=[(65,zkO),(73,zeJ),(85,zb7),(88,zbi),(104,zrh),(105,sDot),(106,sMax),(107,sLow),(108,sMin)]) ⟨h65,h73,h85,h88,h104,h105,h106,h107,h108,trivial⟩ (nt:=71) Tryz.func43 rfl rfl rfl rfl (by kernel_rfl) (by kernel_rfl) (fun x=>[fun _=>zw0 x.1.1 x.2.1.2.1]) ?_
  rintro⟨⟨(t:List (List Int)),(cap:Int),⟨⟩⟩,⟨(d:Int),(l:List Int),⟨⟩⟩,⟨⟩⟩ (hp:pLen l.length)
  repeat' (intro hzz;(try (rename Two=>hq;cases hq));(try dsimp only at hzz);(try simp only[zad,zac,eqD,inR,big,zab,zB] at hzz);(try simp only[zad,zac,eqD,inR,big,zab,zB,za7,zbB,zaz,Int.toNat_natCast] at hzz);(try (revert hzz;intro _)))
  all_goals try (rename Unit=>hq;clear hq)
  all_goals try ((with_reducible refine Held.mk ?_);(with_reducible (first|refine Frz.mk ?_|refine And.intro (Frz.mk ?_) ?_|refine And.intro ?_ (Frz.mk ?_)));repeat' first|exact True.intro|(change _=_;with_reducible rfl)|refine And.intro ?_ ?_|(with_reducible refine Frz.mk ?_))
  all_goals try (refine Held.mk ?_;(try dsimp only at *);(try simp only[zad,zac,eqD,inR,big,zab,zB] at *);(try simp only[zad,zac,eqD,inR,big,zab,zB,za7,zbB,zaz,Int.toNat_natCast] at *))
  all_goals try (have hg:=zcC (by assumption:chkT t cap=0);have g1:=hg.pos;have g2:=hg.le;have g3:=hg.cap0)
  · rename_i h
    rw[zrG h];exact⟨⟨rfl,rfl⟩,rfl⟩
  · omega
  · exact hp
  · show ((3:Nat):Int)≤4611686018427387904;decide
  · rename_i h1 h
    have e:opRA t cap d l=opR t cap d l:=if_pos h1
    have h2:¬opE0 (ncol t) d l=0:=fun q=>h ((zaI (n:=ncol t) (d:=d) (l:=l)).trans q)
    rw[e,zp7 h2];exact⟨⟨rfl,rfl⟩,zaI (n:=ncol t) (d:=d) (l:=l)⟩
  · rename_i h1 h
    refine zai.mk ?_
    refine Exists.intro (0:Nat) ?_
    refine And.intro (Leaf.mk ?_) ?_
    · repeat' first|exact True.intro|refine And.intro ?_ ?_
      all_goals try ((change _=_<;>try dsimp only)<;>try with_reducible rfl)
      all_goals try omega
      all_goals (rfl)
    exact Nat.zero_le _
  · omega
  · rename_i h1 h k hk hlt
    have h:opE0 (ncol t) d l=0:=(zaI (n:=ncol t) (d:=d) (l:=l)).symm.trans h
    exact (zfA hg h (by omega)).2.1
  · rename_i h1 h k hk hlt
    have h:opE0 (ncol t) d l=0:=(zaI (n:=ncol t) (d:=d) (l:=l)).symm.trans h
    show (gets t l k).length+1≤2147483648
    rw[zbf];omega
  · omega
  · rename_i h1 h k hk hlt
    have h:opE0 (ncol t) d l=0:=(zaI (n:=ncol t) (d:=d) (l:=l)).symm.trans h
    have e:(gets t l (k+1)).length=k+1:=zbf
    refine zai.mk ?_
    refine Exists.intro (k+1) ?_
    refine And.intro (Leaf.mk ?_) ?_
    · repeat' first|exact True.intro|refine And.intro ?_ ?_
      all_goals try ((change _=_<;>try dsimp only)<;>try with_reducible rfl)
      all_goals try omega
      all_goals (first|rfl|exact e|exact e.symm|(rw[List.length_append,zbf];rfl))
    exact⟨(show k+1≤t.length by omega),(show t.length - (k+1)<t.length - k by omega)⟩
  all_goals try exact zbf.symm
  · rename_i h1 h k hk hlt
    have h:opE0 (ncol t) d l=0:=(zaI (n:=ncol t) (d:=d) (l:=l)).symm.trans h
    rw[zbf]
    exact⟨by omega,(show (k:Int)≤4611686018427387904 by omega)⟩
  · rename_i h1 h k hk hlt
    have h:opE0 (ncol t) d l=0:=(zaI (n:=ncol t) (d:=d) (l:=l)).symm.trans h
    have:=zuE (cap:=cap) (d:=d) g3 (zb0 h).1
    omega
  · rename_i h1 h k hk hlt hm
    have h:opE0 (ncol t) d l=0:=(zaI (n:=ncol t) (d:=d) (l:=l)).symm.trans h
    rw[zbf,show k=t.length by omega] at hm
    have e:opRA t cap d l=opR t cap d l:=if_pos h1
    rw[e,zt4 h hm];exact⟨⟨rfl,rfl⟩,rfl⟩
  · rename_i h1 h k hk hlt hm
    have h:opE0 (ncol t) d l=0:=(zaI (n:=ncol t) (d:=d) (l:=l)).symm.trans h
    rw[zbf]
    exact⟨by omega,(show (k:Int)≤4611686018427387904 by omega)⟩
  · rename_i h1 h k hk hlt hm
    have h:opE0 (ncol t) d l=0:=(zaI (n:=ncol t) (d:=d) (l:=l)).symm.trans h
    rw[zbf,show k=t.length by omega]
    have q:=za0 (xs:=gets t l t.length) (A:=0) (B:=300000000000000) (k:=t.length - 1) fun i hi=>by
      rw[zbt (by omega)];exact (zfA hg h (by omega)).1
    have q2:=(zb0 h).1
    exact⟨by omega,by omega,by omega⟩
  · rename_i h1 h k hk hlt hm
    have h:opE0 (ncol t) d l=0:=(zaI (n:=ncol t) (d:=d) (l:=l)).symm.trans h
    rw[zbf,show k=t.length by omega] at hm ⊢
    have e:opRA t cap d l=opR t cap d l:=if_pos h1
    rw[e,zt3 h (Int.not_lt.2 hm)];exact⟨⟨rfl,rfl⟩,rfl⟩
end Go.Eng.Ar
namespace Go.Eng.Ar
open Go.Eng Go.Proofs
set_option linter.all false
set_option maxRecDepth 100000
set_option maxHeartbeats 8000000
theorem zii (f g:Nat→Int):∀n,sm (fun i=>f i+g i) n=sm f n+sm g n
  | 0=>rfl
  | n+1=>by simp only[sm,zii f g n];omega
theorem zhm (c:Int) (f:Nat→Int):∀n,sm (fun i=>c*f i) n=c*sm f n
  | 0=>by simp[sm]
  | n+1=>by simp only[sm,zhm c f n];rw[Int.mul_add]
theorem zbD (c:Int) (f:Nat→Int) (n:Nat):sm (fun i=>f i*c) n=sm f n*c:=by
  rw[zap n (g:=fun i=>c*f i) (fun i _=>Int.mul_comm _ _),zhm,Int.mul_comm]
theorem zcp:∀n,sm (fun _=>0) n=0
  | 0=>rfl
  | n+1=>by simp only[sm,zcp n];rfl
theorem zgJ (f:Nat→Nat→Int) (m:Nat):∀n,sm (fun i=>sm (fun j=>f i j) m) n=sm (fun j=>sm (fun i=>f i j) n) m
  | 0=>by simp only[sm];exact (zcp m).symm
  | n+1=>by simp only[sm];rw[zgJ f m n,zii]
theorem zd0 {f g:Nat→Int}:∀n,(∀i,i<n→f i≤g i)→sm f n≤sm g n
  | 0,_=>Int.le_refl _
  | n+1,h=>by
    have h1:=zd0 n fun i hi=>h i (by omega)
    have h2:=h n (by omega)
    simp only[sm];omega
def colW (t:List (List Int)) (lo hi:List Int) (j i:Nat):Int:=sm (fun i=>(vI lo i - vI hi i)*vI (rowN t i) j) i
def okW (t:List (List Int)) (lo hi cs:List Int):Nat→Bool
  | 0=>true
  | j+1=>okW t lo hi cs j&&decide (colW t lo hi j t.length≤vI cs j)
theorem zj1 {t:List (List Int)} {lo hi cs:List Int} {k:Nat} (h:vI cs k<colW t lo hi k t.length):∀n,k<n→okW t lo hi cs n=false
  | 0,hk=>absurd hk (Nat.not_lt_zero _)
  | n+1,hk=>by
    simp only[okW]
    by_cases e:k=n
    · subst e;rw[decide_eq_false (by omega),Bool.and_false]
    · rw[zj1 h n (by omega),Bool.false_and]
theorem ziE {t:List (List Int)} {lo hi cs:List Int}:∀ {n:Nat},okW t lo hi cs n=true→∀k,k<n→colW t lo hi k t.length≤vI cs k
  | n+1,h,k,hk=>by
    simp only[okW,Bool.and_eq_true] at h
    by_cases e:k=n
    · subst e;exact of_decide_eq_true h.2
    · exact ziE h.1 k (by omega)
def wtE0 (m n:Nat) (d:Int) (lo hi cs:List Int):Int:=if 1≤d∧d≤1000000000000 then (if lo.length=m∧hi.length=m∧cs.length=n then (if allE lo 1000000000000=0 then (if allE hi 1000000000000=0 then allE cs 1000000000000 else 2) else 2) else 10) else 2
def wtE (t:List (List Int)) (d:Int) (lo hi cs:List Int):Int:=if wtE0 t.length (ncol t) d lo hi cs=0 then (if sumI lo=d then (if okW t lo hi cs (ncol t)=true then 0 else 20) else 20) else wtE0 t.length (ncol t) d lo hi cs
def wtV (cap d:Int) (hi cs:List Int):zaD.Den:=lowP (sumI hi*cap+sumI cs) d
def wtR (t:List (List Int)) (cap d:Int) (lo hi cs:List Int):zaD.Den×Int×Unit:=if wtE t d lo hi cs=0 then (wtV cap d hi cs,0,()) else ((0,0,()),wtE t d lo hi cs,())
def wtRA (t:List (List Int)) (cap d:Int) (lo hi cs:List Int):zaD.Den×Int×Unit:=if chkT t cap=0 then wtR t cap d lo hi cs else ((0,0,()),chkT t cap,())
abbrev pW3 (a b c:Nat):Prop:=pLen a∧pLen b∧pLen c
@[reducible] def zgL:Spec:={pats:=[.dat zeq,.dat zc2],res:=[{t:=zaD},{t:=I64}],pre:=fun x=>pW3 (List.length (α:=Int) x.2.1.2.1) (List.length (α:=Int) x.2.1.2.2.1) (List.length (α:=Int) x.2.1.2.2.2.1),f:=fun x=>wtRA x.1.1 x.1.2.1 x.2.1.1 x.2.1.2.1 x.2.1.2.2.1 x.2.1.2.2.2.1}
@[reducible] def zhQ:Spec:={zgL with pre:=fun x=>goodT x.1.1 x.1.2.1∧pW3 (List.length (α:=Int) x.2.1.2.1) (List.length (α:=Int) x.2.1.2.2.1) (List.length (α:=Int) x.2.1.2.2.2.1),f:=fun x=>wtR x.1.1 x.1.2.1 x.2.1.1 x.2.1.2.1 x.2.1.2.2.1 x.2.1.2.2.2.1}
theorem zay {m n:Nat} {d:Int} {lo hi cs:List Int} (h:wtE0 m n d lo hi cs=0):(1≤d∧d≤1000000000000)∧(lo.length=m∧hi.length=m∧cs.length=n)∧(∀i,i<m→0≤vI lo i∧vI lo i≤1000000000000)∧(∀i,i<m→0≤vI hi i∧vI hi i≤1000000000000)∧∀i,i<n→0≤vI cs i∧vI cs i≤1000000000000:=by
  unfold wtE0 at h
  split at h
  · rename_i h1
    split at h
    · rename_i h2
      split at h
      · rename_i h3
        split at h
        · rename_i h4
          exact⟨h1,h2,fun i hi=>zep h3 i (by omega),fun i hi=>zep h4 i (by omega),fun i hi=>zep h i (by omega)⟩
        · cases h
      · cases h
    · cases h
  · cases h
theorem znp {t:List (List Int)} {d:Int} {lo hi cs:List Int} (h:wtE t d lo hi cs=0):wtE0 t.length (ncol t) d lo hi cs=0∧sumI lo=d∧okW t lo hi cs (ncol t)=true:=by
  unfold wtE at h
  split at h
  · rename_i h1
    split at h
    · rename_i h2
      split at h
      · rename_i h3;exact⟨h1,h2,h3⟩
      · cases h
    · cases h
  · rename_i h1;exact absurd h h1
theorem zfT {t:List (List Int)} {cap d:Int} {lo hi cs:List Int} (hg:goodT t cap) (h:wtE0 t.length (ncol t) d lo hi cs=0) {j i:Nat} (hj:j<ncol t) (hi':i≤t.length):(-400000000000000≤colW t lo hi j i∧colW t lo hi j i≤400000000000000)∧(∀i,i<t.length→-100000000000000≤(vI lo i - vI hi i)*vI (rowN t i) j∧(vI lo i - vI hi i)*vI (rowN t i) j≤100000000000000):=by
  obtain⟨_,_,h1,h2,_⟩:=zay h
  have hb:∀i,i<t.length→-100000000000000≤(vI lo i - vI hi i)*vI (rowN t i) j∧(vI lo i - vI hi i)*vI (rowN t i) j≤100000000000000:=fun i hi=>by
    have q1:=zb1 (h1 i hi) (hg.vals i j hi hj)
    have q2:=zb1 (h2 i hi) (hg.vals i j hi hj)
    rw[Int.sub_mul]
    omega
  refine⟨?_,hb⟩
  have:=zjv (f:=fun i=>(vI lo i - vI hi i)*vI (rowN t i) j) (B:=100000000000000) i fun k hk=>hb k (by omega)
  have hl:=hg.le
  unfold colW
  omega
theorem zfE {l:List Int} {n:Nat} (hl:l.length=n) (hn:n≤4) (h:∀i,i<n→0≤vI l i∧vI l i≤1000000000000):(0≤sumI l∧sumI l≤4000000000000)∧pSum l:=by
  have:=zeI (f:=fun i=>vI l i) (B:=1000000000000) n fun i hi=>h i hi
  refine⟨?_,by omega,fun i hi=>?_⟩
  · unfold sumI;rw[hl];omega
  · have:=h i (by omega);omega
theorem zfC {t:List (List Int)} {cap d:Int} {lo hi cs:List Int} (hg:goodT t cap) (h:wtE0 t.length (ncol t) d lo hi cs=0):(0≤sumI hi*cap∧sumI hi*cap≤4000000000000000)∧(0≤sumI cs∧sumI cs≤4000000000000)∧(pSum lo∧pSum hi∧pSum cs)∧0≤sumI lo∧sumI lo≤4000000000000:=by
  obtain⟨_,⟨l1,l2,l3⟩,h1,h2,h3⟩:=zay h
  have q0:=zfE l1 hg.le h1
  have q1:=zfE l2 hg.le h2
  have q2:=zfE l3 (by have:=hg.cle;omega) h3
  have q3:=zb1 q1.1 hg.cap0
  exact⟨by omega,q2.1,⟨q0.2,q1.2,q2.2⟩,q0.1⟩
theorem zez {t:List (List Int)} {cap d:Int} {lo hi cs:List Int} (h:¬wtE0 t.length (ncol t) d lo hi cs=0):wtR t cap d lo hi cs=((0,0,()),wtE0 t.length (ncol t) d lo hi cs,()):=by
  have e:wtE t d lo hi cs=wtE0 t.length (ncol t) d lo hi cs:=if_neg h
  unfold wtR;rw[e,if_neg h]
theorem zno {t:List (List Int)} {cap d:Int} {lo hi cs:List Int} (h:wtE0 t.length (ncol t) d lo hi cs=0) (h2:¬(sumI lo=d∧okW t lo hi cs (ncol t)=true)):wtR t cap d lo hi cs=((0,0,()),20,()):=by
  have e:wtE t d lo hi cs=20:=by
    unfold wtE;rw[if_pos h]
    by_cases e1:sumI lo=d
    · rw[if_pos e1,if_neg fun e2=>h2 ⟨e1,e2⟩]
    · rw[if_neg e1]
  unfold wtR;rw[e];rfl
theorem zts {t:List (List Int)} {cap d:Int} {lo hi cs:List Int} (h:wtE0 t.length (ncol t) d lo hi cs=0) (h2:sumI lo=d) (h3:okW t lo hi cs (ncol t)=true):wtR t cap d lo hi cs=(wtV cap d hi cs,0,()):=by
  have e:wtE t d lo hi cs=0:=by unfold wtE;rw[if_pos h,if_pos h2,if_pos h3]
  unfold wtR;rw[e];rfl
end Go.Eng.Ar
namespace Go.Eng.Ar
open Go.Eng Go.Proofs
set_option linter.all false
set_option maxRecDepth 100000
set_option maxHeartbeats 8000000
theorem wt_c {m n:Nat} {d:Int} {lo hi cs:List Int} (h1:1≤d∧d≤1000000000000) (h2:(lo.length:Int)=(m:Int)) (h3:(hi.length:Int)=(m:Int)) (h4:(cs.length:Int)=(n:Int)) (w1:zfn lo 1000000000000=true) (w2:zfn hi 1000000000000=true) (w3:zfn cs 1000000000000=true):wtE0 m n d lo hi cs=0:=
  (if_pos h1).trans ((if_pos ⟨Int.ofNat_inj.1 h2,Int.ofNat_inj.1 h3,Int.ofNat_inj.1 h4⟩).trans ((if_pos (of_decide_eq_true w1)).trans ((if_pos (of_decide_eq_true w2)).trans (of_decide_eq_true w3))))
theorem al_2 {l:List Int} {m:Int} (h:zfn l m=false):allE l m=2:=by
  rcases zfm (l:=l) (m:=m) with e|e
  · exact absurd e (of_decide_eq_false h)
  · exact e
theorem zic {l:List Int} {n:Nat} (hl:l.length=n) (hn:n≤4) (h:∀i,i<n→0≤vI l i∧vI l i≤1000000000000):∀k,k≤n→0≤sm (fun i=>vI l i) k∧sm (fun i=>vI l i) k≤4000000000000:=fun k hk=>by
  have:=zeI (f:=fun i=>vI l i) (B:=1000000000000) k fun i hi=>h i (by omega)
  omega
theorem zib {l:List Int} {cap:Int} (hc:0≤cap∧cap≤1000) (hn:l.length≤4) (h:∀i,i<l.length→0≤vI l i∧vI l i≤1000000000000):∀k,k≤l.length→0≤sm (fun i=>vI l i*cap) k∧sm (fun i=>vI l i*cap) k≤4000000000000000:=fun k hk=>by
  have:=zeI (f:=fun i=>vI l i*cap) (B:=1000000000000000) k fun i hi=>by
    have:=zb1 (h i (by omega)) hc
    omega
  omega
theorem zlN {hi cs:List Int} {cap:Int}:sm (fun i=>vI hi i*cap) hi.length+sm (fun i=>vI cs i) cs.length=sumI hi*cap+sumI cs:=by
  rw[zbD];rfl
theorem ndec {p:Prop} [Decidable p] (h:p):false = !decide p:=by rw[decide_eq_true h];rfl
def rwA1 (cap:Int) (lo hi:List Int):LoopAnn:={σ:=Nat,pat:=fun k=>[sI 8 k,sI 6 (sm (fun i=>vI lo i) k),sI 7 (sm (fun i=>vI hi i*cap) k)],inv:=fun k=>k≤lo.length,meas:=fun k=>lo.length - k}
def rwA2 (t:List (List Int)) (cap:Int) (lo hi cs:List Int):LoopAnn:={σ:=Nat,pat:=fun k=>[sI 9 k,sI 7 (sm (fun i=>vI hi i*cap) hi.length+sm (fun i=>vI cs i) k)],inv:=fun k=>k≤cs.length∧okW t lo hi cs k=true,meas:=fun k=>cs.length - k}
def rwA3 (t:List (List Int)) (lo hi:List Int) (st:St):LoopAnn:=zju 9 st fun j=>{σ:=Nat,pat:=fun i=>[sI 11 i,sI 10 (colW t lo hi j.toNat i)],inv:=fun i=>i≤lo.length,meas:=fun i=>lo.length - i}
theorem h53:Ok 53 zhQ:=by
  refine mk (ctr:=[(29,zbi),(115,sWi),(116,zjw)]) ⟨h29,h115,h116,trivial⟩ (nt:=146) Tryz.func53 rfl rfl rfl rfl (by kernel_rfl) (by kernel_rfl) (fun x=>[fun _=>rwA1 x.1.2.1 x.2.1.2.1 x.2.1.2.2.1,fun _=>rwA2 x.1.1 x.1.2.1 x.2.1.2.1 x.2.1.2.2.1 x.2.1.2.2.2.1,rwA3 x.1.1 x.2.1.2.1 x.2.1.2.2.1]) ?_
  rintro⟨⟨(t:List (List Int)),(cap:Int),⟨⟩⟩,⟨(d:Int),(lo:List Int),(hi:List Int),(cs:List Int),⟨⟩⟩,⟨⟩⟩ ⟨(hg:goodT t cap),(hp1:pLen lo.length),(hp2:pLen hi.length),(hp3:pLen cs.length)⟩
  have g1:=hg.pos
  have g2:=hg.le
  have g3:=hg.cap0
  have hc3:=hg.cle
  repeat' (intro hzz;(try (rename Two=>hq;cases hq));(try dsimp only at hzz);(try simp only[zad,zac,eqD,inR,big,zab,zB] at hzz);(try simp only[zad,zac,eqD,inR,big,zab,zB,za7,zbB,zaz,Int.toNat_natCast,zal] at hzz);(try (revert hzz;intro _)))
  all_goals try (rename Unit=>hq;clear hq)
  all_goals try ((with_reducible refine Held.mk ?_);(with_reducible (first|refine Frz.mk ?_|refine And.intro (Frz.mk ?_) ?_|refine And.intro ?_ (Frz.mk ?_)));repeat' first|exact True.intro|(change _=_;with_reducible rfl)|refine And.intro ?_ ?_|(with_reducible refine Frz.mk ?_))
  all_goals try (refine Held.mk ?_;(try dsimp only at *);(try simp only[zad,zac,eqD,inR,big,zab,zB] at *);(try simp only[zad,zac,eqD,inR,big,zab,zB,za7,zbB,zaz,Int.toNat_natCast,zal] at *))
  all_goals try with_reducible exact hp1
  all_goals try with_reducible exact hp2
  all_goals try with_reducible exact hp3
  all_goals try omega
  · rename_i h1
    have e:wtE0 t.length (ncol t) d lo hi cs=2:=if_neg h1
    rw[zez (by rw[e];decide),e];exact⟨⟨rfl,rfl⟩,rfl⟩
  · rename_i h1 h2 h3 h4
    have e:wtE0 t.length (ncol t) d lo hi cs=10:=(if_pos h1).trans (if_neg fun q=>h4 (congrArg Int.ofNat q.2.2))
    rw[zez (by rw[e];decide),e];exact⟨⟨rfl,rfl⟩,rfl⟩
  · rename_i h1 h2 h3 h4 w1 w2 w3
    have e:wtE0 t.length (ncol t) d lo hi cs=2:=(if_pos h1).trans ((if_pos ⟨Int.ofNat_inj.1 h2,Int.ofNat_inj.1 h3,Int.ofNat_inj.1 h4⟩).trans ((if_pos (of_decide_eq_true w1)).trans ((if_pos (of_decide_eq_true w2)).trans (al_2 w3))))
    rw[zez (by rw[e];decide),e];exact⟨⟨rfl,rfl⟩,rfl⟩
  · rename_i h1 h2 h3 h4 w1 w2 w3
    refine zai.mk ?_
    refine Exists.intro (0:Nat) ?_
    refine And.intro (Leaf.mk ?_) ?_
    · repeat' first|exact True.intro|refine And.intro ?_ ?_
      all_goals try ((change _=_<;>try dsimp only)<;>try with_reducible rfl)
      all_goals try omega
      all_goals (first|rfl|exact ndec h2|exact ndec h3)
    exact Nat.zero_le _
  · rename_i h1 h2 h3 h4 w1 w2 w3 k hk hlt
    have hW:=wt_c (n:=ncol t) h1 h2 h3 h4 w1 w2 w3
    obtain⟨v1,⟨v2,v3,v4⟩,v5,v6,v7⟩:=zay hW
    have q:=(zic v2 (by omega) v5) (k+1) (by omega)
    exact⟨Int.le_trans (by decide) q.1,Int.le_trans q.2 (by decide)⟩
  · rename_i h1 h2 h3 h4 w1 w2 w3 k hk hlt
    have hW:=wt_c (n:=ncol t) h1 h2 h3 h4 w1 w2 w3
    obtain⟨v1,⟨v2,v3,v4⟩,v5,v6,v7⟩:=zay hW
    have q:=zb1 (v6 k (by omega)) g3
    exact⟨Int.le_trans (by decide) q.1,Int.le_trans q.2 (by decide)⟩
  · rename_i h1 h2 h3 h4 w1 w2 w3 k hk hlt
    have hW:=wt_c (n:=ncol t) h1 h2 h3 h4 w1 w2 w3
    obtain⟨v1,⟨v2,v3,v4⟩,v5,v6,v7⟩:=zay hW
    have q:=zib (cap:=cap) g3 (show hi.length≤4 by omega) (by rw[v3];exact v6) (k+1) (by omega)
    exact⟨Int.le_trans (by decide) q.1,Int.le_trans q.2 (by decide)⟩
  · rename_i h1 h2 h3 h4 w1 w2 w3 k hk hlt
    refine zai.mk ?_
    refine Exists.intro (k+1) ?_
    refine And.intro (Leaf.mk ?_) ?_
    · repeat' first|exact True.intro|refine And.intro ?_ ?_
      all_goals try ((change _=_<;>try dsimp only)<;>try with_reducible rfl)
      all_goals try omega
      all_goals (first|rfl|exact ndec h2|exact ndec h3)
    exact⟨(show k+1≤lo.length by omega),(show lo.length - (k+1)<lo.length - k by omega)⟩
  · rename_i h1 h2 h3 h4 w1 w2 w3 k hk hlt hs
    have hW:=wt_c (n:=ncol t) h1 h2 h3 h4 w1 w2 w3
    obtain⟨v1,⟨v2,v3,v4⟩,v5,v6,v7⟩:=zay hW
    rw[show k=lo.length by omega] at hs
    rw[zno hW (fun q=>hs q.1)];exact⟨⟨rfl,rfl⟩,rfl⟩
  · rename_i h1 h2 h3 h4 w1 w2 w3 k hk hlt hs
    have hW:=wt_c (n:=ncol t) h1 h2 h3 h4 w1 w2 w3
    obtain⟨v1,⟨v2,v3,v4⟩,v5,v6,v7⟩:=zay hW
    have e:sm (fun i=>vI hi i*cap) k=sm (fun i=>vI hi i*cap) hi.length+sm (fun i=>vI cs i) 0:=by rw[show k=hi.length by omega];exact (Int.add_zero _).symm
    refine zai.mk ?_
    refine Exists.intro (0:Nat) ?_
    refine And.intro (Leaf.mk ?_) ?_
    · repeat' first|exact True.intro|refine And.intro ?_ ?_
      all_goals try ((change _=_<;>try dsimp only)<;>try with_reducible rfl)
      all_goals try omega
      all_goals (first|rfl|exact e|exact ndec h2|exact ndec h3)
    exact⟨Nat.zero_le _,rfl⟩
  · rename_i h1 h2 h3 h4 w1 w2 w3 k hk hlt hs q hq hqt
    refine zai.mk ?_
    refine Exists.intro (0:Nat) ?_
    refine And.intro (Leaf.mk ?_) ?_
    · repeat' first|exact True.intro|refine And.intro ?_ ?_
      all_goals try ((change _=_<;>try dsimp only)<;>try with_reducible rfl)
      all_goals try omega
      all_goals (first|rfl|exact ndec h2|exact ndec h3)
    exact Nat.zero_le _
  · rename_i h1 h2 h3 h4 w1 w2 w3 k hk hlt hs q hq hqt i hi' hit
    have hW:=wt_c (n:=ncol t) h1 h2 h3 h4 w1 w2 w3
    obtain⟨v1,⟨v2,v3,v4⟩,v5,v6,v7⟩:=zay hW
    have q1:=v5 i (by omega)
    have q2:=v6 i (by omega)
    show -9223372036854775808≤vI lo i - vI hi i∧vI lo i - vI hi i≤9223372036854775807
    omega
  · rename_i h1 h2 h3 h4 w1 w2 w3 k hk hlt hs q hq hqt i hi' hit
    have hW:=wt_c (n:=ncol t) h1 h2 h3 h4 w1 w2 w3
    obtain⟨v1,⟨v2,v3,v4⟩,v5,v6,v7⟩:=zay hW
    have e:(rowN t i).length=ncol t:=hg.rows i (by omega)
    show 0≤(q:Int)∧(q:Int)<((rowN t i).length:Int)
    omega
  · rename_i h1 h2 h3 h4 w1 w2 w3 k hk hlt hs q hq hqt i hi' hit
    have hW:=wt_c (n:=ncol t) h1 h2 h3 h4 w1 w2 w3
    obtain⟨v1,⟨v2,v3,v4⟩,v5,v6,v7⟩:=zay hW
    have z:=(zfT hg hW (j:=q) (i:=0) (by omega) (by omega)).2 i (by omega)
    exact⟨Int.le_trans (by decide) z.1,Int.le_trans z.2 (by decide)⟩
  · rename_i h1 h2 h3 h4 w1 w2 w3 k hk hlt hs q hq hqt i hi' hit
    have hW:=wt_c (n:=ncol t) h1 h2 h3 h4 w1 w2 w3
    obtain⟨v1,⟨v2,v3,v4⟩,v5,v6,v7⟩:=zay hW
    have z:=(zfT hg hW (j:=q) (i:=i+1) (by omega) (by omega)).1
    exact⟨Int.le_trans (by decide) z.1,Int.le_trans z.2 (by decide)⟩
  · rename_i h1 h2 h3 h4 w1 w2 w3 k hk hlt hs q hq hqt i hi' hit
    refine zai.mk ?_
    refine Exists.intro (i+1) ?_
    refine And.intro (Leaf.mk ?_) ?_
    · repeat' first|exact True.intro|refine And.intro ?_ ?_
      all_goals try ((change _=_<;>try dsimp only)<;>try with_reducible rfl)
      all_goals try omega
      all_goals (first|rfl|exact ndec h2|exact ndec h3)
    exact⟨(show i+1≤lo.length by omega),(show lo.length - (i+1)<lo.length - i by omega)⟩
  · rename_i h1 h2 h3 h4 w1 w2 w3 k hk hlt hs q hq hqt i hi' hit hm
    have hW:=wt_c (n:=ncol t) h1 h2 h3 h4 w1 w2 w3
    obtain⟨v1,⟨v2,v3,v4⟩,v5,v6,v7⟩:=zay hW
    rw[show i=t.length by omega] at hm
    have hno:okW t lo hi cs (ncol t)=false:=zj1 (k:=q) hm _ (by omega)
    rw[zno hW (fun z=>by rw[hno] at z;cases z.2)];exact⟨⟨rfl,rfl⟩,rfl⟩
  · rename_i h1 h2 h3 h4 w1 w2 w3 k hk hlt hs q hq hqt i hi' hit hm
    have hW:=wt_c (n:=ncol t) h1 h2 h3 h4 w1 w2 w3
    obtain⟨v1,⟨v2,v3,v4⟩,v5,v6,v7⟩:=zay hW
    have z:=zib (cap:=cap) g3 (show hi.length≤4 by omega) (by rw[v3];exact v6) hi.length (by omega)
    have z2:=(zic v4 (by omega) v7) (q+1) (by omega)
    have z2:0≤sm (fun i=>vI cs i) q+List.getD cs q (Ty.dflt I64)∧sm (fun i=>vI cs i) q+List.getD cs q (Ty.dflt I64)≤4000000000000:=z2
    rw[Int.add_assoc]
    exact⟨Int.le_trans (by decide) (Int.add_nonneg z.1 z2.1),Int.le_trans (Int.add_le_add z.2 z2.2) (by decide)⟩
  · rename_i h1 h2 h3 h4 w1 w2 w3 k hk hlt hs q hq hqt i hi' hit hm
    have hW:=wt_c (n:=ncol t) h1 h2 h3 h4 w1 w2 w3
    obtain⟨v1,⟨v2,v3,v4⟩,v5,v6,v7⟩:=zay hW
    omega
  · rename_i h1 h2 h3 h4 w1 w2 w3 k hk hlt hs q hq hqt i hi' hit hm
    rw[show i=t.length by omega] at hm
    have hm:colW t lo hi q t.length≤vI cs q:=hm
    have e:sm (fun i=>vI hi i*cap) hi.length+sm (fun i=>vI cs i) q+vI cs q=sm (fun i=>vI hi i*cap) hi.length+sm (fun i=>vI cs i) (q+1):=Int.add_assoc _ _ _
    refine zai.mk ?_
    refine Exists.intro (q+1) ?_
    refine And.intro (Leaf.mk ?_) ?_
    · repeat' first|exact True.intro|refine And.intro ?_ ?_
      all_goals try ((change _=_<;>try dsimp only)<;>try with_reducible rfl)
      all_goals try omega
      all_goals (first|rfl|exact e|exact ndec h2|exact ndec h3)
    exact⟨⟨(show q+1≤cs.length by omega),(show (okW t lo hi cs q&&decide (colW t lo hi q t.length≤vI cs q))=true by rw[hq.2,decide_eq_true hm];rfl)⟩,(show cs.length - (q+1)<cs.length - q by omega)⟩
  · rename_i h1 h2 h3 h4 w1 w2 w3 k hk hlt hs q hq hqt
    have hW:=wt_c (n:=ncol t) h1 h2 h3 h4 w1 w2 w3
    obtain⟨v1,⟨v2,v3,v4⟩,v5,v6,v7⟩:=zay hW
    rw[show q=cs.length by omega,zlN]
    have:=zfC hg hW
    have e:(0:Int)≤sumI hi*cap+sumI cs∧sumI hi*cap+sumI cs≤5000000000000000:=by omega
    exact⟨by omega,by omega,by omega⟩
  · rename_i h1 h2 h3 h4 w1 w2 w3 k hk hlt hs q hq hqt
    have hW:=wt_c (n:=ncol t) h1 h2 h3 h4 w1 w2 w3
    obtain⟨v1,⟨v2,v3,v4⟩,v5,v6,v7⟩:=zay hW
    have e:=hq.2
    rw[show q=ncol t by omega] at e
    rw[show k=lo.length by omega] at hs
    rw[zts hW hs e,show q=cs.length by omega,zlN];exact⟨⟨rfl,rfl⟩,rfl⟩
  · rename_i h1 h2 h3 h4 w1 w2
    have e:wtE0 t.length (ncol t) d lo hi cs=2:=(if_pos h1).trans ((if_pos ⟨Int.ofNat_inj.1 h2,Int.ofNat_inj.1 h3,Int.ofNat_inj.1 h4⟩).trans ((if_pos (of_decide_eq_true w1)).trans (if_neg (of_decide_eq_false w2))))
    rw[zez (by rw[e];decide),e];exact⟨⟨rfl,rfl⟩,rfl⟩
  · rename_i h1 h2 h3 h4 w1
    have e:wtE0 t.length (ncol t) d lo hi cs=2:=(if_pos h1).trans ((if_pos ⟨Int.ofNat_inj.1 h2,Int.ofNat_inj.1 h3,Int.ofNat_inj.1 h4⟩).trans (if_neg (of_decide_eq_false w1)))
    rw[zez (by rw[e];decide),e];exact⟨⟨rfl,rfl⟩,rfl⟩
  · rename_i h1 h2 h3
    have e:wtE0 t.length (ncol t) d lo hi cs=10:=(if_pos h1).trans (if_neg fun q=>h3 (congrArg Int.ofNat q.2.1))
    rw[zez (by rw[e];decide),e];exact⟨⟨rfl,rfl⟩,rfl⟩
  · rename_i h1 h2
    have e:wtE0 t.length (ncol t) d lo hi cs=10:=(if_pos h1).trans (if_neg fun q=>h2 (congrArg Int.ofNat q.1))
    rw[zez (by rw[e];decide),e];exact⟨⟨rfl,rfl⟩,rfl⟩
end Go.Eng.Ar
namespace Go.Eng.Ar
open Go.Eng Go.Proofs
set_option linter.all false
set_option maxRecDepth 100000
set_option maxHeartbeats 8000000
/-! ### Lowest terms -/
def lowA (a b:Int):Int:=Int.tdiv a (gcd2 a b)
def lowC (a b:Int):Int:=Int.tdiv b (gcd2 a b)
theorem zd7 {a b:Int} (hb:0<b):∃g,0<g∧a=lowA a b*g∧b=lowC a b*g∧0<lowC a b:=by
  obtain⟨g,h0,h1,h2,h3⟩:=@zkE a b
  have hg:=zgo (a:=a) hb
  rw[h1] at hg
  have e1:lowA a b=Int.tdiv a g:=by unfold lowA;rw[h1]
  have e2:lowC a b=Int.tdiv b g:=by unfold lowC;rw[h1]
  refine⟨g,hg,by rw[e1];exact h2,by rw[e2];exact h3,?_⟩
  rw[e2]
  refine Int.not_le.1 fun h=>?_
  have:=Int.mul_le_mul_of_nonneg_right h h0
  rw[Int.zero_mul] at this
  omega
theorem zpj {a b:Int} {A B:Int} (h1 : -A≤a∧a≤A) (hb:0<b∧b≤B):(-A≤lowA a b∧lowA a b≤A)∧0<lowC a b∧lowC a b≤B:=by
  obtain⟨g,hg,e1,e2,h0⟩:=zd7 (a:=a) hb.1
  generalize lowA a b=x at *
  generalize lowC a b=y at *
  have k1:y*1≤y*g:=Int.mul_le_mul_of_nonneg_left (by omega) (by omega)
  refine⟨?_,h0,by omega⟩
  rcases Int.le_total 0 x with hx|hx
  · have k2:x*1≤x*g:=Int.mul_le_mul_of_nonneg_left (by omega) hx
    have k3:0≤x*g:=Int.mul_nonneg hx (by omega)
    omega
  · have k2:(-x)*1≤(-x)*g:=Int.mul_le_mul_of_nonneg_left (by omega) (by omega)
    simp only[Int.neg_mul,Int.mul_one] at k2
    have k3:0≤(-x)*g:=Int.mul_nonneg (by omega) (by omega)
    rw[Int.neg_mul] at k3
    omega
theorem mul4 {a b g h:Int}:(a*g)*(b*h)=(a*b)*(g*h):=by
  rw[Int.mul_assoc,Int.mul_assoc,←Int.mul_assoc g b h,Int.mul_comm g b,Int.mul_assoc b g h]
theorem zcW {a b k:Int} (hk:0<k):a*k<b*k↔a<b:=⟨fun h=>Int.lt_of_mul_lt_mul_right h (by omega),fun h=>Int.mul_lt_mul_of_pos_right h hk⟩
theorem zjc {a b c d g h:Int} (hg:0<g) (hh:0<h):cmpI (a*g) (b*g) (c*h) (d*h)=cmpI a b c d:=by
  have hp:=Int.mul_pos hg hh
  unfold cmpI
  rw[mul4,show c*h*(b*g)=(c*b)*(g*h) by rw[mul4,Int.mul_comm h g]]
  by_cases h1:a*d<c*b
  · rw[if_pos h1,if_pos ((zcW hp).2 h1)]
  · rw[if_neg h1,if_neg (fun q=>h1 ((zcW hp).1 q))]
    by_cases h2:c*b<a*d
    · rw[if_pos h2,if_pos ((zcW hp).2 h2)]
    · rw[if_neg h2,if_neg (fun q=>h2 ((zcW hp).1 q))]
theorem zol {a b c d:Int} (hb:0<b) (hd:0<d):cmpI (lowA a b) (lowC a b) (lowA c d) (lowC c d)=cmpI a b c d:=by
  obtain⟨g,hg,e1,e2,_⟩:=zd7 (a:=a) hb
  obtain⟨h,hh,e3,e4,_⟩:=zd7 (a:=c) hd
  have e:=zjc (a:=lowA a b) (b:=lowC a b) (c:=lowA c d) (d:=lowC c d) hg hh
  rw[←e1,←e2,←e3,←e4] at e
  exact e.symm
/-! ### No value is greater than a bound -/
theorem zp8 {xs : List Int}:∀ {k i:Nat},i≤k→mn xs k≤vI xs i
  | 0, i, h => by obtain rfl:i=0:=by omega
                  exact Int.le_refl _
  | k + 1,i,h=>by
    simp only[mn]
    by_cases e:i=k+1
    · subst e;split
      · exact Int.le_refl _
      · rename_i h1;exact Int.not_lt.1 h1
    · have:=zp8 (xs:=xs) (k:=k) (i:=i) (by omega)
      split<;>omega
theorem weak {t:List (List Int)} {cap d D:Int} {l lo hi cs:List Int} (hg:goodT t cap) (ho:opE t cap d l=0) (hw:wtE t D lo hi cs=0) :
    mn (gets t l t.length) (t.length - 1)*D≤(sumI hi*cap+sumI cs)*d:=by
  obtain⟨o1,o2⟩:=zjA ho
  obtain⟨p1,p2,p3⟩:=zb0 o1
  obtain⟨w1,w2,w3⟩:=znp hw
  obtain⟨q1,⟨q2,q3,q4⟩,q5,q6,q7⟩:=zay w1
  obtain⟨V,hV⟩:∃V,V=mn (gets t l t.length) (t.length - 1):=⟨_,rfl⟩
  rw[←hV]
  have g1:=hg.pos
  have hget:∀i,i<t.length→V≤dotI (rowN t i) l∧dotI (rowN t i) l≤cap*d:=fun i hi=>by
    have h1:=zp8 (xs:=gets t l t.length) (k:=t.length - 1) (i:=i) (by omega)
    rw[zbt hi,←hV] at h1
    have h2:=zmy.1 o2 i (by omega)
    rw[zbt hi] at h2
    exact⟨h1,h2⟩
  have hdot:∀i,i<t.length→dotI (rowN t i) l=sm (fun j=>vI (rowN t i) j*vI l j) (ncol t):=fun i hi=>by unfold dotI;rw[hg.rows i hi]
  -- V D is at most the sum of lo times what the seats get
  have s1:V*D≤sm (fun i=>vI lo i*dotI (rowN t i) l) t.length:=by
    rw[←w2,Int.mul_comm]
    unfold sumI
    rw[q2,←zbD]
    exact zd0 _ fun i hi=>Int.mul_le_mul_of_nonneg_left (hget i hi).1 (q5 i hi).1
  have s2:sm (fun i=>vI lo i*dotI (rowN t i) l) t.length=sm (fun i=>(vI lo i - vI hi i)*dotI (rowN t i) l) t.length+sm (fun i=>vI hi i*dotI (rowN t i) l) t.length:=by
    rw[←zii]
    exact zap _ fun i _=>by rw[←Int.add_mul];congr 1;omega
  have s3:sm (fun i=>(vI lo i - vI hi i)*dotI (rowN t i) l) t.length=sm (fun j=>colW t lo hi j t.length*vI l j) (ncol t):=by
    rw [zap (g:=fun i=>sm (fun j=>(vI lo i - vI hi i)*vI (rowN t i) j*vI l j) (ncol t)) t.length (fun i hi'=>by
      show (vI lo i - vI hi i)*dotI (rowN t i) l=_
      rw[hdot i hi',←zhm];exact zap _ fun j _=>(Int.mul_assoc _ _ _).symm),zgJ]
    exact zap _ fun j _=>by
      show sm (fun i=>(vI lo i - vI hi i)*vI (rowN t i) j*vI l j) t.length=_
      rw[zbD];rfl
  have s4:sm (fun j=>colW t lo hi j t.length*vI l j) (ncol t)≤sm (fun j=>vI cs j) (ncol t)*d:=by
    rw[←zbD]
    refine zd0 _ fun j hj=>?_
    have h1:=p3 j (by omega)
    have h2:=ziE w3 j hj
    have h3:=q7 j hj
    exact Int.le_trans (Int.mul_le_mul_of_nonneg_right h2 h1.1) (Int.mul_le_mul_of_nonneg_left h1.2 h3.1)
  have s5:sm (fun i=>vI hi i*dotI (rowN t i) l) t.length≤sm (fun i=>vI hi i) t.length*(cap*d):=by
    rw[←zbD]
    exact zd0 _ fun i hi'=>Int.mul_le_mul_of_nonneg_left (hget i hi').2 (q6 i hi').1
  have s6:(sumI hi*cap+sumI cs)*d=sm (fun i=>vI hi i) t.length*(cap*d)+sm (fun j=>vI cs j) (ncol t)*d:=by
    unfold sumI;rw[q3,q4,Int.add_mul,Int.mul_assoc]
  rw[s6]
  omega
def wtV1 (cap d:Int) (hi cs:List Int):Int:=lowA (sumI hi*cap+sumI cs) d
def wtV2 (cap d:Int) (hi cs:List Int):Int:=lowC (sumI hi*cap+sumI cs) d
def opV1 (t:List (List Int)) (d:Int) (l:List Int):Int:=lowA (mn (gets t l t.length) (t.length - 1)) d
def opV2 (t:List (List Int)) (d:Int) (l:List Int):Int:=lowC (mn (gets t l t.length) (t.length - 1)) d
theorem zo7 {t:List (List Int)} {cap d:Int} {l:List Int} (hg:goodT t cap) (h:opE t cap d l=0):(-300000000000000≤opV1 t d l∧opV1 t d l≤300000000000000)∧0<opV2 t d l∧opV2 t d l≤1000000000000:=by
  have g1:=hg.pos
  have q:=za0 (xs:=gets t l t.length) (A:=0) (B:=300000000000000) (k:=t.length - 1) fun i hi=>by
    rw[zbt (by omega)];exact (zfA hg (zjA h).1 (by omega)).1
  have q2:=(zb0 (zjA h).1).1
  exact zpj (by omega) (by omega)
end Go.Eng.Ar
namespace Go.Eng.LP
set_option linter.all false
set_option maxRecDepth 100000
def S (f:Nat→Rat):Nat→Rat
  | 0=>0
  | k+1=>S f k+f k
theorem zav {f g:Nat→Rat}:∀n,(∀i,i<n→f i=g i)→S f n=S g n
  | 0,_=>rfl
  | n+1,h=>by simp only[S];rw[zav n (fun i hi=>h i (by omega)),h n (by omega)]
theorem zoq (f g:Nat→Rat):∀n,S (fun i=>f i+g i) n=S f n+S g n
  | 0=>by simp only[S];grind
  | n+1=>by simp only[S,zoq f g n];grind
theorem zjL (c:Rat) (f:Nat→Rat):∀n,S (fun i=>c*f i) n=c*S f n
  | 0=>by simp only[S];grind
  | n+1=>by simp only[S,zjL c f n];grind
theorem zex (c:Rat) (f:Nat→Rat) (n:Nat):S (fun i=>f i*c) n=S f n*c:=by
  rw[zav n (g:=fun i=>c*f i) (fun i _=>by grind),zjL];grind
theorem ztk:∀n,S (fun _=>0) n=0
  | 0=>rfl
  | n+1=>by simp only[S,ztk n];grind
theorem S_z {f:Nat→Rat} {n:Nat} (h:∀i,i<n→f i=0):S f n=0:=(zav n h).trans (ztk n)
theorem zjt (f:Nat→Nat→Rat) (m:Nat):∀n,S (fun i=>S (fun j=>f i j) m) n=S (fun j=>S (fun i=>f i j) n) m
  | 0=>by simp only[S];exact (ztk m).symm
  | n+1=>by simp only[S];rw[zjt f m n,zoq]
theorem zfo {f:Nat→Rat} {p:Nat}:∀ {n},p<n→(∀i,i<n→i≠p→f i=0)→S f n=f p
  | n + 1,hp,h=>by
    simp only[S]
    by_cases e:p=n
    · subst e
      rw[S_z (fun i hi=>h i (by omega) (by omega))];grind
    · rw[zfo (n:=n) (by omega) (fun i hi hq=>h i (by omega) hq),h n (by omega) (by omega)];grind
theorem S_le {f g:Nat→Rat}:∀n,(∀i,i<n→f i≤g i)→S f n≤S g n
  | 0,_=>by simp only[S];grind
  | n+1,h=>by
    have h1:=S_le n (fun i hi=>h i (by omega))
    have h2:=h n (by omega)
    simp only[S];grind
def dl (i j:Nat):Rat:=if i=j then 1 else 0
theorem zdG (i:Nat):dl i i=1:=if_pos rfl
theorem zcK {i j:Nat} (h:i≠j):dl i j=0:=if_neg h
structure Inv (n:Nat) (A G:Nat→Nat→Rat):Prop where
  ga:∀i j,i<n→j<n→S (fun k=>G i k*A k j) n=dl i j
  ag:∀k l,k<n→l<n→S (fun j=>A k j*G j l) n=dl k l
abbrev lam (n:Nat) (G:Nat→Nat→Rat) (v:Nat→Rat) (k:Nat):Rat:=S (fun i=>v i*G i k) n
theorem co {n:Nat} {A G:Nat→Nat→Rat} (h:Inv n A G) (v:Nat→Rat) {j:Nat} (hj:j<n):S (fun k=>lam n G v k*A k j) n=v j:=by
  have e1:S (fun k=>lam n G v k*A k j) n=S (fun k=>S (fun i=>v i*G i k*A k j) n) n:=
    zav n fun k _=>(zex (A k j) (fun i=>v i*G i k) n).symm
  rw[e1,zjt]
  have e2:S (fun i=>S (fun k=>v i*G i k*A k j) n) n=S (fun i=>v i*dl i j) n:=zav n fun i hi=>by
    rw[←h.ga i j hi hj,←zjL]
    exact zav n fun k _=>by grind
  rw[e2,zfo hj (fun i hi hne=>by rw[zcK hne];grind),zdG];grind
theorem zui {n:Nat} {A G G':Nat→Nat→Rat} (h:Inv n A G) (h':Inv n A G') {i k:Nat} (hi:i<n) (hk:k<n):G i k=G' i k:=by
  have e1:S (fun l=>G i l*S (fun j=>A l j*G' j k) n) n=G i k:=by
    rw[zfo (p:=k) hk (fun l hl hne=>by rw[h'.ag l k hl hk,zcK hne];grind),h'.ag k k hk hk,zdG];grind
  have e2:S (fun l=>G i l*S (fun j=>A l j*G' j k) n) n=S (fun j=>S (fun l=>G i l*A l j) n*G' j k) n:=by
    rw[zav n (g:=fun l=>S (fun j=>G i l*(A l j*G' j k)) n) (fun l _=>(zjL _ _ n).symm),zjt]
    exact zav n fun j _=>by
      rw[←zex];exact zav n fun l _=>by grind
  rw[←e1,e2,zfo (p:=i) hi (fun j hj hne=>by rw[h.ga i j hi hj,zcK (Ne.symm hne)];grind),h.ga i i hi hi,zdG];grind
def pivA (A:Nat→Nat→Rat) (p:Nat) (v:Nat→Rat) (k:Nat):Nat→Rat:=if k=p then v else A k
def pivG (n:Nat) (G:Nat→Nat→Rat) (p:Nat) (v:Nat→Rat) (j k:Nat):Rat:=
  if k=p then G j p*(lam n G v p)⁻¹ else G j k - lam n G v k*(G j p*(lam n G v p)⁻¹)
theorem zxi (f g:Nat→Rat) (n:Nat):S (fun i=>f i - g i) n=S f n - S g n:=by
  have h1:=zoq f (fun i=>(-1)*g i) n
  rw[zjL] at h1
  rw[zav n (g:=fun i=>f i+(-1)*g i) (fun i _=>by grind),h1];grind
theorem zrA {n:Nat} {G:Nat→Nat→Rat} {p:Nat} {v:Nat→Rat} (u:Nat→Rat) (k:Nat) :
    S (fun j=>u j*pivG n G p v j k) n=if k=p then lam n G u p*(lam n G v p)⁻¹ else lam n G u k - lam n G v k*(lam n G u p*(lam n G v p)⁻¹):=by
  by_cases hk:k=p
  · rw[if_pos hk,zav n (g:=fun j=>(u j*G j p)*(lam n G v p)⁻¹) (fun j _=>by simp only[pivG];rw[if_pos hk];grind),zex]
  · rw[if_neg hk,zav n (g:=fun j=>u j*G j k - (u j*G j p)*(lam n G v k*(lam n G v p)⁻¹)) (fun j _=>by simp only[pivG];rw[if_neg hk];grind),zxi,zex]
    simp only[lam];grind
theorem piv {n:Nat} {A G:Nat→Nat→Rat} (h:Inv n A G) {p:Nat} (hp:p<n) {v:Nat→Rat} (hl:lam n G v p≠0):Inv n (pivA A p v) (pivG n G p v):=by
  have hli:lam n G v p*(lam n G v p)⁻¹=1:=Rat.mul_inv_cancel _ hl
  refine⟨fun i j hi hj=>?_,fun k l hk hln=>?_⟩
  · have e:∀k,k<n→pivG n G p v i k*pivA A p v k j=(G i k*A k j - (lam n G v k*A k j)*(G i p*(lam n G v p)⁻¹))+(if k=p then (G i p*(lam n G v p)⁻¹)*v j else 0):=fun k hk=>by
      simp only[pivG,pivA]
      by_cases e:k=p
      · subst e
        rw[if_pos rfl,if_pos rfl,if_pos rfl]
        have:lam n G v k*A k j*(G i k*(lam n G v k)⁻¹)=(lam n G v k*(lam n G v k)⁻¹)*(A k j*G i k):=by grind
        rw[this,hli];grind
      · rw[if_neg e,if_neg e,if_neg e];grind
    rw[zav n e,zoq,zxi,zex,h.ga i j hi hj,co h v hj,zfo (p:=p) hp (fun k _ hne=>if_neg hne),if_pos rfl];grind
  · have hd:S (fun j=>pivA A p v k j*pivG n G p v j l) n=_:=zrA (pivA A p v k) l
    rw[hd]
    have hkp:lam n G (pivA A p v k) p=if k=p then lam n G v p else 0:=by
      by_cases e:k=p
      · rw[if_pos e];simp only[lam,pivA];rw[if_pos e]
      · rw[if_neg e];simp only[lam,pivA];rw[if_neg e]
        exact (h.ag k p hk hp).trans (zcK e)
    have hkl:l≠p→lam n G (pivA A p v k) l=if k=p then lam n G v l else dl k l:=fun hlp=>by
      by_cases e:k=p
      · rw[if_pos e];simp only[lam,pivA];rw[if_pos e]
      · rw[if_neg e];simp only[lam,pivA];rw[if_neg e]
        exact h.ag k l hk hln
    by_cases el:l=p
    · rw[if_pos el,hkp]
      by_cases e:k=p
      · rw[if_pos e,hli,e,el,zdG]
      · rw[if_neg e,el,zcK e];grind
    · rw[if_neg el,hkp,hkl el]
      by_cases e:k=p
      · rw[if_pos e,if_pos e,hli,e,zcK (Ne.symm el)];grind
      · rw[if_neg e,if_neg e];grind
/-! ### The order of lists -/
def lpos (m:Nat) (v:Nat→Rat):Prop:=∃t,t<m∧(∀s,s<t→v s=0)∧0<v t
def lnn (m:Nat) (v:Nat→Rat):Prop:=(∀t,t<m→v t=0)∨lpos m v
theorem zfd {m:Nat} {u v:Nat→Rat} (h:∀t,t<m→u t=v t) (hu:lpos m u):lpos m v:=by
  obtain⟨t,h1,h2,h3⟩:=hu
  exact⟨t,h1,fun s hs=>by rw[←h s (by omega)];exact h2 s hs,by rw[←h t h1];exact h3⟩
theorem zgi {m:Nat} {u v:Nat→Rat} (h:∀t,t<m→u t=v t) (hu:lnn m u):lnn m v:=by
  rcases hu with hu|hu
  · exact .inl fun t ht=>by rw[←h t ht];exact hu t ht
  · exact .inr (zfd h hu)
theorem zph {m:Nat} {u v:Nat→Rat} (hu:lpos m u) (hv:lnn m v):lpos m (fun t=>u t+v t):=by
  obtain⟨t,h1,h2,h3⟩:=hu
  rcases hv with hv|⟨s,g1,g2,g3⟩
  · exact⟨t,h1,fun s hs=>by show u s+v s=0;rw[h2 s hs,hv s (by omega)];grind,by show 0<u t+v t;rw[hv t h1];grind⟩
  · rcases Nat.lt_trichotomy s t with h|h|h
    · exact⟨s,g1,fun r hr=>by show u r+v r=0;rw[h2 r (by omega),g2 r hr];grind,by show 0<u s+v s;rw[h2 s h];grind⟩
    · subst h
      exact⟨s,g1,fun r hr=>by show u r+v r=0;rw[h2 r hr,g2 r hr];grind,by show 0<u s+v s;grind⟩
    · exact⟨t,h1,fun r hr=>by show u r+v r=0;rw[h2 r hr,g2 r (by omega)];grind,by show 0<u t+v t;rw[g2 t h];grind⟩
theorem zws {m:Nat} {u v:Nat→Rat} (hu:lnn m u) (hv:lnn m v):lnn m (fun t=>u t+v t):=by
  rcases hu with hu|hu
  · exact zgi (fun t ht=>by show v t=u t+v t;rw[hu t ht];grind) hv
  · exact .inr (zph hu hv)
theorem zk7 {m:Nat} {c:Rat} {v:Nat→Rat} (hc:0<c) (hv:lpos m v):lpos m (fun t=>c*v t):=by
  obtain⟨t,h1,h2,h3⟩:=hv
  exact⟨t,h1,fun s hs=>by show c*v s=0;rw[h2 s hs];grind,Rat.mul_pos hc h3⟩
theorem znY {m:Nat} {c:Rat} {v:Nat→Rat} (hc:0≤c) (hv:lnn m v):lnn m (fun t=>c*v t):=by
  rcases Rat.le_iff_lt_or_eq.1 hc with h|h
  · rcases hv with hv|hv
    · exact .inl fun t ht=>by show c*v t=0;rw[hv t ht];grind
    · exact .inr (zk7 h hv)
  · exact .inl fun t ht=>by show c*v t=0;rw[←h];grind
theorem zsj:∀(m:Nat) (v:Nat→Rat),lnn m v∨lpos m (fun t=>- v t)
  | 0,v=>.inl (.inl fun t ht=>absurd ht (Nat.not_lt_zero t))
  | m + 1, v=>by
    rcases zsj m v with (h|⟨t,h1,h2,h3⟩)|⟨t,h1,h2,h3⟩
    · have e:v m<0∨v m=0∨0<v m:=by grind
      rcases e with e|e|e
      · exact .inr ⟨m,Nat.lt_succ_self m,fun s hs=>by show - v s=0;rw[h s hs];grind,by show 0 < - v m;grind⟩
      · exact .inl (.inl fun t ht=>by
          by_cases q:t=m
          · rw[q];exact e
          · exact h t (by omega))
      · exact .inl (.inr ⟨m,Nat.lt_succ_self m,h,e⟩)
    · exact .inl (.inr ⟨t,by omega,h2,h3⟩)
    · exact .inr ⟨t,by omega,h2,h3⟩
theorem zwp {m:Nat} {v:Nat→Rat} (h:lpos m v):∃t,t<m∧v t≠0:=by
  obtain⟨t,h1,_,h3⟩:=h
  exact⟨t,h1,by grind⟩
def llt (m:Nat) (u v:Nat→Rat):Prop:=lpos m (fun t=>v t - u t)
theorem zsb {m:Nat} {u:Nat→Rat}:¬llt m u u:=fun h=>by
  obtain⟨t,_,h2⟩:=zwp h
  exact h2 (by grind)
theorem zsa {m:Nat} {u v w:Nat→Rat} (h1:llt m u v) (h2:llt m v w):llt m u w:=
  zfd (fun t _=>by show (v t - u t)+(w t - v t)=w t - u t;grind) (zph h1 (.inr h2))
theorem zwu {α:Type} {m:Nat} (val:α→Nat→Rat):∀(l:List α),l≠[]→∃x∈l,∀y∈l,¬llt m (val y) (val x)
  | [],h=>absurd rfl h
  | [x],_=>⟨x,List.mem_cons_self,fun y hy=>by
      rcases List.mem_cons.1 hy with rfl|hy
      · exact zsb
      · cases hy⟩
  | x :: z::r,_=>by
    obtain⟨y,hy,hm⟩:=zwu (m:=m) val (z::r) (by simp)
    by_cases h:llt m (val x) (val y)
    · refine⟨x,List.mem_cons_self,fun w hw=>?_⟩
      rcases List.mem_cons.1 hw with rfl|hw
      · exact zsb
      · exact fun h2=>hm w hw (zsa h2 h)
    · refine⟨y,List.mem_cons_of_mem _ hy,fun w hw=>?_⟩
      rcases List.mem_cons.1 hw with rfl|hw
      · exact h
      · exact hm w hw
/-! ### Bases -/
def allB:Nat→Nat→List (List Nat)
  | 0,_=>[[]]
  | n+1,M=>(List.range M).flatMap fun r=>(allB n M).map (r :: ·)
theorem zgD:∀ {n M:Nat} {l:List Nat},l∈allB n M↔l.length=n∧∀x∈l,x<M
  | 0,M,l=>by
    simp only[allB,List.mem_singleton]
    constructor
    · rintro rfl;exact⟨rfl,fun x hx=>by cases hx⟩
    · exact fun h=>List.length_eq_zero_iff.1 h.1
  | n + 1,M,l=>by
    simp only[allB,List.mem_flatMap,List.mem_range,List.mem_map]
    constructor
    · rintro⟨r,hr,t,ht,rfl⟩
      obtain⟨h1,h2⟩:=zgD.1 ht
      refine⟨by simp[h1],fun x hx=>?_⟩
      rcases List.mem_cons.1 hx with rfl|hx
      · exact hr
      · exact h2 x hx
    · rintro⟨h1,h2⟩
      match l,h1 with
      | r::t,h1=>exact⟨r,h2 r List.mem_cons_self,t,zgD.2 ⟨by simpa using h1,fun x hx=>h2 x (List.mem_cons_of_mem _ hx)⟩,rfl⟩
abbrev bN (B:List Nat) (k:Nat):Nat:=B.getD k 0
abbrev rw' (a:Nat→Nat→Rat) (B:List Nat) (k:Nat):Nat→Rat:=a (bN B k)
theorem znh {B:List Nat} {p r k:Nat} (hp:p<B.length):bN (B.set p r) k=if k=p then r else bN B k:=by
  simp only[bN,List.getD_eq_getElem?_getD,List.getElem?_set]
  by_cases e:p=k
  · subst e;simp[hp]
  · rw[if_neg e,if_neg (fun h=>e h.symm)]
abbrev ptX (n:Nat) (b:Nat→Rat) (B:List Nat) (G:Nat→Nat→Rat) (j:Nat):Rat:=S (fun k=>G j k*b (bN B k)) n
theorem zvc {n:Nat} {b:Nat→Rat} {B:List Nat} {G:Nat→Nat→Rat} (u:Nat→Rat):S (fun j=>u j*ptX n b B G j) n=S (fun k=>lam n G u k*b (bN B k)) n:=by
  rw[zav n (g:=fun j=>S (fun k=>u j*(G j k*b (bN B k))) n) (fun j _=>(zjL _ _ n).symm),zjt]
  exact zav n fun k _=>by
    rw[←zex];exact zav n fun j _=>by grind
theorem lp {n M:Nat} {a:Nat→Nat→Rat} {b c x0:Nat→Rat} {B0:List Nat} {G0:Nat→Nat→Rat} {Q:List Nat→Prop} (hl0:B0.length=n) (hm0:∀x∈B0,x<M)
    (h0:Inv n (rw' a B0) G0) (hy0:∀k,k<n→0≤lam n G0 c k) (hQ0:Q B0) (hf:∀i,i<M→S (fun j=>a i j*x0 j) n≤b i)
    (hQ:∀B G p r,B.length=n→Inv n (rw' a B) G→p<n→r<M→lam n G (a r) p≠0→Q B→Q (B.set p r)) :
    ∃B G,B.length=n∧(∀x∈B,x<M)∧Inv n (rw' a B) G∧Q B∧(∀k,k<n→0≤lam n G c k)∧∀i,i<M→S (fun j=>a i j*ptX n b B G j) n≤b i:=by
  -- the lists that are compared: the weights of c, then those of the rows of the first basis
  obtain⟨ct,hct⟩:∃ct:Nat→Nat→Rat,ct=fun t=>match t with|0=>c|t+1=>rw' a B0 t:=⟨_,rfl⟩
  have ct0:ct 0=c:=by rw[hct]
  have ctS:∀t,ct (t+1)=rw' a B0 t:=fun t=>by rw[hct]
  obtain⟨good,hgood⟩:∃good:List Nat→(Nat→Nat→Rat)→Prop,good=fun B G=>Inv n (rw' a B) G∧Q B∧∀k,k<n→lnn (n+1) (fun t=>lam n G (ct t) k):=⟨_,rfl⟩
  have g0:good B0 G0:=by
    rw[hgood]
    refine⟨h0,hQ0,fun k hk=>?_⟩
    have e:∀t,t<n→lam n G0 (ct (t+1)) k=dl t k:=fun t ht=>by rw[ctS];exact h0.ag t k ht hk
    have h1:=hy0 k hk
    rw[←ct0] at h1
    rcases Rat.le_iff_lt_or_eq.1 h1 with h|h
    · exact .inr ⟨0,by omega,fun s hs=>absurd hs (Nat.not_lt_zero s),h⟩
    · refine .inr ⟨k+1,by omega,fun s hs=>?_,?_⟩
      · match s,hs with
        | 0,_=>exact h.symm
        | s+1,hs=>show lam n G0 (ct (s+1)) k=0;rw[e s (by omega)];exact zcK (by omega)
      · show 0<lam n G0 (ct (k+1)) k
        rw[e k hk,zdG];decide
  open Classical in
  obtain ⟨gof,hgof⟩:∃gof:List Nat→Nat→Nat→Rat,∀B,(∃G,good B G)→good B (gof B):=
    ⟨fun B=>if h:∃G,good B G then Classical.choose h else fun _ _=>0,fun B h=>by
      simp only[dif_pos h];exact Classical.choose_spec h⟩
  obtain⟨val,hval⟩:∃val:List Nat→Nat→Rat,val=fun B t=>S (fun k=>lam n (gof B) (ct t) k*b (bN B k)) n:=⟨_,rfl⟩
  open Classical in
  obtain ⟨B,hB,hmin⟩:=zwu (m:=n+1) val ((allB n M).filter fun B=>decide (∃G,good B G)) (fun h=>by
    have:B0∈(allB n M).filter fun B=>decide (∃G,good B G):=List.mem_filter.2 ⟨zgD.2 ⟨hl0,hm0⟩,decide_eq_true ⟨G0,g0⟩⟩
    rw[h] at this;cases this)
  open Classical in
  have hB':=List.mem_filter.1 hB
  obtain⟨hBl,hBm⟩:=zgD.1 hB'.1
  have hg:=hgof B (of_decide_eq_true hB'.2)
  obtain⟨G,hG⟩:∃G,G=gof B:=⟨_,rfl⟩
  rw[←hG] at hg
  have hg':=hg
  rw[hgood] at hg'
  obtain⟨hI,hQB,hY⟩:=hg'
  refine⟨B,G,hBl,hBm,hI,hQB,fun k hk=>?_,fun r hr=>?_⟩
  · have := hY k hk
    rw[←ct0]
    rcases this with h|⟨t,h1,h2,h3⟩
    · have e:lam n G (ct 0) k=0:=h 0 (by omega)
      rw[e];grind
    · match t,h1,h2,h3 with
      | 0,_,_,h3=>exact Rat.le_of_lt h3
      | t+1,_,h2,_=>
        have:=h2 0 (by omega)
        have e:lam n G (ct 0) k=0:=this
        rw[e];grind
  · rw [zvc]
    apply Classical.byContradiction
    intro hv
    have hv:b r<S (fun k=>lam n G (a r) k*b (bN B k)) n:=Rat.not_le.1 hv
    -- some weight of the row is above 0
    by_cases hK:∃k,k<n∧0<lam n G (a r) k
    · -- the one that leaves
      obtain⟨k0,hk0,hk1⟩:=hK
      obtain ⟨p,hp,hpm⟩:=zwu (m:=n+1) (fun k t=>(lam n G (a r) k)⁻¹*lam n G (ct t) k) ((List.range n).filter fun k=>decide (0<lam n G (a r) k)) (fun h=>by
        have:k0∈(List.range n).filter fun k=>decide (0<lam n G (a r) k):=List.mem_filter.2 ⟨List.mem_range.2 hk0,decide_eq_true hk1⟩
        rw[h] at this;cases this)
      have hp':=List.mem_filter.1 hp
      have hpn:p<n:=List.mem_range.1 hp'.1
      have hlp:0<lam n G (a r) p:=of_decide_eq_true hp'.2
      have hlp0:lam n G (a r) p≠0:=by grind
      have hli:0<(lam n G (a r) p)⁻¹:=Rat.inv_pos.2 hlp
      obtain⟨G',hG'⟩:∃G',G'=pivG n G p (a r):=⟨_,rfl⟩
      have hset:∀k,rw' a (B.set p r) k=pivA (rw' a B) p (a r) k:=fun k=>by
        simp only[rw',pivA]
        rw[znh (by omega)]
        by_cases e:k=p
        · rw[if_pos e,if_pos e]
        · rw[if_neg e,if_neg e]
      have hset':rw' a (B.set p r)=pivA (rw' a B) p (a r):=funext hset
      have hI':Inv n (rw' a (B.set p r)) G':=by rw[hset',hG'];exact piv hI hpn hlp0
      have hY':∀t k,lam n G' (ct t) k=if k=p then lam n G (ct t) p*(lam n G (a r) p)⁻¹ else lam n G (ct t) k - lam n G (a r) k*(lam n G (ct t) p*(lam n G (a r) p)⁻¹):=fun t k=>by
        rw[hG'];exact zrA (ct t) k
      have hYp:=znY (Rat.le_of_lt hli) (hY p hpn)
      have hgd : good (B.set p r) G':=by
        rw[hgood]
        refine⟨hI',hQ B G p r hBl hI hpn hr hlp0 hQB,fun k hk=>?_⟩
        by_cases e:k=p
        · refine zgi (fun t _=>?_) hYp
          show (lam n G (a r) p)⁻¹*lam n G (ct t) p=_
          rw[hY' t k,if_pos e];grind
        · by_cases hlk:0<lam n G (a r) k
          · have h1:¬llt (n+1) (fun t=>(lam n G (a r) k)⁻¹*lam n G (ct t) k) (fun t=>(lam n G (a r) p)⁻¹*lam n G (ct t) p):=hpm k (List.mem_filter.2 ⟨List.mem_range.2 hk,decide_eq_true hlk⟩)
            rcases zsj (n+1) (fun t=>(lam n G (a r) k)⁻¹*lam n G (ct t) k - (lam n G (a r) p)⁻¹*lam n G (ct t) p) with h2|h2
            · refine zgi (fun t _=>?_) (znY (Rat.le_of_lt hlk) h2)
              show lam n G (a r) k*((lam n G (a r) k)⁻¹*lam n G (ct t) k - (lam n G (a r) p)⁻¹*lam n G (ct t) p)=_
              rw[hY' t k,if_neg e]
              have e2:lam n G (a r) k*(lam n G (a r) k)⁻¹=1:=Rat.mul_inv_cancel _ (by grind)
              have e3:lam n G (a r) k*((lam n G (a r) k)⁻¹*lam n G (ct t) k - (lam n G (a r) p)⁻¹*lam n G (ct t) p)=(lam n G (a r) k*(lam n G (a r) k)⁻¹)*lam n G (ct t) k - lam n G (a r) k*((lam n G (a r) p)⁻¹*lam n G (ct t) p):=by grind
              rw[e3,e2];grind
            · exact absurd (zfd (fun t _=>by show -((lam n G (a r) k)⁻¹*lam n G (ct t) k - (lam n G (a r) p)⁻¹*lam n G (ct t) p)=_;grind) h2) h1
          · have hlk:0≤- lam n G (a r) k:=by have:=Rat.not_lt.1 hlk;grind
            refine zgi (fun t _=>?_) (zws (hY k hk) (znY hlk hYp))
            show lam n G (ct t) k+(-lam n G (a r) k)*((lam n G (a r) p)⁻¹*lam n G (ct t) p)=_
            rw[hY' t k,if_neg e];grind
      have hmem:B.set p r∈(allB n M).filter fun B=>decide (∃G,good B G):=List.mem_filter.2 ⟨zgD.2 ⟨by rw[List.length_set];exact hBl,fun x hx=>by
        rcases List.mem_or_eq_of_mem_set hx with h|h
        · exact hBm x h
        · rw[h];exact hr⟩,decide_eq_true ⟨G',hgd⟩⟩
      refine hmin _ hmem ?_
      -- its value is less
      have hgf:=hgof (B.set p r) ⟨G',hgd⟩
      rw[hgood] at hgf
      have hu:∀i k,i<n→k<n→gof (B.set p r) i k=G' i k:=fun i k hi hk=>zui hgf.1 hI' hi hk
      have e1:∀t,val (B.set p r) t=S (fun k=>lam n G' (ct t) k*b (bN (B.set p r) k)) n:=fun t=>by
        rw[hval]
        refine zav n fun k hk=>?_
        have:lam n (gof (B.set p r)) (ct t) k=lam n G' (ct t) k:=zav n fun i hi=>by rw[hu i k hi hk]
        rw[this]
      have e2:∀t,val B t=S (fun k=>lam n G (ct t) k*b (bN B k)) n:=fun t=>by rw[hval,hG]
      have e3:∀t,val B t - val (B.set p r) t=(S (fun k=>lam n G (a r) k*b (bN B k)) n - b r)*((lam n G (a r) p)⁻¹*lam n G (ct t) p):=fun t=>by
        rw [e1,e2,zav n (g:=fun k=>(lam n G (ct t) k*b (bN B k) - (lam n G (a r) k*b (bN B k))*(lam n G (ct t) p*(lam n G (a r) p)⁻¹))+(if k=p then (lam n G (ct t) p*(lam n G (a r) p)⁻¹)*b r else 0)) (f:=fun k=>lam n G' (ct t) k*b (bN (B.set p r) k)) (fun k hk=>by
          rw[hY' t k,znh (by omega)]
          by_cases e:k=p
          · subst e
            rw[if_pos rfl,if_pos rfl,if_pos rfl]
            have:lam n G (a r) k*b (bN B k)*(lam n G (ct t) k*(lam n G (a r) k)⁻¹)=(lam n G (a r) k*(lam n G (a r) k)⁻¹)*(b (bN B k)*lam n G (ct t) k):=by grind
            rw[this,Rat.mul_inv_cancel _ hlp0];grind
          · rw[if_neg e,if_neg e,if_neg e];grind),zoq,zxi,zex,zfo (p:=p) hpn (fun k _ hne=>if_neg hne),if_pos rfl]
        grind
      refine zfd (fun t _=>(e3 t).symm) (zk7 (by grind) (zk7 hli ?_))
      rcases hY p hpn with hz|hz
      · exfalso
        have q1:∀j,j<n→G j p=0:=fun j hj=>by
          have q2:S (fun t=>G0 j t*lam n G (ct (t+1)) p) n=0:=S_z fun t ht=>by
            have:lam n G (ct (t+1)) p=0:=hz (t+1) (by omega)
            rw[this];grind
          have q3:S (fun t=>G0 j t*lam n G (ct (t+1)) p) n=S (fun i=>S (fun t=>G0 j t*rw' a B0 t i) n*G i p) n:=by
            rw[zav n (g:=fun t=>S (fun i=>G0 j t*(rw' a B0 t i*G i p)) n) (fun t _=>by rw[ctS];exact (zjL _ _ n).symm),zjt]
            exact zav n fun i _=>by rw[←zex];exact zav n fun t _=>by grind
          rw[q3,zfo (p:=j) hj (fun i hi hne=>by rw[h0.ga j i hj hi,zcK (Ne.symm hne)];grind),h0.ga j j hj hj,zdG] at q2
          grind
        have q4:=hI.ag p p hpn hpn
        rw[S_z (fun j hj=>by rw[q1 j hj];grind),zdG] at q4
        exact absurd q4 (by decide)
      · exact hz
    · -- otherwise no point is within the bounds
      have h1:=hf r hr
      have h2:S (fun j=>a r j*x0 j) n=S (fun k=>lam n G (a r) k*S (fun j=>rw' a B k j*x0 j) n) n:=by
        rw [zav n (g:=fun j=>S (fun k=>lam n G (a r) k*(rw' a B k j*x0 j)) n) (fun j hj=>by
          show a r j*x0 j=S (fun k=>lam n G (a r) k*(rw' a B k j*x0 j)) n
          have:S (fun k=>lam n G (a r) k*(rw' a B k j*x0 j)) n=S (fun k=>lam n G (a r) k*rw' a B k j) n*x0 j:=by
            rw[←zex];exact zav n fun k _=>by grind
          rw[this,co hI (a r) hj]),zjt]
        exact zav n fun k _=>zjL _ _ n
      have h3:S (fun k=>lam n G (a r) k*b (bN B k)) n≤S (fun k=>lam n G (a r) k*S (fun j=>rw' a B k j*x0 j) n) n:=S_le n fun k hk=>by
        have h4:lam n G (a r) k≤0:=Rat.not_lt.1 fun h=>hK ⟨k,hk,h⟩
        have h5:S (fun j=>rw' a B k j*x0 j) n≤b (bN B k):=hf (bN B k) (hBm _ (by
          have:bN B k=B[k]'(by omega):=by simp[bN,List.getD,List.getElem?_eq_getElem (show k<B.length by omega)]
          rw[this];exact List.getElem_mem _))
        have h6:0≤(-lam n G (a r) k)*(b (bN B k) - S (fun j=>rw' a B k j*x0 j) n):=Rat.mul_nonneg (by grind) (by grind)
        grind
      rw[←h2] at h3
      have:=Rat.le_trans h3 h1
      exact absurd hv (Rat.not_lt.2 this)
end Go.Eng.LP
namespace Go.Eng.LP
set_option linter.all false
set_option maxRecDepth 100000
set_option maxHeartbeats 4000000
def sg (k:Nat):Rat:=if k % 2=0 then 1 else -1
def D:Nat→(Nat→Nat→Rat)→Rat
  | 0,_=>1
  | n+1,A=>S (fun k=>sg k*A 0 k*D n (fun i j=>A (i+1) (if j<k then j else j+1))) (n+1)
theorem D1 (A:Nat→Nat→Rat):D 1 A=A 0 0:=by
  simp[D,S,sg];grind
theorem D2 (A:Nat→Nat→Rat):D 2 A=A 0 0*A 1 1 - A 0 1*A 1 0:=by
  simp[D,S,sg];grind
theorem D3 (A:Nat→Nat→Rat):D 3 A=A 0 0*(A 1 1*A 2 2 - A 1 2*A 2 1) - A 0 1*(A 1 0*A 2 2 - A 1 2*A 2 0)+A 0 2*(A 1 0*A 2 1 - A 1 1*A 2 0):=by
  simp[D,S,sg];grind
theorem D4 (A:Nat→Nat→Rat):D 4 A=A 0 0*(A 1 1*(A 2 2*A 3 3 - A 2 3*A 3 2) - A 1 2*(A 2 1*A 3 3 - A 2 3*A 3 1)+A 1 3*(A 2 1*A 3 2 - A 2 2*A 3 1))
    - A 0 1*(A 1 0*(A 2 2*A 3 3 - A 2 3*A 3 2) - A 1 2*(A 2 0*A 3 3 - A 2 3*A 3 0)+A 1 3*(A 2 0*A 3 2 - A 2 2*A 3 0))
    + A 0 2*(A 1 0*(A 2 1*A 3 3 - A 2 3*A 3 1) - A 1 1*(A 2 0*A 3 3 - A 2 3*A 3 0)+A 1 3*(A 2 0*A 3 1 - A 2 1*A 3 0))
    - A 0 3*(A 1 0*(A 2 1*A 3 2 - A 2 2*A 3 1) - A 1 1*(A 2 0*A 3 2 - A 2 2*A 3 0)+A 1 2*(A 2 0*A 3 1 - A 2 1*A 3 0)):=by
  simp[D,S,sg];grind
theorem zfU:∀(n:Nat) {A A':Nat→Nat→Rat},(∀i j,i<n→j<n→A i j=A' i j)→D n A=D n A'
  | 0,_,_,_=>rfl
  | n+1,A,A',h=>by
    simp only[D]
    refine zav _ fun k hk=>?_
    rw[h 0 k (by omega) hk,zfU n (fun i j hi hj=>h (i+1) (if j<k then j else j+1) (by omega) (by split<;>omega))]
def swA (A:Nat→Nat→Rat) (p:Nat) (k:Nat):Nat→Rat:=if k=p then A (p+1) else if k=p+1 then A p else A k
theorem D_sw {n p:Nat} (hn:n≤4) (hp:p+1<n) (A:Nat→Nat→Rat):D n (swA A p) = - D n A:=by
  match n,p,hn,hp with
  | 2,0,_,_=>rw[D2,D2];simp[swA];grind
  | 3,0,_,_=>rw[D3,D3];simp[swA];grind
  | 3,1,_,_=>rw[D3,D3];simp[swA];grind
  | 4,0,_,_=>rw[D4,D4];simp[swA];grind
  | 4,1,_,_=>rw[D4,D4];simp[swA];grind
  | 4,2,_,_=>rw[D4,D4];simp[swA];grind
theorem S2 (f:Nat→Rat):S f 2=f 0+f 1:=by simp only[S];grind
theorem S3 (f:Nat→Rat):S f 3=f 0+f 1+f 2:=by simp only[S];grind
theorem S4 (f:Nat→Rat):S f 4=f 0+f 1+f 2+f 3:=by simp only[S];grind
theorem zAV {n p:Nat} (hn:n≤4) (hp:p<n) (A:Nat→Nat→Rat) (l:Nat→Rat):D n (pivA A p fun j=>S (fun k=>l k*A k j) n)=l p*D n A:=by
  match n,p,hn,hp with
  | 1,0,_,_=>rw[D1,D1];simp[pivA,S];grind
  | 2,0,_,_=>rw[D2,D2];simp[pivA,S2];grind
  | 2,1,_,_=>rw[D2,D2];simp[pivA,S2];grind
  | 3,0,_,_=>rw[D3,D3];simp[pivA,S3];grind
  | 3,1,_,_=>rw[D3,D3];simp[pivA,S3];grind
  | 3,2,_,_=>rw[D3,D3];simp[pivA,S3];grind
  | 4,0,_,_=>rw[D4,D4];simp[pivA,S4];grind
  | 4,1,_,_=>rw[D4,D4];simp[pivA,S4];grind
  | 4,2,_,_=>rw[D4,D4];simp[pivA,S4];grind
  | 4,3,_,_=>rw[D4,D4];simp[pivA,S4];grind
def colA (A:Nat→Nat→Rat) (p:Nat) (v:Nat→Rat) (i j:Nat):Rat:=if j=p then v i else A i j
theorem zAX {n p:Nat} (hn:n≤4) (hp:p<n) (A:Nat→Nat→Rat) (x:Nat→Rat):D n (colA A p fun i=>S (fun k=>A i k*x k) n)=D n A*x p:=by
  match n,p,hn,hp with
  | 1,0,_,_=>rw[D1,D1];simp[colA,S];grind
  | 2,0,_,_=>rw[D2,D2];simp[colA,S2];grind
  | 2,1,_,_=>rw[D2,D2];simp[colA,S2];grind
  | 3,0,_,_=>rw[D3,D3];simp[colA,S3];grind
  | 3,1,_,_=>rw[D3,D3];simp[colA,S3];grind
  | 3,2,_,_=>rw[D3,D3];simp[colA,S3];grind
  | 4,0,_,_=>rw[D4,D4];simp[colA,S4];grind
  | 4,1,_,_=>rw[D4,D4];simp[colA,S4];grind
  | 4,2,_,_=>rw[D4,D4];simp[colA,S4];grind
  | 4,3,_,_=>rw[D4,D4];simp[colA,S4];grind
theorem zp3 {A:Nat→Nat→Rat} {p:Nat} {u v:Nat→Rat} {n:Nat} (h:∀j,j<n→u j=v j) (i j:Nat) (hj:j<n):pivA A p u i j=pivA A p v i j:=by
  simp only[pivA];split
  · exact h j hj
  · rfl
theorem zAW {n p:Nat} (hn:n≤4) (hp:p<n) {A G:Nat→Nat→Rat} (h:Inv n A G) (v:Nat→Rat):D n (pivA A p v)=lam n G v p*D n A:=by
  rw[←zAV hn hp A (lam n G v)]
  exact zfU n fun i j hi hj=>zp3 (n:=n) (fun j hj=>(co h v hj).symm) i j hj
theorem zxD {n p:Nat} (hp:p+1<n) {A G:Nat→Nat→Rat} (h:Inv n A G):∃G',Inv n (swA A p) G'∧(∀v k,k<n→∃k',k'<n∧lam n G' v k=lam n G v k'):=by
  obtain⟨τ,hτ⟩:∃τ:Nat→Nat,τ=fun k=>if k=p then p+1 else if k=p+1 then p else k:=⟨_,rfl⟩
  have t1:∀k,swA A p k=A (τ k):=fun k=>by
    rw[hτ];simp only[swA]
    by_cases e:k=p
    · rw[if_pos e,if_pos e]
    · rw[if_neg e,if_neg e]
      by_cases e2:k=p+1
      · rw[if_pos e2,if_pos e2]
      · rw[if_neg e2,if_neg e2]
  have t2:∀k,k<n→τ k<n:=fun k hk=>by rw[hτ];show (if _ then _ else _)<n;split<;>(try split)<;>omega
  have t3:∀k,τ (τ k)=k:=fun k=>by
    rw[hτ];dsimp only
    by_cases e:k=p
    · subst e;rw[if_pos rfl,if_neg (by omega),if_pos rfl]
    · rw[if_neg e]
      by_cases e2:k=p+1
      · subst e2;rw[if_pos rfl,if_pos rfl]
      · rw[if_neg e2,if_neg e,if_neg e2]
  have tS:∀f:Nat→Rat,S (fun k=>f (τ k)) n=S f n:=fun f=>by
    have e1:∀k,f (τ k)=f k+((if k=p then f (p+1) - f p else 0)+(if k=p+1 then f p - f (p+1) else 0)):=fun k=>by
      rw[hτ];dsimp only
      by_cases e:k=p
      · subst e;rw[if_pos rfl,if_pos rfl,if_neg (by omega)];grind
      · rw[if_neg e,if_neg e]
        by_cases e2:k=p+1
        · subst e2;rw[if_pos rfl,if_pos rfl];grind
        · rw[if_neg e2,if_neg e2];grind
    rw[zav n (fun k _=>e1 k),zoq,zoq,zfo (p:=p) (by omega) (fun k _ hne=>if_neg hne),zfo (p:=p+1) (by omega) (fun k _ hne=>if_neg hne),if_pos rfl,if_pos rfl];grind
  refine⟨fun j k=>G j (τ k),⟨fun i j hi hj=>?_,fun k l hk hl=>?_⟩,fun v k hk=>⟨τ k,t2 k hk,rfl⟩⟩
  · rw[zav n (g:=fun k=>(fun k=>G i k*A k j) (τ k)) (fun k _=>by rw[t1])]
    exact (tS (fun k=>G i k*A k j)).trans (h.ga i j hi hj)
  · rw[zav n (g:=fun j=>A (τ k) j*G j (τ l)) (fun j _=>by rw[t1]),h.ag _ _ (t2 k hk) (t2 l hl)]
    by_cases e:k=l
    · rw[e,zdG,zdG]
    · rw[zcK e,zcK fun q=>e (by rw[←t3 k,←t3 l,q])]
theorem zwd {n:Nat} {a:Nat→Nat→Rat} {b:Nat→Rat} {B:List Nat} {G:Nat→Nat→Rat} (h:Inv n (rw' a B) G) {k:Nat} (hk:k<n):S (fun j=>rw' a B k j*ptX n b B G j) n=b (bN B k):=by
  rw [zvc,zfo (p:=k) hk (fun l hl hne=>by
    have:lam n G (rw' a B k) l=0:=(h.ag k l hk hl).trans (zcK (Ne.symm hne))
    rw[this];grind)]
  have:lam n G (rw' a B k) k=1:=(h.ag k k hk hk).trans (zdG k)
  rw[this];grind
theorem zwc {n:Nat} {A G:Nat→Nat→Rat} (h:Inv n A G) {x y:Nat→Rat} (he:∀k,k<n→S (fun j=>A k j*x j) n=S (fun j=>A k j*y j) n) {i:Nat} (hi:i<n):x i=y i:=by
  have key:∀z:Nat→Rat,S (fun k=>G i k*S (fun j=>A k j*z j) n) n=z i:=fun z=>by
    rw [zav n (g:=fun k=>S (fun j=>G i k*(A k j*z j)) n) (fun k _=>(zjL _ _ n).symm),zjt,
      zav n (g:=fun j=>dl i j*z j) (fun j hj=>by rw[←h.ga i j hi hj,←zex];exact zav n fun k _=>by grind),zfo (p:=i) hi (fun j _ hne=>by rw[zcK (Ne.symm hne)];grind),zdG];grind
  rw[←key x,←key y]
  exact zav n fun k hk=>by rw[he k hk]
structure Fin' (n M:Nat) (a:Nat→Nat→Rat) (b c:Nat→Rat) (B:List Nat) (G:Nat→Nat→Rat):Prop where
  len:B.length=n
  lt:∀x∈B,x<M
  inv:Inv n (rw' a B) G
  det:D n (rw' a B)≠0
  y:∀k,k<n→0≤lam n G c k
  x:∀i,i<M→S (fun j=>a i j*ptX n b B G j) n≤b i
def mu (B:List Nat):Nat→Nat
  | 0=>0
  | k+1=>mu B k+(4 - k)*bN B k
theorem zpd {B B':List Nat}:∀k,(∀i,i<k→bN B i=bN B' i)→mu B k=mu B' k
  | 0,_=>rfl
  | k+1,h=>by simp only[mu];rw[zpd k (fun i hi=>h i (by omega)),h k (by omega)]
theorem zvh {n M:Nat} {a:Nat→Nat→Rat} {b c:Nat→Rat}:∀(N:Nat) {B G},Fin' n M a b c B G→mu B n≤N→∃B G,Fin' n M a b c B G∧∀B' G',Fin' n M a b c B' G'→mu B n≤mu B' n
  | 0,B,G,h,hN=>⟨B,G,h,fun B' G' _=>by omega⟩
  | N + 1,B,G,h,hN=>by
    by_cases hx:∃B' G',Fin' n M a b c B' G'∧mu B' n≤N
    · obtain⟨B',G',h1,h2⟩:=hx
      exact zvh N h1 h2
    · refine⟨B,G,h,fun B' G' h'=>?_⟩
      apply Classical.byContradiction
      intro hlt
      exact hx ⟨B',G',h',by omega⟩
theorem zr9 {n M:Nat} (hn:n≤4) {a:Nat→Nat→Rat} {b c:Nat→Rat} {B G} (h:Fin' n M a b c B G):∃B G,Fin' n M a b c B G∧∀k,k+1<n→bN B k<bN B (k+1):=by
  obtain⟨B,G,h,hm⟩:=zvh (mu B n) h (Nat.le_refl _)
  refine⟨B,G,h,fun k hk=>?_⟩
  have hl:=h.len
  rcases Nat.lt_trichotomy (bN B k) (bN B (k+1)) with q|q|q
  · exact q
  · exfalso
    have e1:=h.inv.ag k k (by omega) (by omega)
    have e2:=h.inv.ag (k+1) k (by omega) (by omega)
    have e3:rw' a B (k+1)=rw' a B k:=by simp only[rw'];rw[q]
    rw[e3,e1,zdG,zcK (by omega)] at e2
    exact absurd e2 (by decide)
  · exfalso
    obtain⟨B',hB'⟩:∃B',B'=(B.set k (bN B (k+1))).set (k+1) (bN B k):=⟨_,rfl⟩
    have hb:∀i,bN B' i=if i=k then bN B (k+1) else if i=k+1 then bN B k else bN B i:=fun i=>by
      rw[hB',znh (by rw[List.length_set];omega),znh (by omega)]
      by_cases e:i=k
      · subst e;rw[if_neg (by omega),if_pos rfl,if_pos rfl]
      · rw[if_neg e,if_neg e]
    have hr:rw' a B'=swA (rw' a B) k:=by
      funext i
      simp only[rw',swA]
      rw[hb]
      by_cases e:i=k
      · rw[if_pos e,if_pos e]
      · rw[if_neg e,if_neg e]
        by_cases e2:i=k+1
        · rw[if_pos e2,if_pos e2]
        · rw[if_neg e2,if_neg e2]
    obtain⟨G',h1,h2⟩:=zxD hk h.inv
    have hI:Inv n (rw' a B') G':=by rw[hr];exact h1
    have hpt:∀j,j<n→ptX n b B' G' j=ptX n b B G j:=fun j hj=>by
      refine zwc hI (fun i hi=>?_) hj
      rw[zwd hI hi]
      have e1:∃i',i'<n∧bN B' i=bN B i':=by
        rw[hb]
        by_cases e:i=k
        · rw[if_pos e];exact⟨k+1,hk,rfl⟩
        · rw[if_neg e]
          by_cases e2:i=k+1
          · rw[if_pos e2];exact⟨k,by omega,rfl⟩
          · rw[if_neg e2];exact⟨i,hi,rfl⟩
      obtain⟨i',hi',e⟩:=e1
      have e3:rw' a B' i=rw' a B i':=by simp only[rw'];rw[e]
      rw[e3,e];exact (zwd h.inv hi').symm
    have hf:Fin' n M a b c B' G':=by
      refine⟨by rw[hB',List.length_set,List.length_set];exact hl,fun x hx=>?_,hI,?_,fun i hi=>?_,fun i hi=>?_⟩
      · rw [hB'] at hx
        have hmem:∀i,i<n→bN B i<M:=fun i hi=>h.lt _ (by
          have:bN B i=B[i]'(by omega):=by simp[bN,List.getD,List.getElem?_eq_getElem (show i<B.length by omega)]
          rw[this];exact List.getElem_mem _)
        rcases List.mem_or_eq_of_mem_set hx with hx|hx
        · rcases List.mem_or_eq_of_mem_set hx with hx|hx
          · exact h.lt _ hx
          · rw[hx];exact hmem _ hk
        · rw[hx];exact hmem _ (by omega)
      · rw[hr,D_sw hn hk];have:=h.det;grind
      · obtain⟨k',hk',e⟩:=h2 c i hi
        rw[e];exact h.y k' hk'
      · rw[zav n (fun j hj=>by rw[hpt j hj])]
        exact h.x i hi
    have hmu : mu B' n<mu B n:=by
      have q1:∀m,m≤k→mu B' m=mu B m:=fun m hm=>zpd m fun i hi=>by rw[hb,if_neg (by omega),if_neg (by omega)]
      have q2:mu B' (k+1+1)<mu B (k+1+1):=by
        simp only[mu]
        rw[q1 k (Nat.le_refl _),hb k,hb (k+1),if_pos rfl,if_neg (by omega),if_pos rfl]
        obtain⟨z,hz⟩:∃z,4 - k=z+1∧4 - (k+1)=z:=⟨4 - (k+1),by omega,rfl⟩
        rw[hz.1,hz.2,Nat.add_mul,Nat.add_mul]
        obtain⟨d,hd⟩:∃d,bN B k=bN B (k+1)+d:=⟨bN B k - bN B (k+1),by omega⟩
        rw[hd,Nat.mul_add];omega
      have q3:∀m,k+1+1≤m→mu B' m<mu B m:=fun m=>by
        induction m with
        | zero=>intro hm;omega
        | succ m ih=>
          intro hm
          by_cases e:k+1+1=m+1
          · rw[←e];exact q2
          · have:=ih (by omega)
            simp only[mu]
            rw[hb m,if_neg (by omega),if_neg (by omega)];omega
      exact q3 n (by omega)
    have:=hm B' G' hf
    omega
end Go.Eng.LP
namespace Go.Eng.Ar
open Go.Eng Go.Proofs Go.Eng.LP
set_option linter.all false
set_option maxRecDepth 100000
set_option maxHeartbeats 4000000
abbrev qI (n:Int):Rat:=(n:Rat)
theorem zpZ {a b:Int}:qI a≤qI b↔a≤b:=Rat.intCast_le_intCast
theorem zyx {a:Int}:qI a≠0↔a≠0:=by
  constructor
  · intro h e;subst e;exact h rfl
  · intro h e;exact h (Rat.intCast_inj.1 e)
theorem zoX (a b:Int):qI (a*b)=qI a*qI b:=Rat.intCast_mul a b
theorem zyz (a b:Int):qI (a+b)=qI a+qI b:=Rat.intCast_add a b
theorem zrw (a:Int):qI (-a) = - qI a:=Rat.intCast_neg a
theorem qI_0:qI 0=0:=rfl
theorem zwb (f:Nat→Int):∀n,qI (sm f n)=S (fun i=>qI (f i)) n
  | 0=>rfl
  | n+1=>by simp only[sm,S];rw[zyz,zwb f n]
abbrev mQ (m:List (List Int)) (i j:Nat):Rat:=qI (vI (rowN m i) j)
theorem zuu {N:Nat} (hN:N≤4) {m:List (List Int)} (h1:m.length=N) (h2:∀r∈m,r.length=N):qI (detA m)=D N (mQ m):=by
  unfold detA
  match N,hN with
  | 0,_=>rw[List.length_eq_zero_iff.1 h1];rfl
  | 1,_=>
    obtain⟨r,rfl⟩:=len1 h1
    obtain⟨a,rfl⟩:=len1 (h2 r (by simp))
    rw[D1]
    simp[detN,sumD,zaR,zbd,mQ,qI]
  | 2,_=>
    obtain⟨r,s,rfl⟩:=len2 h1
    obtain⟨a,b,rfl⟩:=len2 (h2 r (by simp))
    obtain⟨c,d,rfl⟩:=len2 (h2 s (by simp))
    rw[D2]
    simp[detN,sumD,zaR,zbd,mQ,qI,Rat.intCast_add,Rat.intCast_mul,Rat.intCast_neg];grind
  | 3,_=>
    obtain⟨r,s,t,rfl⟩:=len3 h1
    obtain⟨a,b,c,rfl⟩:=len3 (h2 r (by simp))
    obtain⟨d,e,f,rfl⟩:=len3 (h2 s (by simp))
    obtain⟨g,h,i,rfl⟩:=len3 (h2 t (by simp))
    rw[D3]
    simp[detN,sumD,zaR,zbd,mQ,qI,Rat.intCast_add,Rat.intCast_mul,Rat.intCast_neg];grind
  | 4,_=>
    obtain⟨r,s,t,u,rfl⟩:=len4 h1
    obtain⟨a,b,c,d,rfl⟩:=len4 (h2 r (by simp))
    obtain⟨e,f,g,h,rfl⟩:=len4 (h2 s (by simp))
    obtain⟨i,j,k,l,rfl⟩:=len4 (h2 t (by simp))
    obtain⟨m,n,o,p,rfl⟩:=len4 (h2 u (by simp))
    rw[D4]
    simp[detN,sumD,zaR,zbd,mQ,qI,Rat.intCast_add,Rat.intCast_mul,Rat.intCast_neg];grind
theorem zhS {N:Nat} {m:List (List Int)} (h1:m.length=N) (h2:∀i,i<N→(rowN m i).length=N):∀r∈m,r.length=N:=fun r hr=>by
  obtain⟨i,hi,e⟩:=List.getElem_of_mem hr
  have:=h2 i (by omega)
  have e2:rowN m i=r:=by simp[rowN,List.getD,List.getElem?_eq_getElem hi,e]
  rw[e2] at this;exact this
theorem zw3 {m:List (List Int)} {right:List Int} {k i j:Nat} (hi:i<m.length) (hk:k<(rowN m i).length):vI (rowN (chk m right k m.length) i) j=if j=k then vI right i else vI (rowN m i) j:=by
  have e:rowN (chk m right k m.length) i=(rowN m i).set k (vI right i):=by
    have:=zaE (fun r=>if r<m.length then (rowN m r).set k (vI right r) else []) [] m.length i hi
    rw[if_pos hi] at this
    exact this
  rw[e]
  generalize rowN m i=r at *
  simp only[vI,List.getD_eq_getElem?_getD,List.getElem?_set]
  by_cases e2:k=j
  · subst e2;rw[if_pos rfl,if_pos hk,if_pos rfl];rfl
  · rw[if_neg e2,if_neg (fun h=>e2 h.symm)]
theorem zAP {N:Nat} (hN:N≤4) {m:List (List Int)} {right:List Int} {k:Nat} (h1:m.length=N) (h2:∀i,i<N→(rowN m i).length=N) (hk:k<N) :
    qI (detA (chk m right k m.length))=D N (colA (mQ m) k fun i=>qI (vI right i)):=by
  have hl:(chk m right k m.length).length=N:=by rw[zel];exact h1
  rw [zuu hN hl (zhS hl fun i hi=>by
    have e:rowN (chk m right k m.length) i=(rowN m i).set k (vI right i):=by
      have:=zaE (fun r=>if r<m.length then (rowN m r).set k (vI right r) else []) [] m.length i (by omega)
      rw[if_pos (by omega)] at this
      exact this
    rw[e,List.length_set];exact h2 i hi)]
  refine zfU N fun i j hi hj=>?_
  show qI _=_
  rw[zw3 (by omega) (by rw[h2 i hi];exact hk)]
  simp only[colA]
  split<;>rfl
theorem zlt {m:List (List Int)} {right:List Int} {k:Nat} (hk:k<m.length):vI (dets m right m.length) k=detA (chk m right k m.length):=zaE _ _ _ _ hk
theorem znw {N:Nat} (hN:N≤4) {m:List (List Int)} {right:List Int} (h1:m.length=N) (h2:∀i,i<N→(rowN m i).length=N) (hd:detA m≠0) {x:Nat→Rat} (hx:∀i,i<N→S (fun j=>mQ m i j*x j) N=qI (vI right i)) :
    (∀j,j<N→qI (vI (zaG m right).1 j)=qI (zaG m right).2.1*x j)∧0<(zaG m right).2.1:=by
  have key:∀j,j<N→qI (vI (dets m right m.length) j)=qI (detA m)*x j:=fun j hj=>by
    rw[zlt (by omega),zAP hN h1 h2 hj,zuu hN h1 (zhS h1 h2),←zAX hN hj]
    refine zfU N fun i k hi hk=>?_
    simp only[colA]
    split
    · exact (hx i hi).symm
    · rfl
  unfold zaG
  rw[if_neg hd]
  split
  · rename_i hneg
    refine⟨fun j hj=>?_,(by show 0 < -detA m;omega)⟩
    have e:vI (negd (dets m right m.length) m.length) j = -vI (dets m right m.length) j:=by
      have:=zaE (fun j=>if j<m.length then -vI (dets m right m.length) j else vI (dets m right m.length) j) 0 (dets m right m.length).length j (by rw[zei];omega)
      rw[if_pos (by omega)] at this
      exact this
    show qI (vI (negd (dets m right m.length) m.length) j)=qI (-detA m)*x j
    rw[e,zrw,zrw,key j hj];grind
  · exact⟨key,by show 0<detA m;omega⟩
theorem zAU {n i:Nat} (hn:n≤4) (hi:i<n) (A:Nat→Nat→Rat) (v:Nat→Rat):S (fun j=>A i j*D n (colA A j v)) n=D n A*v i:=by
  match n,i,hn,hi with
  | 1,0,_,_=>simp only[S,D1];simp[colA];grind
  | 2,0,_,_=>simp only[S2,D2];simp[colA];grind
  | 2,1,_,_=>simp only[S2,D2];simp[colA];grind
  | 3,0,_,_=>simp only[S3,D3];simp[colA];grind
  | 3,1,_,_=>simp only[S3,D3];simp[colA];grind
  | 3,2,_,_=>simp only[S3,D3];simp[colA];grind
  | 4,0,_,_=>simp only[S4,D4];simp[colA];grind
  | 4,1,_,_=>simp only[S4,D4];simp[colA];grind
  | 4,2,_,_=>simp only[S4,D4];simp[colA];grind
  | 4,3,_,_=>simp only[S4,D4];simp[colA];grind
theorem sol {n:Nat} (hn:n≤4) {A:Nat→Nat→Rat} (hd:D n A≠0) (v:Nat→Rat):∃x:Nat→Rat,∀i,i<n→S (fun j=>A i j*x j) n=v i:=by
  refine⟨fun j=>D n (colA A j v)*(D n A)⁻¹,fun i hi=>?_⟩
  rw[zav n (g:=fun j=>(A i j*D n (colA A j v))*(D n A)⁻¹) (fun j _=>by grind),zex,zAU hn hi]
  have:=Rat.mul_inv_cancel _ hd
  grind
/-! ### The bounds of a task -/
theorem zni {α:Type} {a b:List α} {i:Nat} {d:α} (h:i<a.length):(a++b).getD i d=a.getD i d:=by
  simp only[List.getD_eq_getElem?_getD,List.getElem?_append_left h]
theorem ztg {α:Type} {a b:List α} {i:Nat} {d:α} (h:a.length≤i):(a++b).getD i d=b.getD (i - a.length) d:=by
  simp only[List.getD_eq_getElem?_getD,List.getElem?_append_right h]
theorem zgl {t:List (List Int)} {cap:Int} {k:Nat}:(zdP t cap k).length=t.length+k:=by
  simp only[zdP,zmF,List.length_append,zam]
theorem zeP {t:List (List Int)} {cap:Int} {k:Nat}:(zdr t cap k).length=t.length+t.length+k:=by
  simp only[zdr,zdP,zmF,List.length_append,zam]
theorem zvx {t:List (List Int)} {cap:Int} {i:Nat} (h:i<t.length):bdN (zdW t cap (ncol t)) i=lowB (rowN t i):=by
  show (zdr t cap (ncol t)++_).getD i bndZ=_
  rw[zni (by rw[zeP];omega)]
  show (zdP t cap t.length++_).getD i bndZ=_
  rw[zni (by rw[zgl];omega)]
  show (zmF t t.length++_).getD i bndZ=_
  rw[zni (by rw[zam];omega)]
  exact zaE _ _ _ _ h
theorem zxb {t:List (List Int)} {cap:Int} {i:Nat} (h:i<t.length):bdN (zdW t cap (ncol t)) (t.length+i)=zqd cap (rowN t i):=by
  show (zdr t cap (ncol t)++_).getD _ bndZ=_
  rw[zni (by rw[zeP];omega)]
  show (zdP t cap t.length++_).getD _ bndZ=_
  rw[zni (by rw[zgl];omega)]
  show (zmF t t.length++_).getD _ bndZ=_
  rw[ztg (by rw[zam];omega),zam,show t.length+i - t.length=i by omega]
  exact zaE (fun i=>zqd cap (rowN t i)) _ _ _ h
theorem ztd {t:List (List Int)} {cap:Int} {i:Nat} (h:i<ncol t):bdN (zdW t cap (ncol t)) (t.length+t.length+i)=zp6 (ncol t) i:=by
  show (zdr t cap (ncol t)++_).getD _ bndZ=_
  rw[zni (by rw[zeP];omega)]
  show (zdP t cap t.length++_).getD _ bndZ=_
  rw[ztg (by rw[zgl];omega),zgl,show t.length+t.length+i - (t.length+t.length)=i by omega]
  exact zaE (zp6 (ncol t)) _ _ _ h
theorem zxa {t:List (List Int)} {cap:Int} {i:Nat} (h:i<ncol t):bdN (zdW t cap (ncol t)) (t.length+t.length+ncol t+i)=zpU (ncol t) i:=by
  show (zdr t cap (ncol t)++_).getD _ bndZ=_
  rw[ztg (by rw[zeP];omega),zeP,show t.length+t.length+ncol t+i - (t.length+t.length+ncol t)=i by omega]
  exact zaE (zpU (ncol t)) _ _ _ h
theorem zgY {row:List Int} {n j:Nat} (hl:row.length=n) (hj:j<n+1):vI (lowB row).1 j=if j=n then 1 else -vI row j:=by
  show (tab (fun j=>-vI row j) row.length++[1]).getD j 0=_
  by_cases e:j=n
  · rw[if_pos e,ztg (by rw[zam];omega),zam,show j - row.length=0 by omega];rfl
  · rw[if_neg e,zni (by rw[zam];omega)]
    exact zaE (fun j=>-vI row j) _ _ _ (by omega)
theorem zgm {row:List Int} {cap:Int} {n j:Nat} (hl:row.length=n) (hj:j<n+1):vI (zqd cap row).1 j=if j=n then 0 else vI row j:=by
  show (row++[0]).getD j 0=_
  by_cases e:j=n
  · rw[if_pos e,ztg (by omega),show j - row.length=0 by omega];rfl
  · rw[if_neg e,zni (by omega)]
theorem zfc {n k j:Nat} (hj:j<n+1):vI (zp6 n k).1 j=if j=k then 1 else 0:=zfW (n:=n+1) hj
theorem zf1 {n k j:Nat} (hj:j<n+1):vI (zpU n k).1 j=if j=k then -1 else 0:=zfW (n:=n+1) hj
/-! ### A corner that is accepted -/
abbrev bQ (b:List BndD) (i j:Nat):Rat:=qI (vI (bdN b i).1 j)
abbrev zci (b:List BndD) (i:Nat):Int:=(bdN b i).2.1
theorem zyS {l:List Int}:∀ {k:Nat},(∀i,i≤k→0≤vI l i)→0≤mn l k
  | 0,h=>h 0 (Nat.le_refl _)
  | k+1,h=>by
    have h1:=zyS (l:=l) (k:=k) fun i hi=>h i (by omega)
    have h2:=h (k+1) (Nat.le_refl _)
    simp only[mn];split
    · exact h2
    · exact h1
theorem zo9 {b:List BndD} {x:List Int} {d:Int}:∀ {n:Nat},(∀k,k<n→okB b x d k=true)→zeC b x d n=true
  | 0,_=>rfl
  | n+1,h=>by simp only[zeC];rw[zo9 fun k hk=>h k (by omega),h n (by omega)];rfl
theorem zAN {a x:List Int} {n:Nat} (h:a.length=n):qI (dotI a x)=S (fun j=>qI (vI a j)*qI (vI x j)) n:=by
  unfold dotI;rw[zwb,h]
  exact zav n fun i _=>zoX _ _
theorem zuQ {m:List (List Int)} {i j:Nat} (hi:i<m.length) (hj:j<m.length):vI (rowN (trM m) j) i=vI (rowN m i) j:=by
  have e:rowN (trM m) j=tab (fun i=>vI (rowN m i) j) m.length:=zaE (fun j=>tab (fun i=>vI (rowN m i) j) m.length) [] m.length j hj
  rw[e];exact zaE (fun i=>vI (rowN m i) j) 0 m.length i hi
theorem zxe {b:List BndD} {l:List Int} (hg:goodA b l) (hd:D l.length (fun i=>bQ b (vI l i).toNat)≠0) {x y:Nat→Rat}
    (hx:∀i,i<l.length→S (fun j=>bQ b (vI l i).toNat j*x j) l.length=qI (zci b (vI l i).toNat)) (hf:∀k,k<b.length→S (fun j=>bQ b k j*x j) l.length≤qI (zci b k))
    (hy:∀j,j<l.length→S (fun k=>y k*bQ b (vI l k).toNat j) l.length=dl j (l.length - 1)) (hy0:∀k,k<l.length→0≤y k):(atR b l).2.1=true:=by
  have hN:=hg.le
  have hp:=hg.pos
  obtain⟨N,hNe⟩:∃N,N=l.length:=⟨_,rfl⟩
  have hs:=zit hg
  have r1:(zaH b l l.length).length=l.length:=zaS
  have r2:∀i,i<l.length→(rowN (zaH b l l.length) i).length=l.length:=fun i hi=>by rw[zhR hi];exact hg.len _ (hg.idx i hi).2
  have r3:∀i j,i<l.length→mQ (zaH b l l.length) i j=bQ b (vI l i).toNat j:=fun i j hi=>by
    show qI (vI (rowN _ i) j)=_
    rw[zhR hi]
  have hdet:detA (zaH b l l.length)≠0:=by
    rw[←zyx,zuu hN r1 (zhS r1 r2),zfU l.length (fun i j hi hj=>r3 i j hi)]
    exact hd
  have hX:(atX b l).2.2.1=true:=ztE hdet
  have sx:=znw hN (right:=rhsP b l l.length) r1 r2 hdet (x:=x) (fun i hi=>by
    rw[zav l.length (fun j _=>by rw[r3 i j hi]),znH hi];exact hx i hi)
  have sX:∀j,j<l.length→qI (vI (atX b l).1 j)=qI (atX b l).2.1*x j:=sx.1
  have hden:0<(atX b l).2.1:=sx.2
  have hok:zeC b (atX b l).1 (atX b l).2.1 b.length=true:=zo9 fun k hk=>by
    unfold okB
    refine decide_eq_true (zpZ.1 ?_)
    rw[zAN (hg.len k hk),zoX,zav l.length (g:=fun j=>qI (atX b l).2.1*(bQ b k j*x j)) (fun j hj=>by rw[sX j hj];grind),zjL]
    have h1:=hf k hk
    have h2:0≤qI (atX b l).2.1:=by rw[←qI_0,zpZ];omega
    have h3:=Rat.mul_le_mul_of_nonneg_left h1 h2
    have h4:qI (zci b k)*qI (atX b l).2.1=qI (atX b l).2.1*qI (zci b k):=by grind
    show _≤qI (zci b k)*qI (atX b l).2.1
    rw[h4];exact h3
  have t1:(trM (zaH b l l.length)).length=l.length:=by rw[zh5,zaS]
  have ts:=zvG hs
  have t2:∀i,i<l.length→(rowN (trM (zaH b l l.length)) i).length=l.length:=fun i hi=>(ts.2 _ (zmg ts hi)).1
  have hdt:detA (trM (zaH b l l.length))≠0:=by rw[zuR hN hs];exact hdet
  have sy:=znw hN (right:=zbM (l.length:Int) ((l.length:Int) - 1) 1) t1 t2 hdt (x:=y) (fun j hj=>by
    rw [zav l.length (g:=fun k=>y k*bQ b (vI l k).toNat j) (fun k hk=>by
      show qI (vI (rowN (trM _) j) k)*y k=_
      rw[zuQ (by rw[zaS];exact hk) (by rw[zaS];exact hj)]
      have:=r3 k j hk
      rw[←this];grind),hy j hj,show (l.length:Int) - 1=((l.length - 1:Nat):Int) by omega,zfW hj]
    by_cases e:j=l.length - 1
    · rw[if_pos e,e,zdG];rfl
    · rw[if_neg e,zcK e];rfl)
  have hmn:¬mn (atY b l).1 (l.length - 1)<0:=by
    refine Int.not_lt.2 (zyS fun i hi=>?_)
    have h1:=sy.1 i (by omega)
    have h2:=hy0 i (by omega)
    have h3:(0:Int)<(atY b l).2.1:=sy.2
    have h4:0≤qI (atY b l).2.1:=by rw[←qI_0,zpZ];omega
    have h5:=Rat.mul_nonneg h4 h2
    have h6:qI (vI (atY b l).1 i)=qI (atY b l).2.1*y i:=h1
    rw[←h6,←qI_0,zpZ] at h5
    exact h5
  rw[at_4 hX hok hmn]
theorem zly:∀(k f r:Nat) (l:List Nat),l.length=k→(∀i,i+1<k→bN l i<bN l (i+1))→(∀x∈l,f≤x∧x<f+r)→l.map Int.ofNat∈zcn k f r
  | 0,f,r,l,hl,_,_=>by rw[List.length_eq_zero_iff.1 hl];simp[zcn]
  | k+1,f,0,l,hl,_,hm=>by
    match l,hl with
    | x::l,_=>have:=hm x List.mem_cons_self;omega
  | k + 1, f,r+1,l,hl,hs,hm=>by
    match l,hl with
    | x :: l,hl=>
      have hl':l.length=k:=by simpa using hl
      have hx:=hm x List.mem_cons_self
      simp only[zcn,List.mem_append,List.mem_map]
      have hs':∀i,i+1<k→bN l i<bN l (i+1):=fun i hi=>by
        have:=hs (i+1) (by omega)
        simpa [bN] using this
      have asc:∀i,i<k→x<bN l i:=fun i=>by
        induction i with
        | zero=>intro hi;have:=hs 0 (by omega);simpa [bN] using this
        | succ i ih=>intro hi;have h1:=ih (by omega);have h2:=hs' i (by omega);omega
      have hgt:∀y∈l,x<y:=fun y hy=>by
        obtain⟨i,hi,e⟩:=List.getElem_of_mem hy
        have:=asc i (by omega)
        have e2:bN l i=y:=by simp[bN,List.getD,List.getElem?_eq_getElem hi,e]
        omega
      by_cases e:x=f
      · refine .inl ⟨l.map Int.ofNat,?_,by rw[e];rfl⟩
        refine zly k (f+1) r l hl' hs' fun y hy=>?_
        have h1:=hgt y hy
        have h2:=hm y (List.mem_cons_of_mem _ hy)
        omega
      · refine .inr (zly (k+1) (f+1) r (x::l) hl hs fun y hy=>?_)
        rcases List.mem_cons.1 hy with rfl|hy
        · omega
        · have h1:=hgt y hy
          have h2:=hm y (List.mem_cons_of_mem _ hy)
          omega
theorem zkv {b:List BndD}:∀ {l:List (List Int)} {c:List Int},c∈l→(atR b c).2.1=true→(zhJ b l).isSome=true
  | d :: r,c,hc,h=>by
    simp only[zhJ]
    split
    · rfl
    · rename_i hd
      rcases List.mem_cons.1 hc with rfl|hc
      · exact absurd h hd
      · exact zkv hc h
theorem ztb {t:List (List Int)} {cap:Int} (h:goodT t cap):(zhI t cap).isSome=true:=by
  obtain⟨b,hb⟩:∃b,b=zdW t cap (ncol t):=⟨_,rfl⟩
  obtain⟨n,hn⟩:∃n,n=ncol t:=⟨_,rfl⟩
  have hbl:b.length=t.length+t.length+n+n:=by rw[hb,zgy,hn]
  have g1:=h.le
  have g2:=h.cle
  have g3:=h.cpos
  have g4:=h.pos
  rw[←hn] at g2 g3
  -- the first basis
  obtain⟨B0,hB0⟩:∃B0:List Nat,B0=tab (fun k=>if k<n then t.length+t.length+k else 0) (n+1):=⟨_,rfl⟩
  have b0:∀k,k<n+1→bN B0 k=if k<n then t.length+t.length+k else 0:=fun k hk=>by rw[hB0];exact zaE _ _ _ _ hk
  have l0:B0.length=n+1:=by rw[hB0,zam]
  have m0:∀x∈B0,x<b.length:=fun x hx=>by
    rw[hB0] at hx
    obtain⟨i,hi,rfl⟩:=zco hx
    split<;>omega
  have hr0:(rowN t 0).length=n:=by rw[hn]
  have hv:∀j,j<n→0≤vI (rowN t 0) j:=fun j hj=>(h.vals 0 j g4 (by rw[←hn];exact hj)).1
  obtain⟨A0,hA0⟩:∃A0:Nat→Nat→Rat,A0=fun k j=>if k<n then dl j k else if j=n then 1 else -qI (vI (rowN t 0) j):=⟨_,rfl⟩
  have a0:∀k j,k<n+1→j<n+1→rw' (bQ b) B0 k j=A0 k j:=fun k j hk hj=>by
    show qI (vI (bdN b (bN B0 k)).1 j)=_
    rw[b0 k hk,hA0]
    dsimp only
    by_cases e:k<n
    · rw[if_pos e,if_pos e,hb,ztd (by rw[←hn];exact e),←hn,zfc hj]
      by_cases e2:j=k
      · rw[if_pos e2,e2,zdG];rfl
      · rw[if_neg e2,zcK e2];rfl
    · rw[if_neg e,if_neg e,hb,zvx g4,zgY hr0 hj]
      split
      · rfl
      · exact zrw _
  obtain⟨G0,hG0⟩:∃G0:Nat→Nat→Rat,G0=fun j k=>if j<n then dl j k else if k=n then 1 else qI (vI (rowN t 0) k):=⟨_,rfl⟩
  have hI0 : Inv (n+1) A0 G0:=by
    refine⟨fun i j hi hj=>?_,fun k l hk hl=>?_⟩
    · by_cases e:i<n
      · rw[zfo (p:=i) hi (fun k hk hne=>by rw[hG0];dsimp only;rw[if_pos e,zcK (Ne.symm hne)];grind)]
        rw[hG0,hA0];dsimp only
        rw[if_pos e,if_pos e,zdG]
        by_cases e2:i=j
        · rw[e2];grind
        · rw[zcK e2,zcK (Ne.symm e2)];grind
      · have ei:i=n:=by omega
        simp only[S]
        have e1:S (fun k=>G0 i k*A0 k j) n=if j<n then qI (vI (rowN t 0) j) else 0:=by
          by_cases ej:j<n
          · rw[if_pos ej,zfo (p:=j) ej (fun k hk hne=>by rw[hA0];dsimp only;rw[if_pos hk,zcK (Ne.symm hne)];grind)]
            rw[hG0,hA0];dsimp only
            rw[if_neg e,if_neg (by omega),if_pos ej,zdG];grind
          · rw[if_neg ej]
            exact S_z fun k hk=>by rw[hA0];dsimp only;rw[if_pos hk,zcK (by omega)];grind
        rw[e1]
        have e2:G0 i n=1:=by rw[hG0];dsimp only;rw[if_neg e,if_pos rfl]
        have e3:A0 n j=if j=n then 1 else -qI (vI (rowN t 0) j):=by rw[hA0];dsimp only;rw[if_neg (Nat.lt_irrefl n)]
        rw[e2,e3]
        by_cases ej:j=n
        · rw[if_neg (by omega),if_pos ej,ej,ei,zdG];grind
        · rw[if_pos (by omega),if_neg ej,zcK (by omega)];grind
    · by_cases e:k<n
      · rw[zfo (p:=k) hk (fun j hj hne=>by rw[hA0];dsimp only;rw[if_pos e,zcK hne];grind)]
        rw[hG0,hA0];dsimp only
        rw[if_pos e,if_pos e,zdG];grind
      · have ek:k=n:=by omega
        simp only[S]
        have e1:S (fun j=>A0 k j*G0 j l) n=if l<n then -qI (vI (rowN t 0) l) else 0:=by
          by_cases el:l<n
          · rw[if_pos el,zfo (p:=l) el (fun j hj hne=>by rw[hG0];dsimp only;rw[if_pos hj,zcK hne];grind)]
            rw[hG0,hA0];dsimp only
            rw[if_neg e,if_neg (by omega),if_pos el,zdG];grind
          · rw[if_neg el]
            exact S_z fun j hj=>by rw[hG0];dsimp only;rw[if_pos hj,zcK (by omega)];grind
        rw[e1]
        have e2:A0 k n=1:=by rw[hA0];dsimp only;rw[if_neg e,if_pos rfl]
        have e3:G0 n l=if l=n then 1 else qI (vI (rowN t 0) l):=by rw[hG0];dsimp only;rw[if_neg (Nat.lt_irrefl n)]
        rw[e2,e3]
        by_cases el:l=n
        · rw[if_neg (by omega),if_pos el,el,ek,zdG];grind
        · rw[if_pos (by omega),if_neg el,zcK (by omega)];grind
  have hI:Inv (n+1) (rw' (bQ b) B0) G0:=⟨fun i j hi hj=>by
      rw[zav (n+1) (fun k hk=>by rw[a0 k j hk hj])];exact hI0.ga i j hi hj,fun k l hk hl=>by
      rw[zav (n+1) (fun j hj=>by rw[a0 k j hk hj])];exact hI0.ag k l hk hl⟩
  have hD:D (n+1) (rw' (bQ b) B0)≠0:=by
    rw[zfU (n+1) a0]
    have:D (n+1) A0=1:=by
      rw[hA0]
      have g:n=1∨n=2∨n=3:=by omega
      rcases g with e|e|e
      · subst e;rw[D2];simp[dl];grind
      · subst e;rw[D3];simp[dl];grind
      · subst e;rw[D4];simp[dl];grind
    rw[this];decide
  have hc:∀k,k<n+1→0≤lam (n+1) G0 (fun j=>dl j n) k:=fun k hk=>by
    have:lam (n+1) G0 (fun j=>dl j n) k=G0 n k:=by
      show S (fun i=>dl i n*G0 i k) (n+1)=_
      rw[zfo (p:=n) (Nat.lt_succ_self n) (fun i _ hne=>by rw[zcK hne];grind),zdG];grind
    rw[this,hG0];dsimp only
    rw[if_neg (Nat.lt_irrefl n)]
    split
    · decide
    · rw[←qI_0,zpZ];exact hv k (by omega)
  have hmost:∀i,i<b.length→(0:Int)≤zci b i:=fun i hi=>by
    have:=(zlC h _ (zpM (k:=i) (by rw[←hb];exact hi))).2.2.1
    rw[←hb] at this;exact this
  obtain ⟨B,G,k1,k2,k3,k4,k5,k6⟩:=lp (n:=n+1) (M:=b.length) (a:=bQ b) (b:=fun i=>qI (zci b i)) (c:=fun j=>dl j n) (x0:=fun _=>0) (Q:=fun B=>D (n+1) (rw' (bQ b) B)≠0) l0 m0 hI hc hD
    (fun i hi=>by
      rw[S_z (fun j _=>by grind),←qI_0,zpZ];exact hmost i hi)
    (fun B G p r hl hI hp hr hne hq=>by
      have e:rw' (bQ b) (B.set p r)=pivA (rw' (bQ b) B) p (bQ b r):=by
        funext k
        simp only[rw',pivA]
        rw[znh (by omega)]
        by_cases e:k=p
        · rw[if_pos e,if_pos e]
        · rw[if_neg e,if_neg e]
      rw[e,zAW (by omega) hp hI]
      intro h0
      rcases Rat.mul_eq_zero.1 h0 with h0|h0
      · exact hne h0
      · exact hq h0)
  obtain⟨B,G,hF,hs⟩:=zr9 (by omega) (⟨k1,k2,k3,k4,k5,k6⟩:Fin' (n+1) b.length (bQ b) (fun i=>qI (zci b i)) (fun j=>dl j n) B G)
  have hcl:(B.map Int.ofNat).length=n+1:=by rw[List.length_map];exact hF.len
  have hcv:∀i,i<n+1→(vI (B.map Int.ofNat) i).toNat=bN B i:=fun i hi=>by
    have hi':i<B.length:=by rw[hF.len];exact hi
    simp[vI,bN,List.getD,List.getElem?_eq_getElem hi']
  have hcm:(B.map Int.ofNat)∈zcn (n+1) 0 b.length:=zly (n+1) 0 b.length B hF.len hs fun x hx=>⟨Nat.zero_le _,by have:=hF.lt x hx;omega⟩
  have hgc:goodA b (B.map Int.ofNat):=by
    have:=zgn h (B.map Int.ofNat) (by rw[←hb,←hn];exact hcm)
    rw[hb];exact this
  unfold zhI zng
  rw[←hb,←hn]
  refine zkv hcm (zxe hgc ?_ (x:=ptX (n+1) (fun i=>qI (zci b i)) B G) (y:=lam (n+1) G (fun j=>dl j n)) ?_ ?_ ?_ ?_)
  · rw[hcl,zfU (n+1) (A':=rw' (bQ b) B) (fun i j hi hj=>by rw[hcv i hi])]
    exact hF.det
  · rw[hcl]
    intro i hi
    rw[hcv i hi];exact zwd hF.inv hi
  · rw[hcl];exact hF.x
  · rw[hcl]
    intro j hj
    rw[zav (n+1) (g:=fun k=>lam (n+1) G (fun j=>dl j n) k*rw' (bQ b) B k j) (fun k hk=>by rw[hcv k hk])]
    exact co hF.inv (fun j=>dl j n) hj
  · rw[hcl];exact hF.y
end Go.Eng.Ar
namespace Go.Eng.Ar
open Go.Eng Go.Proofs Go.Eng.LP
set_option linter.all false
set_option maxRecDepth 100000
set_option maxHeartbeats 4000000
/-! ### Determinants of rows of small numbers -/
def sqB (X:Int) (N:Nat) (rows:List (List Int)):Prop:=rows.length=N∧∀r∈rows,r.length=N∧∀x∈r,-X≤x∧x≤X
def detX (X:Int):Nat→Int
  | 0=>1
  | n+1=>(n+1)*(X*detX X n)
theorem ztC {X:Int} {N k:Nat} {rows:List (List Int)} (h:sqB X (N+1) rows) (hk:k<N+1):sqB X N (zaR 0 k 0 rows):=by
  obtain⟨h1,h2⟩:=h
  cases rows with
  | nil=>simp at h1
  | cons r t=>
    have e:zaR 0 k 0 (r::t)=t.map (zbd k 0):=by
      simp only[zaR,Int.natCast_zero,if_true]
      exact zdy k t 0
    rw[e]
    refine⟨by simp at h1 ⊢;omega,fun q hq=>?_⟩
    obtain⟨p,hp,rfl⟩:=List.mem_map.1 hq
    obtain⟨h3,h4⟩:=h2 p (List.mem_cons_of_mem _ hp)
    exact⟨by rw[zfS,if_pos (by omega)];omega,fun x hx=>h4 x (zeh _ _ _ _ hx)⟩
theorem zqP {X:Int} {f:List (List Int)→Int} {rows:List (List Int)} {N:Nat} {B:Int} (hf:∀k:Nat,k<N→-B≤f (zaR 0 k 0 rows)∧f (zaR 0 k 0 rows)≤B) :
    ∀(l:List Int) (sign:Int) (k:Nat),(sign=1∨sign = -1)→k+l.length≤N→(∀x∈l,-X≤x∧x≤X)→-(l.length*(X*B))≤sumD f rows sign k l∧sumD f rows sign k l≤l.length*(X*B)
  | [],_,_,_,_,_=>by simp[sumD]
  | x :: r,sign,k,hs,hk,hx=>by
    simp only[List.length_cons] at hk
    have ih:=zqP hf r (-sign) (k+1) (by omega) (by omega) (fun y hy=>hx y (List.mem_cons_of_mem _ hy))
    have hx0:=hx x List.mem_cons_self
    have hf0:=hf k (by omega)
    have h1 : -X≤sign*x∧sign*x≤X:=by rcases hs with rfl|rfl<;>omega
    have h2:=zmz h1.1 h1.2 hf0.1 hf0.2
    simp only[sumD,List.length_cons]
    have e:(((r.length+1:Nat):Int)*(X*B))=(r.length:Int)*(X*B)+X*B:=by
      rw[Int.natCast_add,Int.add_mul];simp
    rw[e]
    generalize (r.length:Int)*(X*B)=z at *
    generalize X*B=y at *
    omega
theorem zsQ {X:Int}:∀(n:Nat) (rows:List (List Int)),sqB X n rows→-(detX X n)≤detN n rows∧detN n rows≤detX X n
  | 0,rows,_=>by simp[detN,detX]
  | n + 1,rows,h=>by
    have hr:(rows.getD 0 []).length=n+1∧∀x∈rows.getD 0 [],-X≤x∧x≤X:=by
      cases rows with
      | nil=>have:=h.1;simp at this
      | cons r t=>exact h.2 r List.mem_cons_self
    have:=zqP (f:=detN n) (rows:=rows) (N:=n+1) (B:=detX X n) (fun k hk=>zsQ n _ (ztC h hk)) (rows.getD 0 []) 1 0 (.inl rfl) (by omega) hr.2
    rw[hr.1] at this
    simp only[detN,detX]
    push_cast at this
    exact this
theorem zsT {N:Nat} (hN:N≤4) {m:List (List Int)} (h:sqB 100 N m) : -1000000000000≤detA m∧detA m≤1000000000000:=by
  have h1:=zsQ N m h
  have h2:detX 100 N≤1000000000000:=by
    have g:N=0∨N=1∨N=2∨N=3∨N=4:=by omega
    rcases g with rfl|rfl|rfl|rfl|rfl<;>decide
  unfold detA
  rw[h.1];omega
/-! ### Solutions, in whole numbers -/
theorem zyy {a b:Int} (h:qI a=qI b):a=b:=Rat.intCast_inj.1 h
theorem zoC {N:Nat} (hN:N≤4) {m:List (List Int)} {right:List Int} (h1:m.length=N) (h2:∀i,i<N→(rowN m i).length=N) (hd:detA m≠0) :
    (∀i,i<N→sm (fun j=>vI (rowN m i) j*vI (zaG m right).1 j) N=vI right i*(zaG m right).2.1)∧0<(zaG m right).2.1:=by
  have hD:D N (mQ m)≠0:=by rw[←zuu hN h1 (zhS h1 h2)];exact zyx.2 hd
  obtain⟨x,hx⟩:=sol hN hD (fun i=>qI (vI right i))
  obtain⟨sx,sd⟩:=znw hN (right:=right) h1 h2 hd hx
  refine⟨fun i hi=>zyy ?_,sd⟩
  rw[zwb,zoX,←hx i hi,←zex]
  exact zav N fun j hj=>by rw[zoX,sx j hj];grind
/-! ### Sums in parts -/
theorem zcy (f:Nat→Int) (a:Nat):∀b,sm f (a+b)=sm f a+sm (fun i=>f (a+i)) b
  | 0=>by simp[sm]
  | b+1=>by
    rw[←Nat.add_assoc]
    simp only[sm]
    rw[zcy f a b];omega
theorem zoD (f g:Nat→Int):∀n,sm (fun i=>f i - g i) n=sm f n - sm g n
  | 0=>rfl
  | n+1=>by simp only[sm,zoD f g n];omega
theorem zqY {f g:Nat→Int} {p:Nat}:∀ {n},p<n→(∀i,i<n→i≠p→g i=f i)→sm g n=sm f n - f p+g p
  | n + 1,hp,h=>by
    simp only[sm]
    by_cases e:p=n
    · subst e
      rw[zap (g:=f) p (fun i hi=>h i (by omega) (by omega))];omega
    · rw[zqY (n:=n) (by omega) (fun i hi hq=>h i (by omega) hq),h n (by omega) (by omega)];omega
theorem zl0 {f:Nat→Int} {p:Nat} {n:Nat} (hp:p<n) (h:∀i,i<n→i≠p→f i=0):sm f n=f p:=by
  rw[zqY (f:=fun _=>0) hp h,zcp];omega
/-! ### The chosen bounds -/
theorem zjb:∀(k f r:Nat) (c:List Int),c∈zcn k f r→∀i j,i<j→j<k→vI c i<vI c j
  | 0,_,_,_,_,_,_,_,h=>absurd h (Nat.not_lt_zero _)
  | k+1,f,0,c,h,_,_,_,_=>by simp[zcn] at h
  | k + 1,f,r+1,c,h,i,j,hij,hj=>by
    simp only[zcn,List.mem_append,List.mem_map] at h
    rcases h with ⟨d,hd,rfl⟩|h
    · obtain ⟨h1,h2⟩:=zdR k (f+1) r d hd
      match i,j,hij with
      | 0,j+1,_=>
        have:=(h2 _ (zhj (l:=d) (i:=j) (by omega))).1
        show (f:Int)<vI d j
        omega
      | i+1,j+1,hij=>exact zjb k (f+1) r d hd i j (by omega) (by omega)
    · exact zjb (k+1) (f+1) r c h i j hij hj
theorem zov {l:List Int} {p k:Nat} {v:Int} (hp:p<l.length):vI (l.set p v) k=if k=p then v else vI l k:=by
  simp only[vI,List.getD_eq_getElem?_getD,List.getElem?_set]
  by_cases e:p=k
  · subst e;rw[if_pos rfl,if_pos hp,if_pos rfl];rfl
  · rw[if_neg e,if_neg (fun h=>e h.symm)]
theorem znr {n:Nat} {k:Nat}:vI (repl (n:Int) (0:Int)) k=0:=by
  rw[zfJ]
  simp only[vI,List.getD_eq_getElem?_getD,List.getElem?_replicate]
  split<;>rfl
theorem zuM {M:Nat} {c y:List Int} {N:Nat} (hc:∀i,i<N→(vI c i).toNat<M) (ha:∀i j,i<j→j<N→(vI c i).toNat≠(vI c j).toNat) (g:Nat→Int) :
    ∀i,i≤N→sm (fun k=>vI (wsP M c y i) k*g k) M=sm (fun i=>vI y i*g (vI c i).toNat) i
  | 0,_=>by
    simp only[wsP,sm]
    rw[zap (g:=fun _=>0) M (fun k _=>by rw[znr,Int.zero_mul]),zcp]
  | i + 1,hi=>by
    have ih:=zuM (y:=y) hc ha g i (by omega)
    have hz:∀k,k≤i→vI (wsP M c y k) (vI c i).toNat=0:=fun k=>by
      induction k with
      | zero=>intro _;exact znr
      | succ k ihk=>
        intro hk
        simp only[wsP]
        rw[zov (by rw[zer];exact hc k (by omega)),if_neg (fun e=>ha k i (by omega) (by omega) e.symm)]
        exact ihk (by omega)
    rw [zqY (f:=fun k=>vI (wsP M c y i) k*g k) (hc i (by omega)) (fun k _ hne=>by
      simp only[wsP]
      rw[zov (by rw[zer];exact hc i (by omega)),if_neg hne]),ih]
    rw[hz i (Nat.le_refl _)]
    simp only[wsP,sm]
    rw[zov (by rw[zer];exact hc i (by omega)),if_pos rfl];omega
theorem zxs {M:Nat} {c y:List Int} {N:Nat} {B:Int} (hB:0≤B) (hc:∀i,i<N→(vI c i).toNat<M) (hy:∀i,i<N→0≤vI y i∧vI y i≤B):∀i,i≤N→∀k,0≤vI (wsP M c y i) k∧vI (wsP M c y i) k≤B
  | 0,_,k=>by
    have e:vI (wsP M c y 0) k=0:=znr
    omega
  | i+1,hi,k=>by
    simp only[wsP]
    rw[zov (by rw[zer];exact hc i (by omega))]
    split
    · exact hy i (by omega)
    · exact zxs hB hc hy i (by omega) k
theorem zt8 {m:List (List Int)} {r:List Int} (h:r∈m):∃k,k<m.length∧r=rowN m k:=by
  obtain⟨k,hk,e⟩:=List.getElem_of_mem h
  exact⟨k,hk,by simp[rowN,List.getD,List.getElem?_eq_getElem hk,e]⟩
theorem zms {b:List BndD} {x:List Int} {d:Int}:∀ {n:Nat},zeC b x d n=true→∀k,k<n→dotI (bdN b k).1 x≤zci b k*d
  | n+1,h,k,hk=>by
    simp only[zeC,Bool.and_eq_true] at h
    by_cases e:k=n
    · subst e;exact of_decide_eq_true h.2
    · exact zms h.1 k (by omega)
structure cornV (t:List (List Int)) (cap:Int) (x:zcQ):Prop where
  l1:List.length (α:=Int) x.1=ncol t+1
  l2:List.length (α:=Int) x.2.2.1=t.length+t.length+ncol t+ncol t
  d1:(0:Int)<x.2.1∧x.2.1≤(1000000000000:Int)
  d2:(0:Int)<x.2.2.2.1∧x.2.2.2.1≤(1000000000000:Int)
  low:∀i,i<t.length→vI x.1 (ncol t)≤sm (fun j=>vI (rowN t i) j*vI x.1 j) (ncol t)
  high:∀i,i<t.length→sm (fun j=>vI (rowN t i) j*vI x.1 j) (ncol t)≤cap*x.2.1
  box:∀j,j<ncol t→0≤vI x.1 j∧vI x.1 j≤x.2.1
  ws:∀k,0≤vI x.2.2.1 k∧vI x.2.2.1 k≤1000000000000
  slow:sm (fun i=>vI x.2.2.1 i) t.length=x.2.2.2.1
  col:∀j,j<ncol t→sm (fun i=>(vI x.2.2.1 i - vI x.2.2.1 (t.length+i))*vI (rowN t i) j) t.length≤vI x.2.2.1 (t.length+t.length+j)
  val:vI x.1 (ncol t)*x.2.2.2.1=(sm (fun i=>vI x.2.2.1 (t.length+i)) t.length*cap+sm (fun j=>vI x.2.2.1 (t.length+t.length+j)) (ncol t))*x.2.1
theorem zwZ {t:List (List Int)} {cap:Int} {x:zcQ} (h:goodT t cap) (hx:zhI t cap=some x):cornV t cap x:=by
  obtain⟨c,hc,h1,h2⟩:=zji hx
  have hg:=zgn h c hc
  have hm:=zdR _ _ _ c hc
  have hasc:=zjb _ _ _ c hc
  obtain⟨b,hb⟩:∃b,b=zdW t cap (ncol t):=⟨_,rfl⟩
  obtain⟨n,hn⟩:∃n,n=ncol t:=⟨_,rfl⟩
  obtain⟨m,hmm⟩:∃m,m=t.length:=⟨_,rfl⟩
  have bl:∀i,i<m→bdN b i=lowB (rowN t i):=fun i hi=>by rw[hb];exact zvx (by omega)
  have bh:∀i,i<m→bdN b (m+i)=zqd cap (rowN t i):=fun i hi=>by rw[hb,hmm];exact zxb (by omega)
  have bo:∀j,j<n→bdN b (m+m+j)=zp6 n j:=fun j hj=>by rw[hb,hmm,hn];exact ztd (by omega)
  have bs:∀j,j<n→bdN b (m+m+n+j)=zpU n j:=fun j hj=>by rw[hb,hmm,hn];exact zxa (by omega)
  have hbl:b.length=m+m+n+n:=by rw[hb,zgy,←hmm,←hn]
  have g1:=h.le
  have g2:=h.cle
  have hrow:∀i,i<m→(rowN t i).length=n:=fun i hi=>by rw[hn];exact h.rows i (by omega)
  rw[←hb] at h1 h2 hg
  rw[←hb,←hn] at hm
  rw[←hn] at hasc g2
  rw[←hmm] at g1
  have hcl:c.length=n+1:=hm.1
  have hp:=hg.pos
  -- the parts of at
  have hX:(atX b c).2.2.1=true:=by
    cases e:(atX b c).2.2.1 with
    | true=>rfl
    | false=>rw[at_1 e] at h1;cases h1
  have hO:zeC b (atX b c).1 (atX b c).2.1 b.length=true:=by
    cases e:zeC b (atX b c).1 (atX b c).2.1 b.length with
    | true=>rfl
    | false=>rw[at_2 hX e] at h1;cases h1
  have hM:¬mn (atY b c).1 (c.length - 1)<0:=fun e=>by rw[at_3 hX hO e] at h1;cases h1
  rw[at_4 hX hO hM] at h2
  have hdet:=znn hX
  have hdet2:=ztr hg hX
  have r1:(zaH b c c.length).length=n+1:=by rw[zaS,hcl]
  have rr:∀i,i<n+1→rowN (zaH b c c.length) i=(bdN b (vI c i).toNat).1:=fun i hi=>zhR (by omega)
  have r2:∀i,i<n+1→(rowN (zaH b c c.length) i).length=n+1:=fun i hi=>by rw[rr i hi,←hcl];exact hg.len _ (hg.idx i (by omega)).2
  have t1:(trM (zaH b c c.length)).length=n+1:=by rw[zh5,r1]
  have hs:=zit hg
  have ts:=zvG hs
  have t2:∀i,i<n+1→(rowN (trM (zaH b c c.length)) i).length=n+1:=fun i hi=>by
    rw[←hcl];exact (ts.2 _ (zmg ts (by omega))).1
  obtain⟨eX,pD⟩:=zoC (N:=n+1) (by omega) (right:=rhsP b c c.length) r1 r2 hdet
  obtain⟨eY,pE⟩:=zoC (N:=n+1) (by omega) (right:=zbM (c.length:Int) ((c.length:Int) - 1) 1) t1 t2 hdet2
  -- small numbers
  have small:∀k j,k<b.length→j<n+1→-100≤vI (bdN b k).1 j∧vI (bdN b k).1 j≤100:=fun k j hk hj=>by
    have q:∀i,i<m→j<n→0≤vI (rowN t i) j∧vI (rowN t i) j≤100:=fun i hi hj=>h.vals i j (by omega) (by omega)
    by_cases e1:k<m
    · rw[bl k e1,zgY (hrow k e1) hj]
      split
      · omega
      · have:=q k e1 (by omega);omega
    by_cases e2:k<m+m
    · rw[show k=m+(k - m) by omega,bh _ (by omega),zgm (hrow _ (by omega)) hj]
      split
      · omega
      · have:=q (k - m) (by omega) (by omega);omega
    by_cases e3:k<m+m+n
    · rw[show k=m+m+(k - (m+m)) by omega,bo _ (by omega),zfc hj];split<;>omega
    · rw[show k=m+m+n+(k - (m+m+n)) by omega,bs _ (by omega),zf1 hj];split<;>omega
  have hsm:sqB 100 (n+1) (zaH b c c.length):=⟨r1,fun r hr=>by
    obtain⟨i,hi,rfl⟩:=zco hr
    have e:=hg.idx i hi
    have e2:(bdL b c i).1.length=n+1:=by rw[←hcl];exact hg.len _ e.2
    refine⟨e2,fun x hx=>?_⟩
    obtain⟨j,hj,rfl⟩:=zmB hx
    exact small _ j e.2 (by rw[←e2];exact hj)⟩
  have hd1:(atX b c).2.1≤1000000000000:=by
    have:=zsT (by omega) hsm
    show (zaG _ _).2.1≤_
    unfold zaG
    rw[if_neg hdet]
    split
    · show -detA _≤_;omega
    · show detA _≤_;omega
  have hsq2:sqB 100 (n+1) (trM (zaH b c c.length)):=⟨t1,fun r hr=>by
    obtain⟨j,hj,rfl⟩:=zco hr
    refine⟨by rw[zam,r1],fun x hx=>?_⟩
    obtain⟨i,hi,rfl⟩:=zco hx
    rw[r1] at hi hj
    rw[rr i hi]
    exact small _ j (hg.idx i (by omega)).2 hj⟩
  have hd2:(atY b c).2.1≤1000000000000:=by
    have:=zsT (by omega) hsq2
    show (zaG _ _).2.1≤_
    unfold zaG
    rw[if_neg hdet2]
    split
    · show -detA _≤_;omega
    · show detA _≤_;omega
  have eu:∀j,j<n+1→vI (zbM (c.length:Int) ((c.length:Int) - 1) 1) j=if j=n then 1 else 0:=fun j hj=>by
    rw[show (c.length:Int) - 1=((n:Nat):Int) by omega,hcl]
    exact zfW hj
  have hyb:∀i,i<n+1→0≤vI (atY b c).1 i∧vI (atY b c).1 i≤1000000000000:=fun i hi=>by
    have q1:=zp8 (xs:=(atY b c).1) (k:=c.length - 1) (i:=i) (by omega)
    refine⟨by omega,?_⟩
    have hc2:sqB 100 (n+1) (chk (trM (zaH b c c.length)) (zbM (c.length:Int) ((c.length:Int) - 1) 1) i (trM (zaH b c c.length)).length):=⟨by rw[zel,t1],fun r hr=>by
      obtain⟨k,hk,e2⟩:=zt8 hr
      rw[zel,t1] at hk
      have e3:rowN (chk (trM (zaH b c c.length)) (zbM (c.length:Int) ((c.length:Int) - 1) 1) i (trM (zaH b c c.length)).length) k=(rowN (trM (zaH b c c.length)) k).set i (vI (zbM (c.length:Int) ((c.length:Int) - 1) 1) k):=by
        have:=zaE (fun r=>if r<(trM (zaH b c c.length)).length then (rowN (trM (zaH b c c.length)) r).set i (vI (zbM (c.length:Int) ((c.length:Int) - 1) 1) r) else []) [] (trM (zaH b c c.length)).length k (by omega)
        rw[if_pos (by omega)] at this
        exact this
      rw[e2,e3]
      refine⟨by rw[List.length_set];exact t2 k hk,fun x hx=>?_⟩
      rcases List.mem_or_eq_of_mem_set hx with hx|rfl
      · exact (hsq2.2 _ (by rw[rowN,List.getD_eq_getElem?_getD,List.getElem?_eq_getElem (by omega)];exact List.getElem_mem _)).2 x hx
      · rw[eu k hk];split<;>omega⟩
    have hb2:=zsT (by omega) hc2
    show vI (zaG _ _).1 i≤_
    unfold zaG
    rw[if_neg hdet2]
    split
    · have e:vI (negd (dets (trM (zaH b c c.length)) (zbM (c.length:Int) ((c.length:Int) - 1) 1) (trM (zaH b c c.length)).length) (trM (zaH b c c.length)).length) i = -vI (dets (trM (zaH b c c.length)) (zbM (c.length:Int) ((c.length:Int) - 1) 1) (trM (zaH b c c.length)).length) i:=by
        have:=zaE (fun j=>if j<(trM (zaH b c c.length)).length then -vI (dets (trM (zaH b c c.length)) (zbM (c.length:Int) ((c.length:Int) - 1) 1) (trM (zaH b c c.length)).length) j else vI (dets (trM (zaH b c c.length)) (zbM (c.length:Int) ((c.length:Int) - 1) 1) (trM (zaH b c c.length)).length) j) 0 (dets (trM (zaH b c c.length)) (zbM (c.length:Int) ((c.length:Int) - 1) 1) (trM (zaH b c c.length)).length).length i (by rw[zei];omega)
        rw[if_pos (by omega)] at this
        exact this
      show vI (negd _ _) i≤_
      rw[e,zlt (by omega)];omega
    · show vI (dets _ _ _) i≤_
      rw[zlt (by omega)];omega
  -- the equations
  have eX':∀i,i<n+1→sm (fun j=>vI (bdN b (vI c i).toNat).1 j*vI (atX b c).1 j) (n+1)=zci b (vI c i).toNat*(atX b c).2.1:=fun i hi=>by
    have:=eX i hi
    rw[rr i hi,znH (by omega)] at this
    exact this
  have eY':∀j,j<n+1→sm (fun k=>vI (atY b c).1 k*vI (bdN b (vI c k).toNat).1 j) (n+1)=(if j=n then 1 else 0)*(atY b c).2.1:=fun j hj=>by
    have:=eY j hj
    rw[eu j hj] at this
    refine Eq.trans ?_ this
    refine zap _ fun k hk=>?_
    rw[zuQ (by omega) (by omega),rr k hk,Int.mul_comm];rfl
  obtain⟨X,hXe⟩:∃X:List Int,X=(atX b c).1:=⟨_,rfl⟩
  obtain⟨Dn,hDe⟩:∃Dn:Int,Dn=(atX b c).2.1:=⟨_,rfl⟩
  obtain⟨Y,hYe⟩:∃Y:List Int,Y=(atY b c).1:=⟨_,rfl⟩
  obtain⟨En,hEe⟩:∃En:Int,En=(atY b c).2.1:=⟨_,rfl⟩
  obtain⟨Ws,hWe⟩:∃Ws:List Int,Ws=wsP b.length c Y (n+1):=⟨_,rfl⟩
  have hxl:X.length=n+1:=by rw[hXe,zvD hX,hcl]
  rw[←hXe,←hDe] at eX' hO
  rw[←hYe] at hyb
  rw[←hYe,←hEe] at eY'
  rw[←hXe,←hDe,←hYe,←hEe,hcl,←hWe] at h2
  rw[←hDe] at hd1
  rw[←hEe] at hd2
  have pD:0<Dn:=by rw[hDe];exact pD
  have pE:0<En:=by rw[hEe];exact pE
  have hidx:∀i,i<n+1→(vI c i).toNat<b.length:=fun i hi=>(hg.idx i (by omega)).2
  have hdist:∀i j,i<j→j<n+1→(vI c i).toNat≠(vI c j).toNat:=fun i j hij hj e=>by
    have q1:=hasc i j hij hj
    have q2:=(hg.idx i (by omega)).1
    have q3:=(hg.idx j (by omega)).1
    omega
  have hwl:Ws.length=b.length:=by rw[hWe,zer]
  have hsum:∀g:Nat→Int,sm (fun k=>vI Ws k*g k) b.length=sm (fun i=>vI Y i*g (vI c i).toNat) (n+1):=fun g=>by
    rw[hWe];exact zuM hidx hdist g (n+1) (Nat.le_refl _)
  have hwb:∀k,0≤vI Ws k∧vI Ws k≤1000000000000:=fun k=>by
    rw[hWe];exact zxs (by decide) hidx hyb (n+1) (Nat.le_refl _) k
  have hok:=zms hO
  have dot:∀k,k<b.length→dotI (bdN b k).1 X=sm (fun j=>vI (bdN b k).1 j*vI X j) n+vI (bdN b k).1 n*vI X n:=fun k hk=>by
    unfold dotI
    rw[hg.len k hk,hcl];rfl
  subst h2
  refine⟨by rw[←hn];exact hxl,by rw[←hn,←hmm,←hbl];exact hwl,⟨pD,hd1⟩,⟨pE,hd2⟩,fun i hi=>?_,fun i hi=>?_,fun j hj=>?_,hwb,?_,fun j hj=>?_,?_⟩
  all_goals (try rw[←hmm] at hi)
  all_goals (try rw[←hn] at hj)
  all_goals (try rw[←hn])
  all_goals (try rw[←hmm])
  · have q:=hok i (by omega)
    rw[dot i (by omega),bl i hi,zgY (hrow i hi) (Nat.lt_succ_self n),if_pos rfl] at q
    rw[zap (g:=fun j=>-(vI (rowN t i) j*vI X j)) n (fun j hj=>by rw[zgY (hrow i hi) (by omega),if_neg (by omega),Int.neg_mul])] at q
    have q2:=zoD (fun _=>0) (fun j=>vI (rowN t i) j*vI X j) n
    rw[zcp] at q2
    rw[zap (g:=fun j=>0 - vI (rowN t i) j*vI X j) n (fun j _=>by omega),q2] at q
    have e:zci b i=0:=by rw[zci,bl i hi];rfl
    rw[e] at q
    show vI X n≤sm (fun j=>vI (rowN t i) j*vI X j) n
    omega
  · have q:=hok (m+i) (by omega)
    rw[dot _ (by omega),bh i hi,zgm (hrow i hi) (Nat.lt_succ_self n),if_pos rfl] at q
    rw[zap (g:=fun j=>vI (rowN t i) j*vI X j) n (fun j hj=>by rw[zgm (hrow i hi) (by omega),if_neg (by omega)])] at q
    have e:zci b (m+i)=cap:=by rw[zci,bh i hi];rfl
    rw[e] at q
    show sm (fun j=>vI (rowN t i) j*vI X j) n≤cap*Dn
    omega
  · have q:=hok (m+m+j) (by omega)
    rw[dot _ (by omega),bo j hj,zfc (Nat.lt_succ_self n),if_neg (by omega)] at q
    rw[zap (g:=fun k=>(if k=j then 1 else 0)*vI X k) n (fun k hk=>by rw[zfc (by omega)]),zl0 (p:=j) hj (fun k _ hne=>by rw[if_neg hne,Int.zero_mul]),if_pos rfl] at q
    have e:zci b (m+m+j)=1:=by rw[zci,bo j hj];rfl
    rw[e] at q
    have q':=hok (m+m+n+j) (by omega)
    rw[dot _ (by omega),bs j hj,zf1 (Nat.lt_succ_self n),if_neg (by omega)] at q'
    rw[zap (g:=fun k=>(if k=j then -1 else 0)*vI X k) n (fun k hk=>by rw[zf1 (by omega)]),zl0 (p:=j) hj (fun k _ hne=>by rw[if_neg hne,Int.zero_mul]),if_pos rfl] at q'
    have e':zci b (m+m+n+j)=0:=by rw[zci,bs j hj];rfl
    rw[e'] at q'
    show 0≤vI X j∧vI X j≤Dn
    omega
  · have q:=eY' n (Nat.lt_succ_self n)
    rw[if_pos rfl,←hsum (fun k=>vI (bdN b k).1 n),hbl,zcy,zcy,zcy] at q
    rw[zap (g:=fun i=>vI Ws i) m (fun i hi=>by rw[bl i hi,zgY (hrow i hi) (Nat.lt_succ_self n),if_pos rfl,Int.mul_one])] at q
    rw[zap (g:=fun _=>0) (f:=fun i=>vI Ws (m+i)*vI (bdN b (m+i)).1 n) m (fun i hi=>by rw[bh i hi,zgm (hrow i hi) (Nat.lt_succ_self n),if_pos rfl,Int.mul_zero])] at q
    rw[zap (g:=fun _=>0) (f:=fun i=>vI Ws (m+m+i)*vI (bdN b (m+m+i)).1 n) n (fun i hi=>by rw[bo i hi,zfc (Nat.lt_succ_self n),if_neg (by omega),Int.mul_zero])] at q
    rw[zap (g:=fun _=>0) (f:=fun i=>vI Ws (m+m+n+i)*vI (bdN b (m+m+n+i)).1 n) n (fun i hi=>by rw[bs i hi,zf1 (Nat.lt_succ_self n),if_neg (by omega),Int.mul_zero])] at q
    rw[zcp,zcp] at q
    show sm (fun i=>vI Ws i) m=En
    omega
  · have q:=eY' j (by omega)
    rw[if_neg (by omega),←hsum (fun k=>vI (bdN b k).1 j),hbl,zcy,zcy,zcy] at q
    rw[zap (g:=fun i=>-(vI Ws i*vI (rowN t i) j)) m (fun i hi=>by rw[bl i hi,zgY (hrow i hi) (by omega),if_neg (by omega),Int.mul_neg])] at q
    rw[zap (g:=fun i=>vI Ws (m+i)*vI (rowN t i) j) (f:=fun i=>vI Ws (m+i)*vI (bdN b (m+i)).1 j) m (fun i hi=>by rw[bh i hi,zgm (hrow i hi) (by omega),if_neg (by omega)])] at q
    rw[zap (g:=fun i=>vI Ws (m+m+i)*(if j=i then 1 else 0)) (f:=fun i=>vI Ws (m+m+i)*vI (bdN b (m+m+i)).1 j) n (fun i hi=>by rw[bo i hi,zfc (by omega)]),zl0 (p:=j) hj (fun i _ hne=>by rw[if_neg (Ne.symm hne),Int.mul_zero]),if_pos rfl] at q
    rw[zap (g:=fun i=>vI Ws (m+m+n+i)*(if j=i then -1 else 0)) (f:=fun i=>vI Ws (m+m+n+i)*vI (bdN b (m+m+n+i)).1 j) n (fun i hi=>by rw[bs i hi,zf1 (by omega)]),zl0 (p:=j) hj (fun i _ hne=>by rw[if_neg (Ne.symm hne),Int.mul_zero]),if_pos rfl] at q
    have q2:=zoD (fun _=>0) (fun i=>vI Ws i*vI (rowN t i) j) m
    rw[zcp] at q2
    rw[zap (g:=fun i=>0 - vI Ws i*vI (rowN t i) j) m (fun i _=>by omega),q2] at q
    have q3:=zoD (fun i=>vI Ws i*vI (rowN t i) j) (fun i=>vI Ws (m+i)*vI (rowN t i) j) m
    have q4:=hwb (m+m+n+j)
    show sm (fun i=>(vI Ws i - vI Ws (m+i))*vI (rowN t i) j) m≤vI Ws (m+m+j)
    rw[zap (g:=fun i=>vI Ws i*vI (rowN t i) j - vI Ws (m+i)*vI (rowN t i) j) m (fun i _=>Int.sub_mul _ _ _),q3]
    omega
  · -- the value is the bound
    have q1:sm (fun j=>sm (fun k=>vI Y k*vI (bdN b (vI c k).toNat).1 j) (n+1)*vI X j) (n+1)=vI X n*En:=by
      rw[zap (g:=fun j=>((if j=n then 1 else 0)*En)*vI X j) (n+1) (fun j hj=>by rw[eY' j hj]),zl0 (p:=n) (Nat.lt_succ_self n) (fun j _ hne=>by rw[if_neg hne,Int.zero_mul,Int.zero_mul]),if_pos rfl,Int.one_mul,Int.mul_comm]
    have q2:sm (fun j=>sm (fun k=>vI Y k*vI (bdN b (vI c k).toNat).1 j) (n+1)*vI X j) (n+1)=sm (fun k=>vI Y k*zci b (vI c k).toNat) (n+1)*Dn:=by
      rw[zap (g:=fun j=>sm (fun k=>vI Y k*vI (bdN b (vI c k).toNat).1 j*vI X j) (n+1)) (n+1) (fun j _=>(zbD _ _ _).symm),zgJ,←zbD]
      refine zap _ fun k hk=>?_
      rw[Int.mul_assoc,←eX' k hk,←zhm]
      exact zap _ fun j _=>Int.mul_assoc _ _ _
    have q3:sm (fun k=>vI Y k*zci b (vI c k).toNat) (n+1)=sm (fun i=>vI Ws (m+i)) m*cap+sm (fun j=>vI Ws (m+m+j)) n:=by
      rw[←hsum (fun k=>zci b k),hbl,zcy,zcy,zcy]
      rw[zap (g:=fun _=>0) m (fun i hi=>by rw[zci,bl i hi];exact Int.mul_zero _)]
      rw[zap (g:=fun i=>vI Ws (m+i)*cap) (f:=fun i=>vI Ws (m+i)*zci b (m+i)) m (fun i hi=>by rw[zci,bh i hi];rfl)]
      rw[zap (g:=fun i=>vI Ws (m+m+i)) (f:=fun i=>vI Ws (m+m+i)*zci b (m+m+i)) n (fun i hi=>by rw[zci,bo i hi];exact Int.mul_one _)]
      rw[zap (g:=fun _=>0) (f:=fun i=>vI Ws (m+m+n+i)*zci b (m+m+n+i)) n (fun i hi=>by rw[zci,bs i hi];exact Int.mul_zero _)]
      rw[zcp,zcp,zbD];omega
    show vI X n*En=(sm (fun i=>vI Ws (m+i)) m*cap+sm (fun j=>vI Ws (m+m+j)) n)*Dn
    rw[←q1,q2,q3]
end Go.Eng.Ar
namespace Go.Eng.Ar
open Go.Eng Go.Proofs Go.Eng.LP
set_option linter.all false
set_option maxRecDepth 100000
set_option maxHeartbeats 4000000
theorem zmG {a b k:Int} (hk:0<k):lowA (a*k) (b*k)=lowA a b∧lowC (a*k) (b*k)=lowC a b:=by
  have e:gcd2 (a*k) (b*k)=gcd2 a b*k:=by
    unfold gcd2
    rw[Int.natAbs_mul,Int.natAbs_mul,Nat.gcd_mul_right,Int.natCast_mul]
    congr 1;omega
  unfold lowA lowC
  rw[e]
  exact⟨Int.mul_tdiv_mul_of_pos_left _ _ hk,Int.mul_tdiv_mul_of_pos_left _ _ hk⟩
theorem zpi {a b c d:Int} (hb:0<b) (hd:0<d) (h:a*d=c*b):lowA a b=lowA c d∧lowC a b=lowC c d:=by
  have h1:=zmG (a:=a) (b:=b) hd
  have h2:=zmG (a:=c) (b:=d) hb
  rw[h,Int.mul_comm b d] at h1
  exact⟨h1.1.symm.trans h2.1,h1.2.symm.trans h2.2⟩
theorem zsw {xs:List Int}:∀ {k i:Nat},i<k→((gf xs k:Nat):Int)∣vI xs i
  | k+1,i,h=>by
    simp only[gf]
    by_cases e:i=k
    · subst e;exact Int.ofNat_dvd_left.2 (Nat.gcd_dvd_right _ _)
    · exact Int.dvd_trans (Int.ofNat_dvd.2 (Nat.gcd_dvd_left _ _)) (zsw (by omega))
theorem zoV {l:List Int} {d:Int} (hd:0<d):∃g:Int,0<g∧d=(redL l d).2*g∧(∀i,i<l.length→vI l i=vI (redL l d).1 i*g)∧(redL l d).1.length=l.length:=by
  have g2:(l++[d]).length=l.length+1:=by simp
  have g1:vI (l++[d]) l.length=d:=by simp[vI]
  have g3:redG l d≠0:=by
    have:=zsv (xs:=l++[d]) (k:=l.length) (by rw[g1];omega)
    show ((gf (l++[d]) (l++[d]).length:Nat):Int)≠0
    rw[g2];exact this
  have g4:0<redG l d:=by
    have:0≤redG l d:=Int.natCast_nonneg _
    omega
  refine⟨redG l d,g4,?_,fun i hi=>?_,zam _ _⟩
  · have h:=zsw (xs:=l++[d]) (k:=(l++[d]).length) (i:=l.length) (by omega)
    rw[g1] at h
    exact (Int.tdiv_mul_cancel h).symm
  · have h:=zsw (xs:=l++[d]) (k:=(l++[d]).length) (i:=i) (by omega)
    have e:vI (l++[d]) i=vI l i:=by simp[vI,List.getElem?_append_left hi]
    rw[e] at h
    have e2:vI (redL l d).1 i=Int.tdiv (vI l i) (redG l d):=zaE (fun i=>Int.tdiv (vI l i) (redG l d)) 0 _ i hi
    rw[e2]
    exact (Int.tdiv_mul_cancel h).symm
theorem zkC {l:List Int} {k i:Nat} (h:i<k):vI (l.take k) i=vI l i:=by simp[vI,List.getD,List.getElem?_take,h]
theorem zqF {l:List Int} {k i:Nat}:vI (l.drop k) i=vI l (k+i):=by simp[vI,List.getD,List.getElem?_drop]
theorem zcs {a b g:Int} (hg:0<g) (h:a*g≤b*g):a≤b:=Int.le_of_mul_le_mul_right h hg
theorem zyT {xs:List Int}:∀ {k:Nat},∃i,i≤k∧mn xs k=vI xs i
  | 0=>⟨0,Nat.le_refl _,rfl⟩
  | k+1=>by
    obtain⟨i,hi,e⟩:=zyT (xs:=xs) (k:=k)
    simp only[mn]
    split
    · exact⟨k+1,Nat.le_refl _,rfl⟩
    · exact⟨i,by omega,e⟩
theorem zyM {t:List (List Int)} {cap d:Int} {l:List Int} (hp:0<t.length) (h1:1≤d∧d≤1000000000000) (h2:l.length=ncol t) (h3:∀i,i<l.length→0≤vI l i∧vI l i≤d) (h4:∀i,i<t.length→dotI (rowN t i) l≤cap*d):opE t cap d l=0:=by
  have e:opE0 (ncol t) d l=0:=by
    unfold opE0;rw[if_pos h1,if_pos h2];exact zdz h3
  unfold opE
  rw[if_pos e,if_neg]
  refine Int.not_lt.2 (zmy.2 fun i hi=>?_)
  rw[zbt (by omega)]
  exact h4 i (by omega)
theorem zvd {t:List (List Int)} {lo hi cs:List Int}:∀ {n:Nat},(∀k,k<n→colW t lo hi k t.length≤vI cs k)→okW t lo hi cs n=true
  | 0,_=>rfl
  | n+1,h=>by
    simp only[okW]
    rw[zvd fun k hk=>h k (by omega),decide_eq_true (h n (by omega))];rfl
theorem zxr {t:List (List Int)} {d:Int} {lo hi cs:List Int} (h1:1≤d∧d≤1000000000000) (l1:lo.length=t.length) (l2:hi.length=t.length) (l3:cs.length=ncol t)
    (b1:∀i,i<t.length→0≤vI lo i∧vI lo i≤1000000000000) (b2:∀i,i<t.length→0≤vI hi i∧vI hi i≤1000000000000) (b3:∀i,i<ncol t→0≤vI cs i∧vI cs i≤1000000000000)
    (hs:sumI lo=d) (hc:∀k,k<ncol t→colW t lo hi k t.length≤vI cs k):wtE t d lo hi cs=0:=by
  have e:wtE0 t.length (ncol t) d lo hi cs=0:=by
    unfold wtE0
    rw[if_pos h1,if_pos ⟨l1,l2,l3⟩,if_pos (zdz (l:=lo) fun i hi'=>b1 i (by omega)),if_pos (zdz (l:=hi) fun i hi'=>b2 i (by omega))]
    exact zdz fun i hi'=>b3 i (by omega)
  unfold wtE
  rw[if_pos e,if_pos hs,if_pos (zvd hc)]
structure foundV (t:List (List Int)) (cap:Int) (o:zuI) (w:WgtD) (v1 v2:Int):Prop where
  op:opE t cap o.1 o.2.1=0
  wt:wtE t w.1 w.2.1 w.2.2.1 w.2.2.2.1=0
  vo:opV1 t o.1 o.2.1=v1∧opV2 t o.1 o.2.1=v2
  vw:wtV1 cap w.1 w.2.2.1 w.2.2.2.1=v1∧wtV2 cap w.1 w.2.2.1 w.2.2.2.1=v2
theorem zqg {t:List (List Int)} {cap:Int} (hg:goodT t cap) {X W:List Int} {D E:Int} (l1:X.length=ncol t+1) (l2:W.length=t.length+t.length+ncol t+ncol t) (d1:0<D∧D≤1000000000000) (d2:0<E∧E≤1000000000000)
    (low:∀i,i<t.length→vI X (ncol t)≤sm (fun j=>vI (rowN t i) j*vI X j) (ncol t)) (high:∀i,i<t.length→sm (fun j=>vI (rowN t i) j*vI X j) (ncol t)≤cap*D)
    (box:∀j,j<ncol t→0≤vI X j∧vI X j≤D) (ws:∀k,0≤vI W k∧vI W k≤1000000000000) (slow:sm (fun i=>vI W i) t.length=E)
    (col:∀j,j<ncol t→sm (fun i=>(vI W i - vI W (t.length+i))*vI (rowN t i) j) t.length≤vI W (t.length+t.length+j))
    (val:vI X (ncol t)*E=(sm (fun i=>vI W (t.length+i)) t.length*cap+sm (fun j=>vI W (t.length+t.length+j)) (ncol t))*D) :
    foundV t cap (bO (X,D,W,E,()) (ncol t)) (bW (X,D,W,E,()) t.length (ncol t)) (bV (X,D,W,E,()) (ncol t)).1 (bV (X,D,W,E,()) (ncol t)).2.1:=by
  have hp:=hg.pos
  obtain⟨g,hg0,e1,e2,e3⟩:=zoV (l:=X.take (ncol t)) d1.1
  obtain⟨h,hh0,f1,f2,f3⟩:=zoV (l:=W.take (2*t.length+ncol t)) d2.1
  have tl:(X.take (ncol t)).length=ncol t:=by rw[List.length_take];omega
  have wl:(W.take (2*t.length+ncol t)).length=2*t.length+ncol t:=by rw[List.length_take];omega
  obtain⟨l',hl'⟩:∃l',l'=(redL (X.take (ncol t)) D).1:=⟨_,rfl⟩
  obtain⟨d',hd'⟩:∃d',d'=(redL (X.take (ncol t)) D).2:=⟨_,rfl⟩
  obtain⟨w',hw'⟩:∃w',w'=(redL (W.take (2*t.length+ncol t)) E).1:=⟨_,rfl⟩
  obtain⟨E',hE'⟩:∃E',E'=(redL (W.take (2*t.length+ncol t)) E).2:=⟨_,rfl⟩
  rw[←hd'] at e1
  rw[←hl'] at e2 e3
  rw[←hE'] at f1
  rw[←hw'] at f2 f3
  rw[tl] at e2 e3
  rw[wl] at f2 f3
  have e2:∀j,j<ncol t→vI X j=vI l' j*g:=fun j hj=>by rw[←zkC (l:=X) hj];exact e2 j hj
  have f2:∀j,j<2*t.length+ncol t→vI W j=vI w' j*h:=fun j hj=>by rw[←zkC (l:=W) hj];exact f2 j hj
  have eO:bO (X,D,W,E,()) (ncol t)=(d',l',()):=by rw[hd',hl'];rfl
  have eW:bW (X,D,W,E,()) t.length (ncol t)=(E',w'.take t.length,(w'.take (2*t.length)).drop t.length,w'.drop (2*t.length),()):=by rw[hE',hw'];rfl
  have eV1:(bV (X,D,W,E,()) (ncol t)).1=lowA (vI X (ncol t)) D:=rfl
  have eV2:(bV (X,D,W,E,()) (ncol t)).2.1=lowC (vI X (ncol t)) D:=rfl
  rw[eO,eW,eV1,eV2]
  -- denominators
  have hd0:0<d':=by
    refine Int.not_le.1 fun q=>?_
    have:=Int.mul_le_mul_of_nonneg_right q (show 0≤g by omega)
    omega
  have hd1:d'≤D:=by
    have:=Int.mul_le_mul_of_nonneg_left (show 1≤g by omega) (show 0≤d' by omega)
    omega
  have hE0:0<E':=by
    refine Int.not_le.1 fun q=>?_
    have:=Int.mul_le_mul_of_nonneg_right q (show 0≤h by omega)
    omega
  have hE1:E'≤E:=by
    have:=Int.mul_le_mul_of_nonneg_left (show 1≤h by omega) (show 0≤E' by omega)
    omega
  have hdot:∀i,i<t.length→dotI (rowN t i) l'*g=sm (fun j=>vI (rowN t i) j*vI X j) (ncol t):=fun i hi=>by
    unfold dotI
    rw[hg.rows i hi,←zbD]
    exact zap _ fun j hj=>by rw[e2 j hj,Int.mul_assoc]
  have HO:opE t cap d' l'=0:=by
    refine zyM hp ⟨by omega,by omega⟩ e3 (fun j hj=>?_) fun i hi=>?_
    · have hj:j<ncol t:=by omega
      have q:=box j hj
      rw[e2 j hj] at q
      refine⟨zcs hg0 (by rw[Int.zero_mul];exact q.1),zcs hg0 (by rw[←e1];exact q.2)⟩
    · refine zcs hg0 ?_
      rw[hdot i hi,Int.mul_assoc,←e1]
      exact high i hi
  have v1:∀i,i<t.length→vI (w'.take t.length) i=vI w' i:=fun i hi=>zkC hi
  have v2:∀i,i<t.length→vI ((w'.take (2*t.length)).drop t.length) i=vI w' (t.length+i):=fun i hi=>by rw[zqF,zkC (by omega)]
  have v3:∀i,vI (w'.drop (2*t.length)) i=vI w' (t.length+t.length+i):=fun i=>by rw[zqF];congr 1;omega
  have n1:(w'.take t.length).length=t.length:=by rw[List.length_take];omega
  have n2:((w'.take (2*t.length)).drop t.length).length=t.length:=by rw[List.length_drop,List.length_take];omega
  have n3:(w'.drop (2*t.length)).length=ncol t:=by rw[List.length_drop];omega
  have wb:∀k,k<2*t.length+ncol t→0≤vI w' k∧vI w' k≤1000000000000:=fun k hk=>by
    have q:=ws k
    rw[f2 k hk] at q
    have q1:0≤vI w' k:=zcs hh0 (by rw[Int.zero_mul];exact q.1)
    have:=Int.mul_le_mul_of_nonneg_left (show 1≤h by omega) q1
    omega
  have HW:wtE t E' (w'.take t.length) ((w'.take (2*t.length)).drop t.length) (w'.drop (2*t.length))=0:=by
    refine zxr ⟨by omega,by omega⟩ n1 n2 n3 (fun i hi=>by rw[v1 i hi];exact wb i (by omega)) (fun i hi=>by rw[v2 i hi];exact wb _ (by omega)) (fun i hi=>by rw[v3];exact wb _ (by omega)) ?_ fun j hj=>?_
    · refine Int.eq_of_mul_eq_mul_right (show h≠0 by omega) ?_
      rw[←f1,←slow]
      unfold sumI
      rw[n1,←zbD]
      exact zap _ fun i hi=>by rw[v1 i hi,f2 i (by omega)]
    · refine zcs hh0 ?_
      rw[v3,←f2 _ (by omega)]
      unfold colW
      rw [←zbD,zap (g:=fun i=>(vI W i - vI W (t.length+i))*vI (rowN t i) j) t.length fun i hi=>by
        rw[v1 i hi,v2 i hi,f2 i (by omega),f2 (t.length+i) (by omega),←Int.sub_mul,Int.mul_assoc,Int.mul_assoc,Int.mul_comm h]]
      exact col j hj
  -- the values
  obtain⟨V,hV⟩:∃V,V=mn (gets t l' t.length) (t.length - 1):=⟨_,rfl⟩
  obtain⟨B,hB⟩:∃B,B=sumI ((w'.take (2*t.length)).drop t.length)*cap+sumI (w'.drop (2*t.length)):=⟨_,rfl⟩
  have eB:B*h=sm (fun i=>vI W (t.length+i)) t.length*cap+sm (fun j=>vI W (t.length+t.length+j)) (ncol t):=by
    rw[hB]
    unfold sumI
    rw[n2,n3,Int.add_mul,Int.mul_assoc,Int.mul_comm cap,←Int.mul_assoc,←zbD _ (fun i=>vI ((w'.take (2*t.length)).drop t.length) i),←zbD _ (fun i=>vI (w'.drop (2*t.length)) i)]
    rw[zap (g:=fun i=>vI W (t.length+i)) t.length fun i hi=>by rw[v2 i hi,f2 _ (by omega)]]
    rw[zap (g:=fun j=>vI W (t.length+t.length+j)) (ncol t) fun j hj=>by rw[v3,f2 _ (by omega)]]
  have a1:vI X (ncol t)≤V*g:=by
    obtain⟨i,hi,e⟩:=zyT (xs:=gets t l' t.length) (k:=t.length - 1)
    rw[hV,e,zbt (by omega),hdot i (by omega)]
    exact low i (by omega)
  have a2:V*E'≤B*d':=by
    have:=weak hg HO HW
    rw[←hV,←hB] at this;exact this
  have a3:vI X (ncol t)*E=B*h*D:=by rw[val,eB]
  have a4:V*g=vI X (ncol t):=by
    refine Int.le_antisymm (zcs d2.1 ?_) a1
    have q1:=Int.mul_le_mul_of_nonneg_right a2 (show 0≤h*g by exact Int.mul_nonneg (by omega) (by omega))
    have q2:V*g*E=V*E'*(h*g):=by rw[f1];simp only[Int.mul_assoc,Int.mul_comm,Int.mul_left_comm]
    have q3:vI X (ncol t)*E=B*d'*(h*g):=by rw[a3,e1];simp only[Int.mul_assoc,Int.mul_comm,Int.mul_left_comm]
    rw[q2,q3];exact q1
  refine⟨HO,HW,?_,?_⟩
  · show lowA (mn (gets t l' t.length) (t.length - 1)) d'=_∧lowC (mn (gets t l' t.length) (t.length - 1)) d'=_
    rw[←hV]
    refine zpi hd0 d1.1 ?_
    rw[←a4,e1,Int.mul_assoc,Int.mul_comm g d']
  · show lowA (sumI ((w'.take (2*t.length)).drop t.length)*cap+sumI (w'.drop (2*t.length))) E'=_∧lowC (sumI ((w'.take (2*t.length)).drop t.length)*cap+sumI (w'.drop (2*t.length))) E'=_
    rw[←hB]
    refine zpi hE0 d1.1 ?_
    refine Int.eq_of_mul_eq_mul_right (show h≠0 by omega) ?_
    have q1:B*D*h=B*h*D:=by simp only[Int.mul_assoc,Int.mul_comm,Int.mul_left_comm]
    rw[q1,←a3,f1,Int.mul_assoc]
theorem zun {t:List (List Int)} {cap:Int} {x:zcQ} (hg:goodT t cap) (V:cornV t cap x):foundV t cap (bO x (ncol t)) (bW x t.length (ncol t)) (bV x (ncol t)).1 (bV x (ncol t)).2.1:=by
  obtain⟨l1,l2,d1,d2,low,high,box,ws,slow,col,val⟩:=V
  obtain⟨X,D,W,E,⟨⟩⟩:=x
  exact zqg hg l1 l2 d1 d2 low high box ws slow col val
theorem zhd {t:List (List Int)} {cap:Int} (h:goodT t cap):foundV t cap (bO (bX t cap) (ncol t)) (bW (bX t cap) t.length (ncol t)) (bV (bX t cap) (ncol t)).1 (bV (bX t cap) (ncol t)).2.1:=by
  obtain⟨x,hx⟩:=Option.isSome_iff_exists.1 (ztb h)
  have e:bX t cap=x:=by show (zhI t cap).getD zhG=x;rw[hx];rfl
  rw[e]
  exact zun h (zwZ h hx)
theorem zzI {t:List (List Int)} {cap:Int} (h:goodT t cap):(-300000000000000≤(bV (bX t cap) (ncol t)).1∧(bV (bX t cap) (ncol t)).1≤300000000000000)∧0<(bV (bX t cap) (ncol t)).2.1∧(bV (bX t cap) (ncol t)).2.1≤1000000000000:=by
  have f:=zhd h
  have:=zo7 h f.op
  rw[f.vo.1,f.vo.2] at this
  exact this
theorem znf {t:List (List Int)} {cap d:Int} {l:List Int} (h:goodT t cap) (ho:opE t cap d l=0):¬0<cmpI (opV1 t d l) (opV2 t d l) (bV (bX t cap) (ncol t)).1 (bV (bX t cap) (ncol t)).2.1:=by
  have f:=zhd h
  have h1:=(zb0 (zjA ho).1).1
  have h2:=(zay (znp f.wt).1).1
  have h3:=weak h ho f.wt
  rw[←f.vw.1,←f.vw.2]
  unfold opV1 opV2 wtV1 wtV2
  rw[zol (by omega) (by omega)]
  unfold cmpI
  split
  · decide
  · rw[if_neg (by omega)];decide
theorem zta {t:List (List Int)} {cap more:Int} (h:goodT t cap) (hm:0≤more) (h':goodT t (cap+more)):0≤cmpI (bV (bX t (cap+more)) (ncol t)).1 (bV (bX t (cap+more)) (ncol t)).2.1 (bV (bX t cap) (ncol t)).1 (bV (bX t cap) (ncol t)).2.1:=by
  have f:=zhd h
  obtain⟨o1,o2⟩:=zjA f.op
  obtain⟨p1,p2,p3⟩:=zb0 o1
  have ho:opE t (cap+more) (bO (bX t cap) (ncol t)).1 (bO (bX t cap) (ncol t)).2.1=0:=by
    unfold opE
    rw[if_pos o1,if_neg]
    have:=Int.mul_nonneg hm (show 0≤(bO (bX t cap) (ncol t)).1 by exact Int.le_trans (by decide) p1.1)
    rw[Int.add_mul]
    exact Int.not_lt.2 (Int.le_trans o2 (Int.le_add_of_nonneg_right this))
  have:=znf h' ho
  rw[f.vo.1,f.vo.2] at this
  rw[zlB]
  have q:=Int.not_lt.1 this
  exact Int.neg_nonneg_of_nonpos q
theorem zuD {t:List (List Int)} {cap more:Int} (h:chkT t cap=0) (hm:¬chkT t (cap+more)=0):chkT t (cap+more)=2:=by
  unfold chkT at h hm ⊢
  split at h
  · cases h
  split at h
  · cases h
  split at h
  · cases h
  split at h
  · cases h
  split at h
  · rename_i h1 h2 h3 h4 h5
    rw[if_neg h1,if_neg h2,if_neg h3,if_neg h4,if_pos h5] at hm ⊢
    by_cases q:0≤cap+more∧cap+more≤1000
    · rw[if_pos q] at hm;exact absurd rfl hm
    · rw[if_neg q]
  · rename_i h5;exact absurd h h5
end Go.Eng.Ar
namespace Go.Eng.Ar
open Go.Eng Go.Proofs
set_option linter.all false
set_option maxRecDepth 100000
set_option maxHeartbeats 8000000
theorem zsc {t:List (List Int)} (h:smT t=true):zeO t:=by
  unfold smT at h
  simp only[Bool.and_eq_true] at h
  have h1:t.length≤6:=of_decide_eq_true h.1
  exact⟨by show t.length≤1000;omega,fun i hi=>by have:=zdI h.2 i hi;show (rowN t i).length≤1000;omega⟩
theorem zs7 {t:List (List Int)} {cap:Int} (h:chkT t cap=0):∃(o:zuI) (w:WgtD) (v1 v2:Int),zjj t cap=(o,w,(v1,v2,()),0,())∧(-300000000000000≤v1∧v1≤300000000000000)∧(0<v2∧v2≤1000000000000)∧(bV (bX t cap) (ncol t)).1=v1∧(bV (bX t cap) (ncol t)).2.1=v2:=by
  have hp:=zzI (zcC h)
  exact⟨_,_,_,_,if_pos h,hp.1,hp.2,rfl,rfl⟩
theorem zs8 {t:List (List Int)} {cap:Int} (h:¬chkT t cap=0):zjj t cap=((0,[],()),(0,[],[],[],()),(0,0,()),chkT t cap,()):=if_neg h
theorem zdJ (a b:Int):(zbs (List.replicate 2 I64)).beq (a,b,()) (a,b,())=true:=by
  show (decide (a=a)&&(decide (b=b)&&true))=true
  simp
theorem zyK (t:List (List Int)) (cap:Int):zrE t cap:=fun h=>ztb (zcC h)
@[reducible] def zx3:Spec:={pats:=[.dat zeq,.dat zhN,.dat I64,.gw 3 .err,.gw 4 .err,.gw 2 PowT,.gw 1 I64],res:=[{t:=.bool}],pre:=fun x=>x.2.2.2.2.2.1=powD,f:=fun _=>(true,())}
theorem zAs : Ok 7 zx3:=by
  refine mk (ctr:=[(14,zmf),(29,zbi),(40,zil),(41,zio),(42,zmc),(43,zgM),(44,zmd),(45,zf4)]) ⟨h14,h29,h40,h41,h42,h43,h44,h45,trivial⟩ (nt:=116) Tryz.func7 rfl rfl rfl rfl (by kernel_rfl) (by kernel_rfl) (fun _=>[]) ?_
  rintro⟨⟨(t:List (List Int)),(cap:Int),⟨⟩⟩,⟨(od:Int),(l:List Int),⟨⟩⟩,(more:Int),(b0:Bool),(b1:Bool),(pw:PowT.Den),(m:Int),⟨⟩⟩ (hpw:pw=powD)
  by_cases hs:smT t=true
  · have hL : Hid (zeO t):=zsc hs
    have hB:Hid (∀c,zrE t c):=zyK t
    by_cases hl:(l.length:Int)≤9
    · have hO : Hid (pK l.length):=(by show l.length≤1000;omega)
      have hO2:Hid (pLen l.length):=(by show (l.length:Int)≤4611686018427387904;omega)
      by_cases hm:0≤more∧more≤1000
      · by_cases h0:chkT t cap=0
        · have hg:=zcC h0
          have hc0:=hg.cap0
          have hcm:Hid (-9223372036854775808≤cap+more∧cap+more≤9223372036854775807):=by show _∧_;omega
          obtain⟨o,w,v1,v2,e1,q1,q2,z1,z2⟩:=zs7 h0
          have e2:opRA t cap od l=opR t cap od l:=if_pos h0
          obtain ⟨x1,x2,e,f1,g1⟩:∃x1 x2 e:Int,opR t cap od l=((x1,x2,()),e,())∧(e=0→opE t cap od l=0∧x1=opV1 t od l∧x2=opV2 t od l):=by
            by_cases ho:opE t cap od l=0
            · exact⟨_,_,_,if_pos ho,fun _=>⟨ho,rfl,rfl⟩⟩
            · exact⟨_,_,_,if_neg ho,fun q=>absurd q ho⟩
          rw[f1] at e2
          have y1:Hid (e=0→((-300000000000000≤x1∧x1≤300000000000000)∧0<x2∧x2≤1000000000000)∧¬0<cmpI x1 x2 v1 v2):=fun q=>by
            obtain⟨a,b,c⟩:=g1 q
            rw[b,c]
            refine⟨zo7 hg a,?_⟩
            have:=znf hg a
            rw[z1,z2] at this;exact this
          have y2:Hid (0<v2∧v2≤1000000000000):=q2
          have w1:¬v2<1:=by omega
          have z5:(0:Int)=0:=rfl
          clear g1 f1
          by_cases h1:chkT t (cap+more)=0
          · obtain ⟨o',w',u1,u2,e3,q3,q4,z3,z4⟩:=zs7 h1
            have hmo:0≤cmpI u1 u2 v1 v2:=by
              have:=zta hg hm.1 (zcC h1)
              rw[z1,z2,z3,z4] at this;exact this
            have hpu:Hid (pCmp u1 u2 v1 v2):=⟨by omega,by omega,by omega,by omega,by omega⟩
            have hpx:Hid (e=0→pCmp x1 x2 v1 v2):=fun q=>by
              have:=y1 q
              exact⟨by omega,by omega,by omega,by omega,by omega⟩
            have w2:1≤u2:=by omega
            have y3:Hid (0<u2):=q4.1
            clear q1 q2 q3 q4 z1 z2 z3 z4
            repeat' (intro hzz;(try (rename Two=>hq;cases hq));(try dsimp only at hzz);(try simp only[zad,zac,eqD,inR,big,zab,zB] at hzz);(try simp only[zad,zac,eqD,inR,big,zab,zB,hs,hl,hm,zal,h0,h1,e1,e2,e3,w1,w2,hmo,hpw,not_true_eq_false,not_false_eq_true] at hzz);(try (revert hzz;intro _)))
            all_goals try (rename Unit=>hq;clear hq)
            all_goals try ((with_reducible refine Held.mk ?_);(with_reducible (first|refine Frz.mk ?_|refine And.intro (Frz.mk ?_) ?_|refine And.intro ?_ (Frz.mk ?_)));repeat' first|exact True.intro|(change _=_;with_reducible rfl)|refine And.intro ?_ ?_|(with_reducible refine Frz.mk ?_))
            all_goals try (refine Held.mk ?_;(try dsimp only at *);(try simp only[zad,zac,eqD,inR,big,zab,zB] at *);(try simp only[zad,zac,eqD,inR,big,zab,zB,hs,hl,hm,zal,h0,h1,e1,e2,e3,w1,w2,hmo,hpw,not_true_eq_false,not_false_eq_true] at *))
            all_goals try omega
            all_goals first|exact hL|exact hB _|exact hO|exact hO2|exact hcm|exact hpx (by assumption)|exact hpu|(exfalso;have q:=y1 (by assumption);omega)|(exfalso;have q:0<u2:=y3;omega)|omega|exact zdJ _ _|trace_state
          · have h2:=zuD h0 h1
            have e3:=zs8 h1
            rw[h2] at e3
            have hpx:Hid (e=0→pCmp x1 x2 v1 v2):=fun q=>by
              have:=y1 q
              exact⟨by omega,by omega,by omega,by omega,by omega⟩
            clear q1 q2 z1 z2
            repeat' (intro hzz;(try (rename Two=>hq;cases hq));(try dsimp only at hzz);(try simp only[zad,zac,eqD,inR,big,zab,zB] at hzz);(try simp only[zad,zac,eqD,inR,big,zab,zB,hs,hl,hm,zal,h0,h1,e1,e2,e3,w1,hpw,not_true_eq_false,not_false_eq_true] at hzz);(try (revert hzz;intro _)))
            all_goals try (rename Unit=>hq;clear hq)
            all_goals try ((with_reducible refine Held.mk ?_);(with_reducible (first|refine Frz.mk ?_|refine And.intro (Frz.mk ?_) ?_|refine And.intro ?_ (Frz.mk ?_)));repeat' first|exact True.intro|(change _=_;with_reducible rfl)|refine And.intro ?_ ?_|(with_reducible refine Frz.mk ?_))
            all_goals try (refine Held.mk ?_;(try dsimp only at *);(try simp only[zad,zac,eqD,inR,big,zab,zB] at *);(try simp only[zad,zac,eqD,inR,big,zab,zB,hs,hl,hm,zal,h0,h1,e1,e2,e3,w1,hpw,not_true_eq_false,not_false_eq_true] at *))
            all_goals try omega
            all_goals first|exact hL|exact hB _|exact hO|exact hO2|exact hcm|exact hpx (by assumption)|(exfalso;have q:=y1 (by assumption);omega)|omega|exact zdJ _ _|trace_state
        · have e1:=zs8 h0
          have e2:opRA t cap od l=((0,0,()),chkT t cap,()):=if_neg h0
          repeat' (intro hzz;(try (rename Two=>hq;cases hq));(try dsimp only at hzz);(try simp only[zad,zac,eqD,inR,big,zab,zB] at hzz);(try simp only[zad,zac,eqD,inR,big,zab,zB,hs,hl,hm,zal,h0,e1,e2,hpw,zdJ,not_true_eq_false,not_false_eq_true] at hzz);(try (first|contradiction|(exfalso;omega)));(try (revert hzz;intro _)))
          all_goals try (rename Unit=>hq;clear hq)
          all_goals try ((with_reducible refine Held.mk ?_);(with_reducible (first|refine Frz.mk ?_|refine And.intro (Frz.mk ?_) ?_|refine And.intro ?_ (Frz.mk ?_)));repeat' first|exact True.intro|(change _=_;with_reducible rfl)|refine And.intro ?_ ?_|(with_reducible refine Frz.mk ?_))
          all_goals try (refine Held.mk ?_;(try dsimp only at *);(try simp only[zad,zac,eqD,inR,big,zab,zB] at *);(try simp only[zad,zac,eqD,inR,big,zab,zB,hs,hl,hm,zal,h0,e1,e2,hpw,zdJ,not_true_eq_false,not_false_eq_true] at *))
          all_goals try omega
          all_goals first|exact hL|exact hB _|exact zdJ _ _|trace_state
      · have z5:(0:Int)=0:=rfl
        repeat' (intro hzz;(try (rename Two=>hq;cases hq));(try dsimp only at hzz);(try simp only[zad,zac,eqD,inR,big,zab,zB] at hzz);(try simp only[zad,zac,eqD,inR,big,zab,zB,hs,hl,hm,zal,hpw,not_true_eq_false,not_false_eq_true] at hzz);(try (first|contradiction|(exfalso;omega)));(try (revert hzz;intro _)))
        all_goals try (rename Unit=>hq;clear hq)
        all_goals try ((with_reducible refine Held.mk ?_);(with_reducible (first|refine Frz.mk ?_|refine And.intro (Frz.mk ?_) ?_|refine And.intro ?_ (Frz.mk ?_)));repeat' first|exact True.intro|(change _=_;with_reducible rfl)|refine And.intro ?_ ?_|(with_reducible refine Frz.mk ?_))
        all_goals try (refine Held.mk ?_;(try dsimp only at *);(try simp only[zad,zac,eqD,inR,big,zab,zB] at *);(try simp only[zad,zac,eqD,inR,big,zab,zB,hs,hl,hm,zal,hpw,not_true_eq_false,not_false_eq_true] at *))
        all_goals try omega
        all_goals first|exact hL|trace_state
    · have z5:(0:Int)=0:=rfl
      repeat' (intro hzz;(try (rename Two=>hq;cases hq));(try dsimp only at hzz);(try simp only[zad,zac,eqD,inR,big,zab,zB] at hzz);(try simp only[zad,zac,eqD,inR,big,zab,zB,hs,hl,hpw,not_true_eq_false,not_false_eq_true] at hzz);(try (first|contradiction|(exfalso;omega)));(try (revert hzz;intro _)))
      all_goals try (rename Unit=>hq;clear hq)
      all_goals try ((with_reducible refine Held.mk ?_);(with_reducible (first|refine Frz.mk ?_|refine And.intro (Frz.mk ?_) ?_|refine And.intro ?_ (Frz.mk ?_)));repeat' first|exact True.intro|(change _=_;with_reducible rfl)|refine And.intro ?_ ?_|(with_reducible refine Frz.mk ?_))
      all_goals try (refine Held.mk ?_;(try dsimp only at *);(try simp only[zad,zac,eqD,inR,big,zab,zB] at *);(try simp only[zad,zac,eqD,inR,big,zab,zB,hs,hl,hpw,not_true_eq_false,not_false_eq_true] at *))
      all_goals try omega
      all_goals first|exact hL|trace_state
  · have hs':smT t=false:=by simpa using hs
    clear hs
    repeat' (intro hzz;(try (rename Two=>hq;cases hq));(try dsimp only at hzz);(try simp only[zad,zac,eqD,inR,big,zab,zB] at hzz);(try simp only[zad,zac,eqD,inR,big,zab,zB,hs',hpw,not_true_eq_false,not_false_eq_true] at hzz);(try (first|contradiction|(exfalso;omega)));(try (revert hzz;intro _)))
    all_goals try (rename Unit=>hq;clear hq)
    all_goals try ((with_reducible refine Held.mk ?_);(with_reducible (first|refine Frz.mk ?_|refine And.intro (Frz.mk ?_) ?_|refine And.intro ?_ (Frz.mk ?_)));repeat' first|exact True.intro|(change _=_;with_reducible rfl)|refine And.intro ?_ ?_|(with_reducible refine Frz.mk ?_))
    all_goals try (refine Held.mk ?_;(try dsimp only at *);(try simp only[zad,zac,eqD,inR,big,zab,zB] at *);(try simp only[zad,zac,eqD,inR,big,zab,zB,hs',hpw,not_true_eq_false,not_false_eq_true] at *))
    all_goals try omega
    all_goals trace_state
end Go.Eng.Ar
