/- Texts D2 D3 D4 D5 D6 W4, as far as they are used. Conditions: each lemma's own. -/
import Derived.Test.YtjgfbifggolibaaGreatDoorKM6
namespace Go.Eng.Ar
open Go.Eng Go.Proofs
set_option linter.all false
set_option maxRecDepth 100000
set_option maxHeartbeats 8000000
abbrev pK (n:Nat):Prop:=n≤1000
def cmpI (n d m k:Int):Int:=if n*k<m*d then -1 else if m*d<n*k then 1 else 0
abbrev pCmp (n d m k:Int):Prop:=(-1000000000000000000≤n∧n≤1000000000000000000)∧(0<d∧d≤1000000000000000000)∧(-1000000000000000000≤m∧m≤1000000000000000000)∧0<k∧k≤1000000000000000000
theorem zeX {n d:Int} (hd:0<d):n - d<n / d*d∧n / d*d≤n∧n=n / d*d+n % d∧0≤n % d∧n % d<d:=by
  have h1:=Int.emod_nonneg n (show d≠0 by omega)
  have h2:=Int.emod_lt_of_pos n hd
  have h3:=Int.emod_def n d
  rw[Int.mul_comm] at h3
  omega
theorem zhy {n d m k:Int} (hd:0<d) (hk:0<k) (h:n / d<m / k):cmpI n d m k = -1:=by
  obtain⟨a1,a2,a3,a4,a5⟩:=zeX (n:=n) hd
  obtain⟨b1,b2,b3,b4,b5⟩:=zeX (n:=m) hk
  refine if_pos ?_
  have h1:n+1≤(m / k)*d:=by
    have:(n / d+1)*d≤(m / k)*d:=Int.mul_le_mul_of_nonneg_right (by omega) (by omega)
    rw[Int.add_mul,Int.one_mul] at this;omega
  have h2:(n+1)*k≤(m / k)*d*k:=Int.mul_le_mul_of_nonneg_right h1 (by omega)
  have h3:(m / k*k)*d≤m*d:=Int.mul_le_mul_of_nonneg_right b2 (by omega)
  have h4:(m / k)*d*k=(m / k*k)*d:=by rw[Int.mul_assoc,Int.mul_comm d k,←Int.mul_assoc]
  rw[Int.add_mul,Int.one_mul] at h2
  omega
theorem zlB (n d m k:Int):cmpI n d m k = -cmpI m k n d:=by
  unfold cmpI
  by_cases h1:n*k<m*d
  · rw[if_pos h1,if_neg (by omega),if_pos h1]
  · rw[if_neg h1]
    by_cases h2:m*d<n*k
    · rw[if_pos h2,if_pos h2];rfl
    · rw[if_neg h2,if_neg h2,if_neg h1];rfl
theorem zkq {n d m k:Int} (hd:0<d) (hk:0<k) (h:m / k<n / d):cmpI n d m k=1:=by
  rw[zlB,zhy hk hd h];rfl
theorem zek {n d m k p:Int}:cmpI n d m k=cmpI (n - p*d) d (m - p*k) k:=by
  have e1:(n - p*d)*k=n*k - p*d*k:=Int.sub_mul _ _ _
  have e2:(m - p*k)*d=m*d - p*d*k:=by rw[Int.sub_mul,Int.mul_assoc p k d,Int.mul_comm k d,←Int.mul_assoc]
  unfold cmpI
  rw[e1,e2]
  generalize n*k=a
  generalize m*d=b
  generalize p*d*k=c
  by_cases h1:a<b
  · rw[if_pos h1,if_pos (show a - c<b - c by omega)]
  · rw[if_neg h1,if_neg (show ¬a - c<b - c by omega)]
    by_cases h2:b<a
    · rw[if_pos h2,if_pos (show b - c<a - c by omega)]
    · rw[if_neg h2,if_neg (show ¬b - c<a - c by omega)]
theorem zlA {n d m k:Int}:cmpI k m d n=cmpI n d m k:=by
  unfold cmpI;rw[Int.mul_comm k n,Int.mul_comm d m]
theorem zsX {d k:Int}:cmpI 0 d 0 k=0:=by unfold cmpI;rw[Int.zero_mul,Int.zero_mul];rfl
theorem zw2 {d m k:Int} (hd:0<d) (hm:0<m):cmpI 0 d m k = -1:=by
  refine if_pos ?_;rw[Int.zero_mul];exact Int.mul_pos hm hd
theorem zw1 {n d k:Int} (hk:0<k) (hn:0<n):cmpI n d 0 k=1:=by
  unfold cmpI
  have:=Int.mul_pos hn hk
  rw[Int.zero_mul,if_neg (by omega),if_pos this]
@[reducible] def zf4:Spec:={pats:=[.dat I64,.dat I64,.dat I64,.dat I64],res:=[{t:=I64}],pre:=fun x=>pCmp x.1 x.2.1 x.2.2.1 x.2.2.2.1,f:=fun x=>(cmpI x.1 x.2.1 x.2.2.1 x.2.2.2.1,())}
def zsY (c:Int):LoopAnn:={σ:=Int×Int×Int×Int,pat:=fun s=>[sI 0 s.1,sI 1 s.2.1,sI 2 s.2.2.1,sI 3 s.2.2.2],inv:=fun s=>pCmp s.1 s.2.1 s.2.2.1 s.2.2.2∧cmpI s.1 s.2.1 s.2.2.1 s.2.2.2=c,meas:=fun s=>(s.2.1+s.2.2.2).toNat}
theorem h45:Ok 45 zf4:=by
  refine mk (ctr:=[(82,zin)]) ⟨h82,trivial⟩ (nt:=47) Tryz.func45 rfl rfl rfl rfl (by kernel_rfl) (by kernel_rfl) (fun x=>[fun _=>zsY (cmpI x.1 x.2.1 x.2.2.1 x.2.2.2.1)]) ?_
  rintro⟨(n0:Int),(d0:Int),(m0:Int),(k0:Int),⟨⟩⟩ (h:pCmp n0 d0 m0 k0)
  repeat' (intro hzz;(try (rename Two=>hq;cases hq));(try dsimp only at hzz);(try simp only[zad,zac,eqD,inR,big,zab,zB] at hzz);(try simp only[zad,zac,eqD,inR,big,zab,zB,zeY] at hzz);(try (revert hzz;intro _)))
  all_goals try (rename Unit=>hq;clear hq)
  all_goals try ((with_reducible refine Held.mk ?_);(with_reducible (first|refine Frz.mk ?_|refine And.intro (Frz.mk ?_) ?_|refine And.intro ?_ (Frz.mk ?_)));repeat' first|exact True.intro|(change _=_;with_reducible rfl)|refine And.intro ?_ ?_|(with_reducible refine Frz.mk ?_))
  all_goals try (refine Held.mk ?_;(try dsimp only at *);(try simp only[zad,zac,eqD,inR,big,zab,zB] at *);(try simp only[zad,zac,eqD,inR,big,zab,zB,zeY] at *))
  all_goals try omega
  ·
    refine zai.mk ?_
    refine Exists.intro (n0,d0,m0,k0) ?_
    refine And.intro (Leaf.mk ?_) ?_
    · repeat' first|exact True.intro|refine And.intro ?_ ?_
      all_goals try ((change _=_<;>try dsimp only)<;>try with_reducible rfl)
      all_goals try omega
    exact⟨h,rfl⟩
  · rename_i s hs h
    rw[←hs.2];exact (zhy hs.1.2.1.1 hs.1.2.2.2.1 h).symm
  · rename_i s hs h1 h
    rw[←hs.2];exact (zkq hs.1.2.1.1 hs.1.2.2.2.1 h).symm
  all_goals (try (rename_i s hs h1 h2;obtain⟨⟨q1,q2,q3,q4⟩,q5⟩:=hs;have f1:=zeX (n:=s.1) q2.1;have f2:=zeX (n:=s.2.2.1) q4.1;omega))
  · rename_i s hs h1 h2 h3 h4
    obtain⟨⟨q1,q2,q3,q4⟩,q5⟩:=hs
    rw[←q5,zek (p:=s.1 / s.2.1),h3,show s.1 / s.2.1=s.2.2.1 / s.2.2.2 from Int.le_antisymm h2 h1,h4];exact zsX.symm
  · rename_i s hs h1 h2 h3 h4 h5
    obtain⟨⟨q1,q2,q3,q4⟩,q5⟩:=hs
    have f2:=zeX (n:=s.2.2.1) q4.1
    rw[←q5,zek (p:=s.1 / s.2.1),h3,show s.1 / s.2.1=s.2.2.1 / s.2.2.2 from Int.le_antisymm h2 h1]
    exact (zw2 q2.1 (by omega)).symm
  · rename_i s hs h1 h2 h3 h4 h5
    obtain⟨⟨q1,q2,q3,q4⟩,q5⟩:=hs
    have f1:=zeX (n:=s.1) q2.1
    rw[←q5,zek (p:=s.2.2.1 / s.2.2.2),h5,←show s.1 / s.2.1=s.2.2.1 / s.2.2.2 from Int.le_antisymm h2 h1]
    exact (zw1 q4.1 (by omega)).symm
  · rename_i s hs h1 h2 h3 h3' h4
    obtain⟨⟨q1,q2,q3,q4⟩,q5⟩:=hs
    have f1:=zeX (n:=s.1) q2.1
    have f2:=zeX (n:=s.2.2.1) q4.1
    have P:pCmp s.2.2.2 (s.2.2.1 - s.2.2.1 / s.2.2.2*s.2.2.2) s.2.1 (s.1 - s.1 / s.2.1*s.2.1):=⟨⟨by omega,by omega⟩,⟨by omega,by omega⟩,⟨by omega,by omega⟩,by omega,by omega⟩
    refine zai.mk ?_
    refine Exists.intro (s.2.2.2,s.2.2.1 - s.2.2.1 / s.2.2.2*s.2.2.2,s.2.1,s.1 - s.1 / s.2.1*s.2.1) ?_
    refine And.intro (Leaf.mk ?_) ?_
    · repeat' first|exact True.intro|refine And.intro ?_ ?_
      all_goals try ((change _=_<;>try dsimp only)<;>try with_reducible rfl)
      all_goals try omega
    refine⟨⟨P,?_⟩,?_⟩
    · show cmpI s.2.2.2 (s.2.2.1 - s.2.2.1 / s.2.2.2*s.2.2.2) s.2.1 (s.1 - s.1 / s.2.1*s.2.1)=_
      rw[zlA,←q5,zek (n:=s.1) (p:=s.1 / s.2.1),show s.1 / s.2.1=s.2.2.1 / s.2.2.2 from Int.le_antisymm h2 h1]
    · show (s.2.2.1 - s.2.2.1 / s.2.2.2*s.2.2.2+(s.1 - s.1 / s.2.1*s.2.1)).toNat<(s.2.1+s.2.2.2).toNat
      omega
theorem zkE {a b:Int}:∃g:Int,0≤g∧gcd2 a b=g∧a=Int.tdiv a g*g∧b=Int.tdiv b g*g:=by
  refine⟨gcd2 a b,Int.natCast_nonneg _,rfl,?_,?_⟩
  · exact (Int.tdiv_mul_cancel (Int.ofNat_dvd_left.2 (Nat.gcd_dvd_left _ _))).symm
  · exact (Int.tdiv_mul_cancel (Int.ofNat_dvd_left.2 (Nat.gcd_dvd_right _ _))).symm
@[reducible] def zq4:Spec:={pats:=[.dat I64],res:=[{t:=I64}],pre:=fun x=>(x.1:Int).natAbs≤9000000000000000000,f:=fun x=>(((x.1:Int).natAbs:Int),())}
theorem h152:Ok 152 zq4:=by
  refine mk (ctr:=[]) trivial (nt:=7) Tryz.func152 rfl rfl rfl rfl (by kernel_rfl) (by kernel_rfl) (fun _=>[]) ?_
  rintro⟨(n:Int),⟨⟩⟩ (h:n.natAbs≤9000000000000000000)
  repeat' (intro hzz;(try (rename Two=>hq;cases hq));(try dsimp only at hzz);(try simp only[zad,zac,eqD,inR,big,zab,zB] at hzz);(try (revert hzz;intro _)))
  all_goals try (rename Unit=>hq;clear hq)
  all_goals try ((with_reducible refine Held.mk ?_);(with_reducible (first|refine Frz.mk ?_|refine And.intro (Frz.mk ?_) ?_|refine And.intro ?_ (Frz.mk ?_)));repeat' first|exact True.intro|(change _=_;with_reducible rfl)|refine And.intro ?_ ?_|(with_reducible refine Frz.mk ?_))
  all_goals try (refine Held.mk ?_;(try dsimp only at *);(try simp only[zad,zac,eqD,inR,big,zab,zB] at *))
  all_goals try omega
  · simp only[cond_true];split<;>omega
@[reducible] def sGcd:Spec:={pats:=[.dat I64,.dat I64],res:=[{t:=I64}],pre:=fun x=>(x.1:Int).natAbs≤9000000000000000000∧(x.2.1:Int).natAbs≤9000000000000000000,f:=fun x=>(gcd2 x.1 x.2.1,())}
def zsA (a b:Int):LoopAnn:={σ:=Int×Int,pat:=fun s=>[sI 0 s.1,sI 1 s.2],inv:=fun s=>Nat.gcd s.1.natAbs s.2.natAbs=Nat.gcd a.natAbs b.natAbs∧s.1.natAbs≤9000000000000000000∧s.2.natAbs≤9000000000000000000,meas:=fun s=>s.2.natAbs}
theorem h167:Ok 167 sGcd:=by
  refine mk (ctr:=[(152,zq4)]) ⟨h152,trivial⟩ (nt:=13) Tryz.func167 rfl rfl rfl rfl (by kernel_rfl) (by kernel_rfl) (fun x=>[fun _=>zsA x.1 x.2.1]) ?_
  rintro⟨(a:Int),(b:Int),⟨⟩⟩ ⟨(h1:a.natAbs≤9000000000000000000),(h2:b.natAbs≤9000000000000000000)⟩
  repeat' (intro hzz;(try (rename Two=>hq;cases hq));(try dsimp only at hzz);(try simp only[zad,zac,eqD,inR,big,zab,zB] at hzz);(try (revert hzz;intro _)))
  all_goals try (rename Unit=>hq;clear hq)
  all_goals try ((with_reducible refine Held.mk ?_);(with_reducible (first|refine Frz.mk ?_|refine And.intro (Frz.mk ?_) ?_|refine And.intro ?_ (Frz.mk ?_)));repeat' first|exact True.intro|(change _=_;with_reducible rfl)|refine And.intro ?_ ?_|(with_reducible refine Frz.mk ?_))
  all_goals try (refine Held.mk ?_;(try dsimp only at *);(try simp only[zad,zac,eqD,inR,big,zab,zB] at *))
  all_goals try omega
  ·
    refine zai.mk ?_
    refine Exists.intro (a,b) ?_
    refine And.intro (Leaf.mk ?_) ?_
    · repeat' first|exact True.intro|refine And.intro ?_ ?_
      all_goals try ((change _=_<;>try dsimp only)<;>try with_reducible rfl)
      all_goals try omega
    exact⟨rfl,h1,h2⟩
  · rename_i s hs hn
    refine zai.mk ?_
    refine Exists.intro (s.2,s.1.tmod s.2) ?_
    refine And.intro (Leaf.mk ?_) ?_
    · repeat' first|exact True.intro|refine And.intro ?_ ?_
      all_goals try ((change _=_<;>try dsimp only)<;>try with_reducible rfl)
      all_goals try omega
    refine⟨⟨?_,hs.2.2,?_⟩,?_⟩
    · refine Eq.trans ?_ hs.1
      show Nat.gcd s.2.natAbs (s.1.tmod s.2).natAbs=_
      rw[Int.natAbs_tmod,Nat.gcd_comm,←Nat.gcd_rec,Nat.gcd_comm]
    · show (s.1.tmod s.2).natAbs≤_
      rw[Int.natAbs_tmod]
      exact Nat.le_trans (Nat.mod_le _ _) hs.2.1
    · show (s.1.tmod s.2).natAbs<s.2.natAbs
      rw[Int.natAbs_tmod]
      exact Nat.mod_lt _ (Nat.pos_of_ne_zero (fun h=>hn (Int.natAbs_eq_zero.1 h)))
  · rename_i s hs hn
    have e:=hs.1
    have hn:s.2=0:=hn
    rw[hn] at e
    have e:s.1.natAbs=Nat.gcd a.natAbs b.natAbs:=by simpa using e
    unfold gcd2;rw[←e]
abbrev zwf (a b:Int):Prop:=a.natAbs≤9000000000000000000∧b.natAbs≤9000000000000000000∧0<b
@[reducible] def zjw:Spec:={pats:=[.dat I64,.dat I64],res:=[{t:=zaD}],pre:=fun x=>zwf x.1 x.2.1,f:=fun x=>((Int.tdiv x.1 (gcd2 x.1 x.2.1),Int.tdiv x.2.1 (gcd2 x.1 x.2.1),()),())}
theorem zgo {a b:Int} (h:0<b):0<gcd2 a b:=by
  unfold gcd2
  have:Nat.gcd a.natAbs b.natAbs≠0:=fun e=>by have:=(Nat.gcd_eq_zero_iff.1 e).2;omega
  omega
theorem h150:Ok 150 zjw:=by
  refine mk (ctr:=[(167,sGcd)]) ⟨h167,trivial⟩ (nt:=20) Tryz.func150 rfl rfl rfl rfl (by kernel_rfl) (by kernel_rfl) (fun _=>[]) ?_
  rintro⟨(a:Int),(b:Int),⟨⟩⟩ ⟨(h1:a.natAbs≤9000000000000000000),(h2:b.natAbs≤9000000000000000000),(h3:0<b)⟩
  have hg:=zgo (a:=a) h3
  have t1:=zlS (b:=gcd2 a b) h1
  have t2:=zlS (b:=gcd2 a b) h2
  repeat' (intro hzz;(try (rename Two=>hq;cases hq));(try dsimp only at hzz);(try simp only[zad,zac,eqD,inR,big,zab,zB] at hzz);(try (revert hzz;intro _)))
  all_goals try (rename Unit=>hq;clear hq)
  all_goals try ((with_reducible refine Held.mk ?_);(with_reducible (first|refine Frz.mk ?_|refine And.intro (Frz.mk ?_) ?_|refine And.intro ?_ (Frz.mk ?_)));repeat' first|exact True.intro|(change _=_;with_reducible rfl)|refine And.intro ?_ ?_|(with_reducible refine Frz.mk ?_))
  all_goals try (refine Held.mk ?_;(try dsimp only at *);(try simp only[zad,zac,eqD,inR,big,zab,zB] at *))
  all_goals try omega
theorem h116:Ok 116 zjw:=by
  refine mk (ctr:=[(150,zjw)]) ⟨h150,trivial⟩ (nt:=14) Tryz.func116 rfl rfl rfl rfl (by kernel_rfl) (by kernel_rfl) (fun _=>[]) ?_
  rintro⟨(a:Int),(b:Int),⟨⟩⟩ ⟨(h1:a.natAbs≤9000000000000000000),(h2:b.natAbs≤9000000000000000000),(h3:0<b)⟩
  repeat' (intro hzz;(try (rename Two=>hq;cases hq));(try dsimp only at hzz);(try simp only[zad,zac,eqD,inR,big,zab,zB] at hzz);(try (revert hzz;intro _)))
  all_goals try (rename Unit=>hq;clear hq)
  all_goals try ((with_reducible refine Held.mk ?_);(with_reducible (first|refine Frz.mk ?_|refine And.intro (Frz.mk ?_) ?_|refine And.intro ?_ (Frz.mk ?_)));repeat' first|exact True.intro|(change _=_;with_reducible rfl)|refine And.intro ?_ ?_|(with_reducible refine Frz.mk ?_))
  all_goals try (refine Held.mk ?_;(try dsimp only at *);(try simp only[zad,zac,eqD,inR,big,zab,zB] at *))
  all_goals try omega
@[reducible] def zhn:Spec:={pats:=[.dat (.sl I64)],res:=[{t:=.sl I64}],pre:=fun x=>pK (List.length (α:=Int) x.1),f:=fun x=>(x.1,())}
theorem h109:Ok 109 zhn:=by
  refine mk (ctr:=[]) trivial (nt:=6) Tryz.func109 rfl rfl rfl rfl (by kernel_rfl) (by kernel_rfl) (fun _=>[]) ?_
  rintro⟨(l:List Int),⟨⟩⟩ (hp:l.length≤1000)
  repeat' (intro hzz;(try (rename Two=>hq;cases hq));(try dsimp only at hzz);(try simp only[zad,zac,eqD,inR,big,zab,zB] at hzz);(try (revert hzz;intro _)))
  all_goals try (rename Unit=>hq;clear hq)
  all_goals try ((with_reducible refine Held.mk ?_);(with_reducible (first|refine Frz.mk ?_|refine And.intro (Frz.mk ?_) ?_|refine And.intro ?_ (Frz.mk ?_)));repeat' first|exact True.intro|(change _=_;with_reducible rfl)|refine And.intro ?_ ?_|(with_reducible refine Frz.mk ?_))
  all_goals try (refine Held.mk ?_;(try dsimp only at *);(try simp only[zad,zac,eqD,inR,big,zab,zB] at *))
  · show 0+l.length≤2147483648;omega
  · rfl
abbrev zeO (l:List (List Int)):Prop:=pK l.length∧∀i,i<l.length→pK (rowN l i).length
@[reducible] def zme:Spec:={pats:=[.dat MatT],res:=[{t:=MatT}],pre:=fun x=>zeO x.1,f:=fun x=>(x.1,())}
theorem h103:Ok 103 zme:=by
  refine mk (ctr:=[(109,zhn)]) ⟨h109,trivial⟩ (nt:=20) Tryz.func103 rfl rfl rfl rfl (by kernel_rfl) (by kernel_rfl) (fun x=>[fun _=>{σ:=Nat,pat:=fun k=>sI 4 k::zra 3 60003 76 (tab (rowN x.1) k),inv:=fun k=>k≤List.length (α:=List Int) x.1,meas:=fun k=>List.length (α:=List Int) x.1 - k}]) ?_
  rintro⟨(l:List (List Int)),⟨⟩⟩ ⟨(hp:l.length≤1000),(hr:∀i,i<l.length→(rowN l i).length≤1000)⟩
  repeat' (intro hzz;(try (rename Two=>hq;cases hq));(try dsimp only at hzz);(try simp only[zad,zac,eqD,inR,big,zab,zB] at hzz);(try simp only[zad,zac,eqD,inR,big,zab,zB,za7,Int.toNat_natCast,zam] at hzz);(try (revert hzz;intro _)))
  all_goals try (rename Unit=>hq;clear hq)
  all_goals try ((with_reducible refine Held.mk ?_);(with_reducible (first|refine Frz.mk ?_|refine And.intro (Frz.mk ?_) ?_|refine And.intro ?_ (Frz.mk ?_)));repeat' first|exact True.intro|(change _=_;with_reducible rfl)|refine And.intro ?_ ?_|(with_reducible refine Frz.mk ?_))
  all_goals try (refine Held.mk ?_;(try dsimp only at *);(try simp only[zad,zac,eqD,inR,big,zab,zB] at *);(try simp only[zad,zac,eqD,inR,big,zab,zB,za7,Int.toNat_natCast,zam] at *))
  all_goals try omega
  ·
    refine zai.mk ?_
    refine Exists.intro (0:Nat) ?_
    refine And.intro (Leaf.mk ?_) ?_
    · repeat' first|exact True.intro|refine And.intro ?_ ?_
      all_goals try ((change _=_<;>try dsimp only)<;>try with_reducible rfl)
      all_goals try omega
      all_goals (rfl)
    exact Nat.zero_le _
  · rename_i k hk hlt
    exact hr k (by omega)
  · rename_i k hk hlt
    show k+1≤2147483648;omega
  · rename_i k hk hlt
    refine zai.mk ?_
    refine Exists.intro (k+1) ?_
    refine And.intro (Leaf.mk ?_) ?_
    · repeat' first|exact True.intro|refine And.intro ?_ ?_
      all_goals try ((change _=_<;>try dsimp only)<;>try with_reducible rfl)
      all_goals try omega
      all_goals (rfl)
    exact⟨(show k+1≤l.length by omega),(show l.length - (k+1)<l.length - k by omega)⟩
  · rename_i k hk hlt
    rw[show k=l.length by omega];exact (zk8 [] l).symm
@[reducible] def zmc:Spec:={pats:=[.dat zeq],res:=[{t:=zeq}],pre:=fun x=>zeO x.1.1,f:=fun x=>(x.1,())}
theorem h42:Ok 42 zmc:=by
  refine mk (ctr:=[(103,zme)]) ⟨h103,trivial⟩ (nt:=8) Tryz.func42 rfl rfl rfl rfl (by kernel_rfl) (by kernel_rfl) (fun _=>[]) ?_
  rintro⟨⟨(t:List (List Int)),(cap:Int),⟨⟩⟩,⟨⟩⟩ (h:zeO t)
  repeat' (intro hzz;(try (rename Two=>hq;cases hq));(try dsimp only at hzz);(try simp only[zad,zac,eqD,inR,big,zab,zB] at hzz);(try (revert hzz;intro _)))
  all_goals try (rename Unit=>hq;clear hq)
  all_goals try ((with_reducible refine Held.mk ?_);(with_reducible (first|refine Frz.mk ?_|refine And.intro (Frz.mk ?_) ?_|refine And.intro ?_ (Frz.mk ?_)));repeat' first|exact True.intro|(change _=_;with_reducible rfl)|refine And.intro ?_ ?_|(with_reducible refine Frz.mk ?_))
  all_goals try (refine Held.mk ?_;(try dsimp only at *);(try simp only[zad,zac,eqD,inR,big,zab,zB] at *))
  · exact h
@[reducible] def zmd:Spec:={pats:=[.dat zhN],res:=[{t:=zhN}],pre:=fun x=>pK (List.length (α:=Int) x.1.2.1),f:=fun x=>(x.1,())}
theorem h44:Ok 44 zmd:=by
  refine mk (ctr:=[(109,zhn)]) ⟨h109,trivial⟩ (nt:=8) Tryz.func44 rfl rfl rfl rfl (by kernel_rfl) (by kernel_rfl) (fun _=>[]) ?_
  rintro⟨⟨(d:Int),(l:List Int),⟨⟩⟩,⟨⟩⟩ (h:pK l.length)
  repeat' (intro hzz;(try (rename Two=>hq;cases hq));(try dsimp only at hzz);(try simp only[zad,zac,eqD,inR,big,zab,zB] at hzz);(try (revert hzz;intro _)))
  all_goals try (rename Unit=>hq;clear hq)
  all_goals try ((with_reducible refine Held.mk ?_);(with_reducible (first|refine Frz.mk ?_|refine And.intro (Frz.mk ?_) ?_|refine And.intro ?_ (Frz.mk ?_)));repeat' first|exact True.intro|(change _=_;with_reducible rfl)|refine And.intro ?_ ?_|(with_reducible refine Frz.mk ?_))
  all_goals try (refine Held.mk ?_;(try dsimp only at *);(try simp only[zad,zac,eqD,inR,big,zab,zB] at *))
  · exact h
abbrev pWgt (a b c:Nat):Prop:=pK a∧pK b∧pK c
@[reducible] def zu6:Spec:={pats:=[.dat zc2],res:=[{t:=zc2}],pre:=fun x=>pWgt (List.length (α:=Int) x.1.2.1) (List.length (α:=Int) x.1.2.2.1) (List.length (α:=Int) x.1.2.2.2.1),f:=fun x=>(x.1,())}
theorem h56:Ok 56 zu6:=by
  refine mk (ctr:=[(109,zhn)]) ⟨h109,trivial⟩ (nt:=16) Tryz.func56 rfl rfl rfl rfl (by kernel_rfl) (by kernel_rfl) (fun _=>[]) ?_
  rintro⟨⟨(d:Int),(l:List Int),(m:List Int),(c:List Int),⟨⟩⟩,⟨⟩⟩ ⟨(h1:pK l.length),(h2:pK m.length),(h3:pK c.length)⟩
  repeat' (intro hzz;(try (rename Two=>hq;cases hq));(try dsimp only at hzz);(try simp only[zad,zac,eqD,inR,big,zab,zB] at hzz);(try (revert hzz;intro _)))
  all_goals try (rename Unit=>hq;clear hq)
  all_goals try ((with_reducible refine Held.mk ?_);(with_reducible (first|refine Frz.mk ?_|refine And.intro (Frz.mk ?_) ?_|refine And.intro ?_ (Frz.mk ?_)));repeat' first|exact True.intro|(change _=_;with_reducible rfl)|refine And.intro ?_ ?_|(with_reducible refine Frz.mk ?_))
  all_goals try (refine Held.mk ?_;(try dsimp only at *);(try simp only[zad,zac,eqD,inR,big,zab,zB] at *))
  · exact h1
  · exact h2
  · exact h3
def zcF (t:List (List Int)):Nat→Bool
  | 0=>true
  | k+1=>zcF t k&&decide ((rowN t k).length≤5)
theorem zeL {t:List (List Int)} {k:Nat} (h:5<(rowN t k).length):∀n,k<n→zcF t n=false
  | 0,hk=>absurd hk (Nat.not_lt_zero _)
  | n+1,hk=>by
    simp only[zcF]
    by_cases e:k=n
    · subst e;rw[decide_eq_false (by omega),Bool.and_false]
    · rw[zeL h n (by omega),Bool.false_and]
theorem zdI {t:List (List Int)}:∀ {n:Nat},zcF t n=true→∀k,k<n→(rowN t k).length≤5
  | n+1,h,k,hk=>by
    simp only[zcF,Bool.and_eq_true] at h
    by_cases e:k=n
    · subst e;exact of_decide_eq_true h.2
    · exact zdI h.1 k (by omega)
def smT (t:List (List Int)):Bool:=decide (t.length≤6)&&zcF t t.length
@[reducible] def zil:Spec:={pats:=[.dat zeq],res:=[{t:=.bool}],pre:=fun _=>True,f:=fun x=>(smT x.1.1,())}
theorem h40:Ok 40 zil:=by
  refine mk (ctr:=[]) trivial (nt:=22) Tryz.func40 rfl rfl rfl rfl (by kernel_rfl) (by kernel_rfl) (fun x=>[fun _=>{σ:=Nat,pat:=fun k=>[sI 3 k],inv:=fun k=>k≤List.length (α:=List Int) x.1.1∧zcF x.1.1 k=true,meas:=fun k=>List.length (α:=List Int) x.1.1 - k}]) ?_
  rintro⟨⟨(t:List (List Int)),(cap:Int),⟨⟩⟩,⟨⟩⟩ _
  repeat' (intro hzz;(try (rename Two=>hq;cases hq));(try dsimp only at hzz);(try simp only[zad,zac,eqD,inR,big,zab,zB] at hzz);(try simp only[zad,zac,eqD,inR,big,zab,zB,za7,Int.toNat_natCast] at hzz);(try (revert hzz;intro _)))
  all_goals try (rename Unit=>hq;clear hq)
  all_goals try ((with_reducible refine Held.mk ?_);(with_reducible (first|refine Frz.mk ?_|refine And.intro (Frz.mk ?_) ?_|refine And.intro ?_ (Frz.mk ?_)));repeat' first|exact True.intro|(change _=_;with_reducible rfl)|refine And.intro ?_ ?_|(with_reducible refine Frz.mk ?_))
  all_goals try (refine Held.mk ?_;(try dsimp only at *);(try simp only[zad,zac,eqD,inR,big,zab,zB] at *);(try simp only[zad,zac,eqD,inR,big,zab,zB,za7,Int.toNat_natCast] at *))
  all_goals try omega
  · rename_i h
    unfold smT;rw[decide_eq_false (by omega)];rfl
  · rename_i h
    refine zai.mk ?_
    refine Exists.intro (0:Nat) ?_
    refine And.intro (Leaf.mk ?_) ?_
    · repeat' first|exact True.intro|refine And.intro ?_ ?_
      all_goals try ((change _=_<;>try dsimp only)<;>try with_reducible rfl)
      all_goals try omega
      all_goals (rfl)
    exact⟨Nat.zero_le _,rfl⟩
  · rename_i h k hk hlt h5
    have h5:(5:Int)<((rowN t k).length:Int):=h5
    unfold smT;rw[zeL (k:=k) (by omega) _ (by omega),Bool.and_false]
  · rename_i h k hk hlt h5
    have h5:((rowN t k).length:Int)≤5:=h5
    refine zai.mk ?_
    refine Exists.intro (k+1) ?_
    refine And.intro (Leaf.mk ?_) ?_
    · repeat' first|exact True.intro|refine And.intro ?_ ?_
      all_goals try ((change _=_<;>try dsimp only)<;>try with_reducible rfl)
      all_goals try omega
      all_goals (rfl)
    exact⟨⟨(show k+1≤t.length by omega),(show (zcF t k&&decide ((rowN t k).length≤5))=true by rw[hk.2,decide_eq_true (by omega)];rfl)⟩,(show t.length - (k+1)<t.length - k by omega)⟩
  · rename_i h k hk hlt
    have e:=hk.2
    rw[show k=t.length by omega] at e
    unfold smT;rw[e,decide_eq_true (by omega)];rfl
end Go.Eng.Ar
namespace Go.Eng.Ar
open Go.Eng Go.Proofs
set_option linter.all false
set_option maxRecDepth 100000
set_option maxHeartbeats 8000000
/-! ### The reference's tasks -/
theorem zh2 {l:List Int} {m:Int} {k:Nat} (hk:k<l.length) (h:¬(0≤vI l k∧vI l k≤m)):allE l m=2:=by
  unfold allE
  rw[if_pos]
  refine List.any_eq_true.2 ⟨vI l k,zhj hk,?_⟩
  simp only[outM];rw[show zal (vI l k) 0 m=false from decide_eq_false h];rfl
theorem zdz {l:List Int} {m:Int} (h:∀i,i<l.length→0≤vI l i∧vI l i≤m):allE l m=0:=by
  unfold allE
  rw[if_neg]
  intro ha
  obtain⟨x,hx,h2⟩:=List.any_eq_true.1 ha
  obtain⟨i,hi,rfl⟩:=zmB hx
  have:=h i hi
  simp only[outM] at h2
  rw[show zal (vI l i) 0 m=true from decide_eq_true this] at h2
  cases h2
theorem zfm {l:List Int} {m:Int}:allE l m=0∨allE l m=2:=by unfold allE;split<;>simp
def ctA1 (t:List (List Int)):LoopAnn:={σ:=Nat,pat:=fun k=>[sI 3 k],inv:=fun k=>k≤t.length∧zcl (ncol t) (t.drop k)=zcl (ncol t) t,meas:=fun k=>t.length - k}
def ctA2 (t:List (List Int)) (st:St):LoopAnn:=zju 3 st fun i=>{σ:=Nat,pat:=fun k=>[sI 4 k],inv:=fun k=>k≤(rowN t i.toNat).length∧∀j,j<k→0≤vI (rowN t i.toNat) j∧vI (rowN t i.toNat) j≤100,meas:=fun k=>(rowN t i.toNat).length - k}
theorem h51:Ok 51 zkO:=by
  refine mk (ctr:=[(29,zbi)]) ⟨h29,trivial⟩ (nt:=68) Tryz.func51 rfl rfl rfl rfl (by kernel_rfl) (by kernel_rfl) (fun x=>[fun _=>ctA1 x.1.1,ctA2 x.1.1]) ?_
  rintro⟨⟨(t:List (List Int)),(cap:Int),⟨⟩⟩,⟨⟩⟩ _
  repeat' (intro hzz;(try (rename Two=>hq;cases hq));(try dsimp only at hzz);(try simp only[zad,zac,eqD,inR,big,zab,zB] at hzz);(try simp only[zad,zac,eqD,inR,big,zab,zB,za7,zbB,zaz,zal,Int.toNat_natCast] at hzz);(try (revert hzz;intro _)))
  all_goals try (rename Unit=>hq;clear hq)
  all_goals try ((with_reducible refine Held.mk ?_);(with_reducible (first|refine Frz.mk ?_|refine And.intro (Frz.mk ?_) ?_|refine And.intro ?_ (Frz.mk ?_)));repeat' first|exact True.intro|(change _=_;with_reducible rfl)|refine And.intro ?_ ?_|(with_reducible refine Frz.mk ?_))
  all_goals try (refine Held.mk ?_;(try dsimp only at *);(try simp only[zad,zac,eqD,inR,big,zab,zB] at *);(try simp only[zad,zac,eqD,inR,big,zab,zB,za7,zbB,zaz,zal,Int.toNat_natCast] at *))
  · rename_i h
    unfold chkT;rw[if_pos (by omega)]
  · rename_i h1 h
    unfold chkT;rw[if_neg (by omega),if_pos (by omega)]
  · omega
  · rename_i h1 h2 h
    unfold chkT;rw[if_neg (by omega),if_neg (by omega),if_pos (show (t.getD 0 []).length=0 by omega)]
  · omega
  · rename_i h1 h2 h3 h
    unfold chkT;rw[if_neg (by omega),if_neg (by omega),if_neg (show ¬(t.getD 0 []).length=0 by omega),if_pos (show 3<(t.getD 0 []).length by omega)]
  · rename_i h1 h2 h3 h
    refine zai.mk ?_
    refine Exists.intro (0:Nat) ?_
    refine And.intro (Leaf.mk ?_) ?_
    · repeat' first|exact True.intro|refine And.intro ?_ ?_
      all_goals try ((change _=_<;>try dsimp only)<;>try with_reducible rfl)
      all_goals try omega
      all_goals (rfl)
    exact⟨Nat.zero_le _,rfl⟩
  · rename_i h1 h2 h3 h4 k hk h;omega
  · omega
  · rename_i h1 h2 h3 h4 k hk hg h
    have e:=zdS (n0:=ncol t) (show k<t.length by omega)
    have h:¬((t.getD k []).length:Int)=((t.getD 0 []).length:Int):=h
    rw[if_neg (show ¬(t.getD k []).length=(t.getD 0 []).length by omega),hk.2] at e
    unfold chkT;rw[if_neg (by omega),if_neg (by omega),if_neg (show ¬(t.getD 0 []).length=0 by omega),if_neg (show ¬3<(t.getD 0 []).length by omega),e,if_neg (by decide)]
  · rename_i h1 h2 h3 h4 k hk hg h
    refine zai.mk ?_
    refine Exists.intro (0:Nat) ?_
    refine And.intro (Leaf.mk ?_) ?_
    · repeat' first|exact True.intro|refine And.intro ?_ ?_
      all_goals try ((change _=_<;>try dsimp only)<;>try with_reducible rfl)
      all_goals try omega
      all_goals (rfl)
    exact⟨Nat.zero_le _,fun j hj=>absurd hj (Nat.not_lt_zero _)⟩
  · omega
  · omega
  · rename_i h1 h2 h3 h4 k hk hg h j hj hlt;omega
  · rename_i h1 h2 h3 h4 k hk hg h j hj hlt hn
    have e:=zdS (n0:=ncol t) (show k<t.length by omega)
    have h:((t.getD k []).length:Int)=((t.getD 0 []).length:Int):=h
    have hlt:(j:Int)<((t.getD k []).length:Int):=hlt
    have hA:allE (t.getD k []) 100=2:=zh2 (k:=j) (by omega) hn
    rw[if_pos (show (t.getD k []).length=(t.getD 0 []).length by omega),hA,if_neg (by decide),hk.2] at e
    unfold chkT;rw[if_neg (by omega),if_neg (by omega),if_neg (show ¬(t.getD 0 []).length=0 by omega),if_neg (show ¬3<(t.getD 0 []).length by omega),e,if_neg (by decide)]
  · rename_i h1 h2 h3 h4 k hk hg h j hj hlt hn
    have h:((t.getD k []).length:Int)=((t.getD 0 []).length:Int):=h
    have hlt:(j:Int)<((t.getD k []).length:Int):=hlt
    omega
  · rename_i h1 h2 h3 h4 k hk hg h j hj hlt hn
    have hlt:(j:Int)<((t.getD k []).length:Int):=hlt
    refine zai.mk ?_
    refine Exists.intro (j+1) ?_
    refine And.intro (Leaf.mk ?_) ?_
    · repeat' first|exact True.intro|refine And.intro ?_ ?_
      all_goals try ((change _=_<;>try dsimp only)<;>try with_reducible rfl)
      all_goals try omega
      all_goals (rfl)
    refine⟨⟨(show j+1≤(t.getD k []).length by omega),fun i hi=>?_⟩,(show (t.getD k []).length - (j+1)<(t.getD k []).length - j by omega)⟩
    by_cases e:i=j
    · subst e;exact hn
    · exact hj.2 i (by omega)
  · rename_i h1 h2 h3 h4 k hk hg h j hj hlt;omega
  · rename_i h1 h2 h3 h4 k hk hg h j hj hlt
    have e:=zdS (n0:=ncol t) (show k<t.length by omega)
    have h:((t.getD k []).length:Int)=((t.getD 0 []).length:Int):=h
    have hlt:((t.getD k []).length:Int)≤(j:Int):=hlt
    have hA:allE (t.getD k []) 100=0:=zdz fun i hi=>hj.2 i (by omega)
    rw[if_pos (show (t.getD k []).length=(t.getD 0 []).length by omega),if_pos hA,hk.2] at e
    refine zai.mk ?_
    refine Exists.intro (k+1) ?_
    refine And.intro (Leaf.mk ?_) ?_
    · repeat' first|exact True.intro|refine And.intro ?_ ?_
      all_goals try ((change _=_<;>try dsimp only)<;>try with_reducible rfl)
      all_goals try omega
      all_goals (rfl)
    exact⟨⟨by show k+1≤t.length;omega,e.symm⟩,by show t.length - (k+1)<t.length - k;omega⟩
  · rename_i h1 h2 h3 h4 k hk h hc
    have e:=hk.2
    rw[List.drop_eq_nil_of_le (by omega)] at e
    have e:(0:Int)=zcl (ncol t) t:=e
    unfold chkT;rw[if_neg (by omega),if_neg (by omega),if_neg (show ¬(t.getD 0 []).length=0 by omega),if_neg (show ¬3<(t.getD 0 []).length by omega),←e,if_pos rfl,if_neg hc]
  · rename_i h1 h2 h3 h4 k hk h hc
    have e:=hk.2
    rw[List.drop_eq_nil_of_le (by omega)] at e
    have e:(0:Int)=zcl (ncol t) t:=e
    unfold chkT;rw[if_neg (by omega),if_neg (by omega),if_neg (show ¬(t.getD 0 []).length=0 by omega),if_neg (show ¬3<(t.getD 0 []).length by omega),←e,if_pos rfl,if_pos hc]
def zfn (l:List Int) (m:Int):Bool:=decide (allE l m=0)
@[reducible] def sWi:Spec:={pats:=[.dat (.sl I64),.dat I64],res:=[{t:=.bool}],pre:=fun x=>pLen (List.length (α:=Int) x.1),f:=fun x=>(zfn x.1 x.2.1,())}
theorem h115:Ok 115 sWi:=by
  refine mk (ctr:=[(29,zbi)]) ⟨h29,trivial⟩ (nt:=19) Tryz.func115 rfl rfl rfl rfl (by kernel_rfl) (by kernel_rfl) (fun x=>[fun _=>{σ:=Nat,pat:=fun k=>[sI 5 k],inv:=fun k=>k≤List.length (α:=Int) x.1∧∀j,j<k→0≤vI x.1 j∧vI x.1 j≤x.2.1,meas:=fun k=>List.length (α:=Int) x.1 - k}]) ?_
  rintro⟨(l:List Int),(m:Int),⟨⟩⟩ (hp:pLen l.length)
  have hp':=hp.out
  repeat' (intro hzz;(try (rename Two=>hq;cases hq));(try dsimp only at hzz);(try simp only[zad,zac,eqD,inR,big,zab,zB] at hzz);(try simp only[zad,zac,eqD,inR,big,zab,zB,zaz,zal,Int.toNat_natCast] at hzz);(try (revert hzz;intro _)))
  all_goals try (rename Unit=>hq;clear hq)
  all_goals try ((with_reducible refine Held.mk ?_);(with_reducible (first|refine Frz.mk ?_|refine And.intro (Frz.mk ?_) ?_|refine And.intro ?_ (Frz.mk ?_)));repeat' first|exact True.intro|(change _=_;with_reducible rfl)|refine And.intro ?_ ?_|(with_reducible refine Frz.mk ?_))
  all_goals try (refine Held.mk ?_;(try dsimp only at *);(try simp only[zad,zac,eqD,inR,big,zab,zB] at *);(try simp only[zad,zac,eqD,inR,big,zab,zB,zaz,zal,Int.toNat_natCast] at *))
  all_goals try omega
  ·
    refine zai.mk ?_
    refine Exists.intro (0:Nat) ?_
    refine And.intro (Leaf.mk ?_) ?_
    · repeat' first|exact True.intro|refine And.intro ?_ ?_
      all_goals try ((change _=_<;>try dsimp only)<;>try with_reducible rfl)
      all_goals try omega
      all_goals (rfl)
    exact⟨Nat.zero_le _,fun j hj=>absurd hj (Nat.not_lt_zero _)⟩
  · rename_i k hk hlt hn
    unfold zfn;rw[zh2 (k:=k) (by omega) hn];rfl
  · rename_i k hk hlt hn
    refine zai.mk ?_
    refine Exists.intro (k+1) ?_
    refine And.intro (Leaf.mk ?_) ?_
    · repeat' first|exact True.intro|refine And.intro ?_ ?_
      all_goals try ((change _=_<;>try dsimp only)<;>try with_reducible rfl)
      all_goals try omega
      all_goals (rfl)
    refine⟨⟨(show k+1≤l.length by omega),fun i hi=>?_⟩,(show l.length - (k+1)<l.length - k by omega)⟩
    by_cases e:i=k
    · subst e;exact hn
    · exact hk.2 i (by omega)
  · rename_i k hk hlt
    unfold zfn;rw[zdz fun i hi=>hk.2 i (by omega)];rfl
def gets (t:List (List Int)) (l:List Int) (k:Nat):List Int:=tab (fun i=>dotI (rowN t i) l) k
theorem zbf {t l k}:(gets t l k).length=k:=zam _ _
theorem zbt {t:List (List Int)} {l:List Int} {k i:Nat} (h:i<k):vI (gets t l k) i=dotI (rowN t i) l:=zaE (fun i=>dotI (rowN t i) l) 0 k i h
def opE0 (n:Nat) (d:Int) (l:List Int):Int:=if 1≤d∧d≤1000000000000 then (if l.length=n then allE l d else 10) else 2
def opE (t:List (List Int)) (cap d:Int) (l:List Int):Int:=if opE0 (ncol t) d l=0 then (if cap*d<mx (gets t l t.length) (t.length - 1) then 24 else 0) else opE0 (ncol t) d l
def lowP (a b:Int):zaD.Den:=(Int.tdiv a (gcd2 a b),Int.tdiv b (gcd2 a b),())
def opV (t:List (List Int)) (d:Int) (l:List Int):zaD.Den:=lowP (mn (gets t l t.length) (t.length - 1)) d
def opR (t:List (List Int)) (cap d:Int) (l:List Int):zaD.Den×Int×Unit:=if opE t cap d l=0 then (opV t d l,0,()) else ((0,0,()),opE t cap d l,())
def opRA (t:List (List Int)) (cap d:Int) (l:List Int):zaD.Den×Int×Unit:=if chkT t cap=0 then opR t cap d l else ((0,0,()),chkT t cap,())
@[reducible] def zgM:Spec:={pats:=[.dat zeq,.dat zhN],res:=[{t:=zaD},{t:=I64}],pre:=fun x=>pLen (List.length (α:=Int) x.2.1.2.1),f:=fun x=>opRA x.1.1 x.1.2.1 x.2.1.1 x.2.1.2.1}
@[reducible] def zoQ:Spec:={zgM with pre:=fun x=>goodT x.1.1 x.1.2.1∧pLen (List.length (α:=Int) x.2.1.2.1),f:=fun x=>opR x.1.1 x.1.2.1 x.2.1.1 x.2.1.2.1}
theorem zb0 {n:Nat} {d:Int} {l:List Int} (h:opE0 n d l=0):(1≤d∧d≤1000000000000)∧l.length=n∧∀i,i<l.length→0≤vI l i∧vI l i≤d:=by
  unfold opE0 at h
  split at h
  · rename_i h1
    split at h
    · rename_i h2;exact⟨h1,h2,zep h⟩
    · cases h
  · cases h
theorem zjA {t:List (List Int)} {cap d:Int} {l:List Int} (h:opE t cap d l=0):opE0 (ncol t) d l=0∧mx (gets t l t.length) (t.length - 1)≤cap*d:=by
  unfold opE at h
  split at h
  · rename_i h1
    split at h
    · cases h
    · rename_i h2;exact⟨h1,by omega⟩
  · rename_i h1;exact absurd h h1
theorem zeI {f:Nat→Int} {B:Int}:∀k:Nat,(∀i,i<k→0≤f i∧f i≤B)→0≤sm f k∧sm f k≤(k:Int)*B
  | 0,_=>⟨Int.le_refl _,by simp[sm]⟩
  | k+1,h=>by
    have h1:=zeI k fun i hi=>h i (by omega)
    have h2:=h k (by omega)
    have e:(((k+1:Nat):Int)*B)=(k:Int)*B+B:=by rw[Int.natCast_add,Int.add_mul];simp
    rw[e]
    show 0≤sm f k+f k∧sm f k+f k≤_
    omega
theorem zb1 {a b A B:Int} (h1:0≤a∧a≤A) (h2:0≤b∧b≤B):0≤a*b∧a*b≤A*B:=⟨Int.mul_nonneg h1.1 h2.1,Int.mul_le_mul h1.2 h2.2 h2.1 (Int.le_trans h1.1 h1.2)⟩
theorem zfA {t:List (List Int)} {cap d:Int} {l:List Int} (hg:goodT t cap) (h:opE0 (ncol t) d l=0) {i:Nat} (hi:i<t.length):(0≤dotI (rowN t i) l∧dotI (rowN t i) l≤300000000000000)∧pDot (rowN t i) l∧∀k,k≤ncol t→0≤sm (fun j=>vI (rowN t i) j*vI l j) k∧sm (fun j=>vI (rowN t i) j*vI l j) k≤300000000000000:=by
  obtain⟨h1,h2,h3⟩:=zb0 h
  have hr:=hg.rows i hi
  have hc:=hg.cle
  have hb:∀j,j<ncol t→0≤vI (rowN t i) j*vI l j∧vI (rowN t i) j*vI l j≤100000000000000:=fun j hj=>by
    have q1:=hg.vals i j hi hj
    have q2:=h3 j (by omega)
    have:=zb1 q1 (show 0≤vI l j∧vI l j≤1000000000000 by omega)
    omega
  have hs:∀k,k≤ncol t→0≤sm (fun j=>vI (rowN t i) j*vI l j) k∧sm (fun j=>vI (rowN t i) j*vI l j) k≤300000000000000:=fun k hk=>by
    have:=zeI (f:=fun j=>vI (rowN t i) j*vI l j) (B:=100000000000000) k fun j hj=>hb j (by omega)
    omega
  refine⟨?_,⟨by omega,by omega,fun j hj=>?_⟩,hs⟩
  · unfold dotI;rw[hr];exact hs _ (Nat.le_refl _)
  · have:=hb j (by omega);omega
theorem zmy {xs : List Int} {c:Int}:∀ {k:Nat},mx xs k≤c↔∀i,i≤k→vI xs i≤c
  | 0 => ⟨fun h i hi => by obtain rfl:i=0:=by omega
                           exact h,fun h=>h 0 (Nat.le_refl _)⟩
  | k + 1=>by
    have ih:=zmy (xs:=xs) (c:=c) (k:=k)
    simp only[mx]
    constructor
    · intro h i hi
      split at h
      · rename_i h1
        by_cases e:i=k+1
        · subst e;exact h
        · exact ih.1 (by omega) i (by omega)
      · rename_i h1
        by_cases e:i=k+1
        · subst e;show xs.getD (k+1) 0≤c;omega
        · exact ih.1 h i (by omega)
    · intro h
      split
      · exact h (k+1) (Nat.le_refl _)
      · exact ih.2 fun i hi=>h i (by omega)
def lsI (xs:Nat→Int):Nat→Int
  | 0=>0
  | k+1=>if k=0∨xs k<lsI xs k then xs k else lsI xs k
theorem zwo {l:List Int} {f:Nat→Int}:∀ {k:Nat},(∀i,i≤k→vI l i=f i)→lsI f (k+1)=mn l k
  | 0,h=>by simp only[lsI,mn];rw[←h 0 (Nat.le_refl _)];simp
  | k+1,h=>by
    have ih:=zwo (l:=l) (f:=f) (k:=k) fun i hi=>h i (by omega)
    rw[lsI,mn,ih,←h (k+1) (Nat.le_refl _)]
    by_cases e:vI l (k+1)<mn l k
    · rw[if_pos (.inr e),if_pos e]
    · rw[if_neg (fun q=>by rcases q with q|q;omega;exact e q),if_neg e]
theorem za0 {xs:List Int} {A B:Int}:∀ {k:Nat},(∀i,i≤k→A≤vI xs i∧vI xs i≤B)→A≤mn xs k∧mn xs k≤B
  | 0,h=>h 0 (Nat.le_refl _)
  | k+1,h=>by
    have ih:=za0 (xs:=xs) (k:=k) fun i hi=>h i (by omega)
    have:=h (k+1) (Nat.le_refl _)
    simp only[mn];split
    · exact this
    · exact ih
theorem zaI {n:Nat} {d:Int} {l:List Int}:za8 [bif zal d 1 1000000000000 then 0 else 2,bif decide ((l.length:Int)=(n:Int)) then 0 else 10,allE l d]=opE0 n d l:=by
  simp only[za8,opE0]
  by_cases h1:1≤d∧d≤1000000000000
  · rw [if_pos h1,show zal d 1 1000000000000=true from decide_eq_true h1]
    show (if (0:Int)=0 then _ else _)=_
    rw[if_pos rfl]
    by_cases h2:l.length=n
    · rw[if_pos h2,decide_eq_true (show (l.length:Int)=(n:Int) by omega)]
      show (if (0:Int)=0 then _ else _)=_
      rw[if_pos rfl]
      split
      · rename_i h;exact h.symm
      · rfl
    · rw[if_neg h2,decide_eq_false (show ¬(l.length:Int)=(n:Int) by omega)];rfl
  · rw[if_neg h1,show zal d 1 1000000000000=false from decide_eq_false h1];rfl
def zw0 (t:List (List Int)) (l:List Int):LoopAnn:={σ:=Nat,pat:=fun k=>sI 45 k::sOwn 8 60008 3 (gets t l k),inv:=fun k=>k≤t.length,meas:=fun k=>t.length - k}
theorem zrG {t:List (List Int)} {cap d:Int} {l:List Int} (h:¬chkT t cap=0):opRA t cap d l=((0,0,()),chkT t cap,()):=if_neg h
theorem zp7 {t:List (List Int)} {cap d:Int} {l:List Int} (h:¬opE0 (ncol t) d l=0):opR t cap d l=((0,0,()),opE0 (ncol t) d l,()):=by
  have e:opE t cap d l=opE0 (ncol t) d l:=if_neg h
  unfold opR;rw[e,if_neg h]
theorem zt4 {t:List (List Int)} {cap d:Int} {l:List Int} (h:opE0 (ncol t) d l=0) (h2:cap*d<mx (gets t l t.length) (t.length - 1)):opR t cap d l=((0,0,()),24,()):=by
  have e:opE t cap d l=24:=(if_pos h).trans (if_pos h2)
  unfold opR;rw[e];rfl
theorem zt3 {t:List (List Int)} {cap d:Int} {l:List Int} (h:opE0 (ncol t) d l=0) (h2:¬cap*d<mx (gets t l t.length) (t.length - 1)):opR t cap d l=(opV t d l,0,()):=by
  have e:opE t cap d l=0:=(if_pos h).trans (if_neg h2)
  unfold opR;rw[e,if_pos rfl]
theorem zuE {cap d:Int} (h1:0≤cap∧cap≤1000) (h2:1≤d∧d≤1000000000000):0≤cap*d∧cap*d≤1000000000000000:=by
  have:=zb1 h1 (show 0≤d∧d≤1000000000000 by omega)
  omega
theorem h43:Ok 43 zgM:=by
  refine mk (ctr:=[(65,zkO),(73,zeJ),(85,zb7),(88,zbi),(104,zrh),(105,sDot),(106,sMax),(107,sLow),(108,sMin)]) ⟨h65,h73,h85,h88,h104,h105,h106,h107,h108,trivial⟩ (nt:=71) Tryz.func43 rfl rfl rfl rfl (by kernel_rfl) (by kernel_rfl) (fun x=>[fun _=>zw0 x.1.1 x.2.1.2.1]) ?_
  rintro⟨⟨(t:List (List Int)),(cap:Int),⟨⟩⟩,⟨(d:Int),(l:List Int),⟨⟩⟩,⟨⟩⟩ (hp:pLen l.length)
  repeat' (intro hzz;(try (rename Two=>hq;cases hq));(try dsimp only at hzz);(try simp only[zad,zac,eqD,inR,big,zab,zB] at hzz);(try simp only[zad,zac,eqD,inR,big,zab,zB,za7,zbB,zaz,Int.toNat_natCast] at hzz);(try (revert hzz;intro _)))
  all_goals try (rename Unit=>hq;clear hq)
  all_goals try ((with_reducible refine Held.mk ?_);(with_reducible (first|refine Frz.mk ?_|refine And.intro (Frz.mk ?_) ?_|refine And.intro ?_ (Frz.mk ?_)));repeat' first|exact True.intro|(change _=_;with_reducible rfl)|refine And.intro ?_ ?_|(with_reducible refine Frz.mk ?_))
  all_goals try (refine Held.mk ?_;(try dsimp only at *);(try simp only[zad,zac,eqD,inR,big,zab,zB] at *);(try simp only[zad,zac,eqD,inR,big,zab,zB,za7,zbB,zaz,Int.toNat_natCast] at *))
  all_goals try (have hg:=zcC (by assumption:chkT t cap=0);have g1:=hg.pos;have g2:=hg.le;have g3:=hg.cap0)
  · rename_i h
    rw[zrG h];exact⟨⟨rfl,rfl⟩,rfl⟩
  · omega
  · exact hp
  · show ((3:Nat):Int)≤4611686018427387904;decide
  · rename_i h1 h
    have e:opRA t cap d l=opR t cap d l:=if_pos h1
    have h2:¬opE0 (ncol t) d l=0:=fun q=>h ((zaI (n:=ncol t) (d:=d) (l:=l)).trans q)
    rw[e,zp7 h2];exact⟨⟨rfl,rfl⟩,zaI (n:=ncol t) (d:=d) (l:=l)⟩
  · rename_i h1 h
    refine zai.mk ?_
    refine Exists.intro (0:Nat) ?_
    refine And.intro (Leaf.mk ?_) ?_
    · repeat' first|exact True.intro|refine And.intro ?_ ?_
      all_goals try ((change _=_<;>try dsimp only)<;>try with_reducible rfl)
      all_goals try omega
      all_goals (rfl)
    exact Nat.zero_le _
  · omega
  · rename_i h1 h k hk hlt
    have h:opE0 (ncol t) d l=0:=(zaI (n:=ncol t) (d:=d) (l:=l)).symm.trans h
    exact (zfA hg h (by omega)).2.1
  · rename_i h1 h k hk hlt
    have h:opE0 (ncol t) d l=0:=(zaI (n:=ncol t) (d:=d) (l:=l)).symm.trans h
    show (gets t l k).length+1≤2147483648
    rw[zbf];omega
  · omega
  · rename_i h1 h k hk hlt
    have h:opE0 (ncol t) d l=0:=(zaI (n:=ncol t) (d:=d) (l:=l)).symm.trans h
    have e:(gets t l (k+1)).length=k+1:=zbf
    refine zai.mk ?_
    refine Exists.intro (k+1) ?_
    refine And.intro (Leaf.mk ?_) ?_
    · repeat' first|exact True.intro|refine And.intro ?_ ?_
      all_goals try ((change _=_<;>try dsimp only)<;>try with_reducible rfl)
      all_goals try omega
      all_goals (first|rfl|exact e|exact e.symm|(rw[List.length_append,zbf];rfl))
    exact⟨(show k+1≤t.length by omega),(show t.length - (k+1)<t.length - k by omega)⟩
  all_goals try exact zbf.symm
  · rename_i h1 h k hk hlt
    have h:opE0 (ncol t) d l=0:=(zaI (n:=ncol t) (d:=d) (l:=l)).symm.trans h
    rw[zbf]
    exact⟨by omega,(show (k:Int)≤4611686018427387904 by omega)⟩
  · rename_i h1 h k hk hlt
    have h:opE0 (ncol t) d l=0:=(zaI (n:=ncol t) (d:=d) (l:=l)).symm.trans h
    have:=zuE (cap:=cap) (d:=d) g3 (zb0 h).1
    omega
  · rename_i h1 h k hk hlt hm
    have h:opE0 (ncol t) d l=0:=(zaI (n:=ncol t) (d:=d) (l:=l)).symm.trans h
    rw[zbf,show k=t.length by omega] at hm
    have e:opRA t cap d l=opR t cap d l:=if_pos h1
    rw[e,zt4 h hm];exact⟨⟨rfl,rfl⟩,rfl⟩
  · rename_i h1 h k hk hlt hm
    have h:opE0 (ncol t) d l=0:=(zaI (n:=ncol t) (d:=d) (l:=l)).symm.trans h
    rw[zbf]
    exact⟨by omega,(show (k:Int)≤4611686018427387904 by omega)⟩
  · rename_i h1 h k hk hlt hm
    have h:opE0 (ncol t) d l=0:=(zaI (n:=ncol t) (d:=d) (l:=l)).symm.trans h
    rw[zbf,show k=t.length by omega]
    have q:=za0 (xs:=gets t l t.length) (A:=0) (B:=300000000000000) (k:=t.length - 1) fun i hi=>by
      rw[zbt (by omega)];exact (zfA hg h (by omega)).1
    have q2:=(zb0 h).1
    exact⟨by omega,by omega,by omega⟩
  · rename_i h1 h k hk hlt hm
    have h:opE0 (ncol t) d l=0:=(zaI (n:=ncol t) (d:=d) (l:=l)).symm.trans h
    rw[zbf,show k=t.length by omega] at hm ⊢
    have e:opRA t cap d l=opR t cap d l:=if_pos h1
    rw[e,zt3 h (Int.not_lt.2 hm)];exact⟨⟨rfl,rfl⟩,rfl⟩
theorem zdE {t:List (List Int)} {d:Int} {l:List Int} (h1:1≤d∧d≤1000000000000) (h2:(l.length:Int)=((t.getD 0 []).length:Int)) (h3:zfn l d=true):opE0 (ncol t) d l=0:=
  (if_pos h1).trans ((if_pos (show l.length=(t.getD 0 []).length by omega)).trans (of_decide_eq_true h3))
def roA1 (t:List (List Int)) (cap d:Int) (l:List Int):LoopAnn:={σ:=Nat,pat:=fun k=>[sI 7 k,sI 6 (lsI (fun i=>dotI (rowN t i) l) k)],inv:=fun k=>k≤t.length∧∀i,i<k→dotI (rowN t i) l≤cap*d,meas:=fun k=>t.length - k}
def roA2 (t:List (List Int)) (l:List Int) (st:St):LoopAnn:=zju 7 st fun i=>{σ:=Nat,pat:=fun k=>[sI 9 k,sI 8 (sm (fun j=>vI (rowN t i.toNat) j*vI l j) k)],inv:=fun k=>k≤l.length,meas:=fun k=>l.length - k}
theorem h52:Ok 52 zoQ:=by
  refine mk (ctr:=[(29,zbi),(115,sWi),(116,zjw)]) ⟨h29,h115,h116,trivial⟩ (nt:=82) Tryz.func52 rfl rfl rfl rfl (by kernel_rfl) (by kernel_rfl) (fun x=>[fun _=>roA1 x.1.1 x.1.2.1 x.2.1.1 x.2.1.2.1,roA2 x.1.1 x.2.1.2.1]) ?_
  rintro⟨⟨(t:List (List Int)),(cap:Int),⟨⟩⟩,⟨(d:Int),(l:List Int),⟨⟩⟩,⟨⟩⟩ ⟨(hg:goodT t cap),(hp:pLen l.length)⟩
  repeat' (intro hzz;(try (rename Two=>hq;cases hq));(try dsimp only at hzz);(try simp only[zad,zac,eqD,inR,big,zab,zB] at hzz);(try simp only[zad,zac,eqD,inR,big,zab,zB,za7,zbB,zaz,Int.toNat_natCast,zal] at hzz);(try (revert hzz;intro _)))
  all_goals try (rename Unit=>hq;clear hq)
  all_goals try ((with_reducible refine Held.mk ?_);(with_reducible (first|refine Frz.mk ?_|refine And.intro (Frz.mk ?_) ?_|refine And.intro ?_ (Frz.mk ?_)));repeat' first|exact True.intro|(change _=_;with_reducible rfl)|refine And.intro ?_ ?_|(with_reducible refine Frz.mk ?_))
  all_goals try (refine Held.mk ?_;(try dsimp only at *);(try simp only[zad,zac,eqD,inR,big,zab,zB] at *);(try simp only[zad,zac,eqD,inR,big,zab,zB,za7,zbB,zaz,Int.toNat_natCast,zal] at *))
  all_goals have g1:=hg.pos
  all_goals have g2:=hg.le
  all_goals have g3:=hg.cap0
  · rename_i h
    have e:opE0 (ncol t) d l=2:=if_neg h
    rw[zp7 (by rw[e];decide),e];exact⟨⟨rfl,rfl⟩,rfl⟩
  · omega
  · rename_i h1 h
    have e:opE0 (ncol t) d l=10:=(if_pos h1).trans (if_neg (show ¬l.length=(t.getD 0 []).length by omega))
    rw[zp7 (by rw[e];decide),e];exact⟨⟨rfl,rfl⟩,rfl⟩
  · exact hp
  · rename_i h1 h2 h
    have h:¬allE l d=0:=of_decide_eq_false h
    have e:opE0 (ncol t) d l=allE l d:=(if_pos h1).trans (if_pos (show l.length=(t.getD 0 []).length by omega))
    have e2:allE l d=2:=by rcases zfm (l:=l) (m:=d) with q|q;exact absurd q h;exact q
    rw[zp7 (by rw[e];exact h),e,e2];exact⟨⟨rfl,rfl⟩,rfl⟩
  · rename_i h1 h2 h
    refine zai.mk ?_
    refine Exists.intro (0:Nat) ?_
    refine And.intro (Leaf.mk ?_) ?_
    · repeat' first|exact True.intro|refine And.intro ?_ ?_
      all_goals try ((change _=_<;>try dsimp only)<;>try with_reducible rfl)
      all_goals try omega
      all_goals (rfl)
    exact⟨Nat.zero_le _,fun i hi=>absurd hi (Nat.not_lt_zero _)⟩
  · rename_i h1 h2 h k hk hlt
    refine zai.mk ?_
    refine Exists.intro (0:Nat) ?_
    refine And.intro (Leaf.mk ?_) ?_
    · repeat' first|exact True.intro|refine And.intro ?_ ?_
      all_goals try ((change _=_<;>try dsimp only)<;>try with_reducible rfl)
      all_goals try omega
      all_goals (rfl)
    exact Nat.zero_le _
  all_goals try omega
  all_goals have hc3:=hg.cle
  · rename_i h1 h2 h3 k hk hlt j hj hjl
    have hO:=zdE h1 h2 h3
    have e:(rowN t k).length=ncol t:=hg.rows k (by omega)
    have e2:=(zb0 hO).2.1
    show 0≤(j:Int)∧(j:Int)<((rowN t k).length:Int)
    omega
  · rename_i h1 h2 h3 k hk hlt j hj hjl
    have hO:=zdE h1 h2 h3
    have e2:=(zb0 hO).2.1
    have e3:=(zfA hg hO (i:=k) (by omega)).2.1.2.2 j (by rw[hg.rows k (by omega)];omega)
    exact⟨Int.le_trans (by decide) e3.1,Int.le_trans e3.2 (by decide)⟩
  · rename_i h1 h2 h3 k hk hlt j hj hjl
    have hO:=zdE h1 h2 h3
    have e2:=(zb0 hO).2.1
    have e3:=(zfA hg hO (i:=k) (by omega)).2.2 (j+1) (by omega)
    exact⟨Int.le_trans (by decide) e3.1,Int.le_trans e3.2 (by decide)⟩
  · rename_i h1 h2 h3 k hk hlt j hj hjl
    have e2:=(zb0 (zdE h1 h2 h3)).2.1
    omega
  · rename_i h1 h2 h3 k hk hlt j hj hjl
    refine zai.mk ?_
    refine Exists.intro (j+1) ?_
    refine And.intro (Leaf.mk ?_) ?_
    · repeat' first|exact True.intro|refine And.intro ?_ ?_
      all_goals try ((change _=_<;>try dsimp only)<;>try with_reducible rfl)
      all_goals try omega
      all_goals (rfl)
    exact⟨(show j+1≤l.length by omega),(show l.length - (j+1)<l.length - j by omega)⟩
  · rename_i h1 h2 h3 k hk hlt j hj hjl
    have:=zuE (cap:=cap) (d:=d) g3 h1
    omega
  · rename_i h1 h2 h3 k hk hlt j hj hjl h
    have hO:=zdE h1 h2 h3
    have e2:=(zb0 hO).2.1
    have e3:=hg.rows k (by omega)
    have e4:dotI (rowN t k) l=sm (fun i=>vI (rowN t k) i*vI l i) j:=by unfold dotI;rw[e3,show j=ncol t by omega]
    rw[←e4] at h
    have h5:cap*d<mx (gets t l t.length) (t.length - 1):=by
      refine Int.not_le.1 fun q=>?_
      have:=zmy.1 q k (by omega)
      rw[zbt (by omega)] at this
      omega
    rw[zt4 hO h5];exact⟨⟨rfl,rfl⟩,rfl⟩
  · rename_i h1 h2 h3 k hk hlt j hj hjl h5 h6 h7
    have hO:=zdE h1 h2 h3
    have e2:=(zb0 hO).2.1
    have e3:=hg.rows k (by omega)
    have e4:sm (fun i=>vI (rowN t k) i*vI l i) j=dotI (rowN t k) l:=by unfold dotI;rw[e3,show j=ncol t by omega]
    rw[e4] at h5 h7
    have e6:lsI (fun i=>dotI (rowN t i) l) (k+1)=dotI (rowN t k) l:=if_pos (.inr h7)
    have e5:sm (fun i=>vI (rowN t k) i*vI l i) j=lsI (fun i=>dotI (rowN t i) l) (k+1):=e4.trans e6.symm
    refine zai.mk ?_
    refine Exists.intro (k+1) ?_
    refine And.intro (Leaf.mk ?_) ?_
    · repeat' first|exact True.intro|refine And.intro ?_ ?_
      all_goals try ((change _=_<;>try dsimp only)<;>try with_reducible rfl)
      all_goals try omega
      all_goals (first|rfl|exact e5)
    refine⟨⟨(show k+1≤t.length by omega),fun i hi=>?_⟩,(show t.length - (k+1)<t.length - k by omega)⟩
    by_cases e:i=k
    · subst e;exact h5
    · exact hk.2 i (by omega)
  · rename_i h1 h2 h3 k hk hlt j hj hjl h5 h6 h7
    have hO:=zdE h1 h2 h3
    have e2:=(zb0 hO).2.1
    have e3:=hg.rows k (by omega)
    have e4:sm (fun i=>vI (rowN t k) i*vI l i) j=dotI (rowN t k) l:=by unfold dotI;rw[e3,show j=ncol t by omega]
    rw[e4] at h5 h7
    have e6:lsI (fun i=>dotI (rowN t i) l) (k+1)=lsI (fun i=>dotI (rowN t i) l) k:=if_neg (fun q=>by
      rcases q with q|q
      · omega
      · have q:dotI (rowN t k) l<lsI (fun i=>dotI (rowN t i) l) k:=q
        omega)
    refine zai.mk ?_
    refine Exists.intro (k+1) ?_
    refine And.intro (Leaf.mk ?_) ?_
    · repeat' first|exact True.intro|refine And.intro ?_ ?_
      all_goals try ((change _=_<;>try dsimp only)<;>try with_reducible rfl)
      all_goals try omega
      all_goals (first|rfl|exact e6.symm)
    refine⟨⟨(show k+1≤t.length by omega),fun i hi=>?_⟩,(show t.length - (k+1)<t.length - k by omega)⟩
    by_cases e:i=k
    · subst e;exact h5
    · exact hk.2 i (by omega)
  · rename_i h1 h2 h3 k hk hlt j hj hjl h5 h6
    have hO:=zdE h1 h2 h3
    have e2:=(zb0 hO).2.1
    have e3:=hg.rows k (by omega)
    have e4:sm (fun i=>vI (rowN t k) i*vI l i) j=dotI (rowN t k) l:=by unfold dotI;rw[e3,show j=ncol t by omega]
    rw[e4] at h5
    have e6:lsI (fun i=>dotI (rowN t i) l) (k+1)=dotI (rowN t k) l:=if_pos (.inl (by omega))
    have e5:sm (fun i=>vI (rowN t k) i*vI l i) j=lsI (fun i=>dotI (rowN t i) l) (k+1):=e4.trans e6.symm
    refine zai.mk ?_
    refine Exists.intro (k+1) ?_
    refine And.intro (Leaf.mk ?_) ?_
    · repeat' first|exact True.intro|refine And.intro ?_ ?_
      all_goals try ((change _=_<;>try dsimp only)<;>try with_reducible rfl)
      all_goals try omega
      all_goals (first|rfl|exact e5)
    refine⟨⟨(show k+1≤t.length by omega),fun i hi=>?_⟩,(show t.length - (k+1)<t.length - k by omega)⟩
    by_cases e:i=k
    · subst e;exact h5
    · exact hk.2 i (by omega)
  · rename_i h1 h2 h3 k hk hge
    have hO:=zdE h1 h2 h3
    rw[show k=(t.length - 1)+1 by omega,zwo (l:=gets t l t.length) (f:=fun i=>dotI (rowN t i) l) (k:=t.length - 1) fun i hi=>zbt (by omega)]
    have q:=za0 (xs:=gets t l t.length) (A:=0) (B:=300000000000000) (k:=t.length - 1) fun i hi=>by
      rw[zbt (by omega)];exact (zfA hg hO (by omega)).1
    exact⟨by omega,by omega,by omega⟩
  · rename_i h1 h2 h3 k hk hge
    have hO:=zdE h1 h2 h3
    have e:=zwo (l:=gets t l t.length) (f:=fun i=>dotI (rowN t i) l) (k:=t.length - 1) fun i hi=>zbt (by omega)
    rw[show t.length - 1+1=k by omega] at e
    have h5:¬cap*d<mx (gets t l t.length) (t.length - 1):=Int.not_lt.2 (zmy.2 fun i hi=>by
      rw[zbt (by omega)];exact hk.2 i (by omega))
    rw[zt3 hO h5,e];exact⟨⟨rfl,rfl⟩,rfl⟩
end Go.Eng.Ar
namespace Go.Eng.Ar
open Go.Eng Go.Proofs
set_option linter.all false
set_option maxRecDepth 100000
set_option maxHeartbeats 8000000
theorem zii (f g:Nat→Int):∀n,sm (fun i=>f i+g i) n=sm f n+sm g n
  | 0=>rfl
  | n+1=>by simp only[sm,zii f g n];omega
theorem zhm (c:Int) (f:Nat→Int):∀n,sm (fun i=>c*f i) n=c*sm f n
  | 0=>by simp[sm]
  | n+1=>by simp only[sm,zhm c f n];rw[Int.mul_add]
theorem zbD (c:Int) (f:Nat→Int) (n:Nat):sm (fun i=>f i*c) n=sm f n*c:=by
  rw[zap n (g:=fun i=>c*f i) (fun i _=>Int.mul_comm _ _),zhm,Int.mul_comm]
theorem zcp:∀n,sm (fun _=>0) n=0
  | 0=>rfl
  | n+1=>by simp only[sm,zcp n];rfl
theorem zgJ (f:Nat→Nat→Int) (m:Nat):∀n,sm (fun i=>sm (fun j=>f i j) m) n=sm (fun j=>sm (fun i=>f i j) n) m
  | 0=>by simp only[sm];exact (zcp m).symm
  | n+1=>by simp only[sm];rw[zgJ f m n,zii]
theorem zd0 {f g:Nat→Int}:∀n,(∀i,i<n→f i≤g i)→sm f n≤sm g n
  | 0,_=>Int.le_refl _
  | n+1,h=>by
    have h1:=zd0 n fun i hi=>h i (by omega)
    have h2:=h n (by omega)
    simp only[sm];omega
def colW (t:List (List Int)) (lo hi:List Int) (j i:Nat):Int:=sm (fun i=>(vI lo i - vI hi i)*vI (rowN t i) j) i
def okW (t:List (List Int)) (lo hi cs:List Int):Nat→Bool
  | 0=>true
  | j+1=>okW t lo hi cs j&&decide (colW t lo hi j t.length≤vI cs j)
theorem zj1 {t:List (List Int)} {lo hi cs:List Int} {k:Nat} (h:vI cs k<colW t lo hi k t.length):∀n,k<n→okW t lo hi cs n=false
  | 0,hk=>absurd hk (Nat.not_lt_zero _)
  | n+1,hk=>by
    simp only[okW]
    by_cases e:k=n
    · subst e;rw[decide_eq_false (by omega),Bool.and_false]
    · rw[zj1 h n (by omega),Bool.false_and]
theorem ziE {t:List (List Int)} {lo hi cs:List Int}:∀ {n:Nat},okW t lo hi cs n=true→∀k,k<n→colW t lo hi k t.length≤vI cs k
  | n+1,h,k,hk=>by
    simp only[okW,Bool.and_eq_true] at h
    by_cases e:k=n
    · subst e;exact of_decide_eq_true h.2
    · exact ziE h.1 k (by omega)
def wtE0 (m n:Nat) (d:Int) (lo hi cs:List Int):Int:=if 1≤d∧d≤1000000000000 then (if lo.length=m∧hi.length=m∧cs.length=n then (if allE lo 1000000000000=0 then (if allE hi 1000000000000=0 then allE cs 1000000000000 else 2) else 2) else 10) else 2
def wtE (t:List (List Int)) (d:Int) (lo hi cs:List Int):Int:=if wtE0 t.length (ncol t) d lo hi cs=0 then (if sumI lo=d then (if okW t lo hi cs (ncol t)=true then 0 else 20) else 20) else wtE0 t.length (ncol t) d lo hi cs
def wtV (cap d:Int) (hi cs:List Int):zaD.Den:=lowP (sumI hi*cap+sumI cs) d
def wtR (t:List (List Int)) (cap d:Int) (lo hi cs:List Int):zaD.Den×Int×Unit:=if wtE t d lo hi cs=0 then (wtV cap d hi cs,0,()) else ((0,0,()),wtE t d lo hi cs,())
def wtRA (t:List (List Int)) (cap d:Int) (lo hi cs:List Int):zaD.Den×Int×Unit:=if chkT t cap=0 then wtR t cap d lo hi cs else ((0,0,()),chkT t cap,())
abbrev pW3 (a b c:Nat):Prop:=pLen a∧pLen b∧pLen c
@[reducible] def zgL:Spec:={pats:=[.dat zeq,.dat zc2],res:=[{t:=zaD},{t:=I64}],pre:=fun x=>pW3 (List.length (α:=Int) x.2.1.2.1) (List.length (α:=Int) x.2.1.2.2.1) (List.length (α:=Int) x.2.1.2.2.2.1),f:=fun x=>wtRA x.1.1 x.1.2.1 x.2.1.1 x.2.1.2.1 x.2.1.2.2.1 x.2.1.2.2.2.1}
@[reducible] def zhQ:Spec:={zgL with pre:=fun x=>goodT x.1.1 x.1.2.1∧pW3 (List.length (α:=Int) x.2.1.2.1) (List.length (α:=Int) x.2.1.2.2.1) (List.length (α:=Int) x.2.1.2.2.2.1),f:=fun x=>wtR x.1.1 x.1.2.1 x.2.1.1 x.2.1.2.1 x.2.1.2.2.1 x.2.1.2.2.2.1}
theorem zay {m n:Nat} {d:Int} {lo hi cs:List Int} (h:wtE0 m n d lo hi cs=0):(1≤d∧d≤1000000000000)∧(lo.length=m∧hi.length=m∧cs.length=n)∧(∀i,i<m→0≤vI lo i∧vI lo i≤1000000000000)∧(∀i,i<m→0≤vI hi i∧vI hi i≤1000000000000)∧∀i,i<n→0≤vI cs i∧vI cs i≤1000000000000:=by
  unfold wtE0 at h
  split at h
  · rename_i h1
    split at h
    · rename_i h2
      split at h
      · rename_i h3
        split at h
        · rename_i h4
          exact⟨h1,h2,fun i hi=>zep h3 i (by omega),fun i hi=>zep h4 i (by omega),fun i hi=>zep h i (by omega)⟩
        · cases h
      · cases h
    · cases h
  · cases h
theorem znp {t:List (List Int)} {d:Int} {lo hi cs:List Int} (h:wtE t d lo hi cs=0):wtE0 t.length (ncol t) d lo hi cs=0∧sumI lo=d∧okW t lo hi cs (ncol t)=true:=by
  unfold wtE at h
  split at h
  · rename_i h1
    split at h
    · rename_i h2
      split at h
      · rename_i h3;exact⟨h1,h2,h3⟩
      · cases h
    · cases h
  · rename_i h1;exact absurd h h1
theorem zfT {t:List (List Int)} {cap d:Int} {lo hi cs:List Int} (hg:goodT t cap) (h:wtE0 t.length (ncol t) d lo hi cs=0) {j i:Nat} (hj:j<ncol t) (hi':i≤t.length):(-400000000000000≤colW t lo hi j i∧colW t lo hi j i≤400000000000000)∧(∀i,i<t.length→-100000000000000≤(vI lo i - vI hi i)*vI (rowN t i) j∧(vI lo i - vI hi i)*vI (rowN t i) j≤100000000000000):=by
  obtain⟨_,_,h1,h2,_⟩:=zay h
  have hb:∀i,i<t.length→-100000000000000≤(vI lo i - vI hi i)*vI (rowN t i) j∧(vI lo i - vI hi i)*vI (rowN t i) j≤100000000000000:=fun i hi=>by
    have q1:=zb1 (h1 i hi) (hg.vals i j hi hj)
    have q2:=zb1 (h2 i hi) (hg.vals i j hi hj)
    rw[Int.sub_mul]
    omega
  refine⟨?_,hb⟩
  have:=zjv (f:=fun i=>(vI lo i - vI hi i)*vI (rowN t i) j) (B:=100000000000000) i fun k hk=>hb k (by omega)
  have hl:=hg.le
  unfold colW
  omega
theorem zfE {l:List Int} {n:Nat} (hl:l.length=n) (hn:n≤4) (h:∀i,i<n→0≤vI l i∧vI l i≤1000000000000):(0≤sumI l∧sumI l≤4000000000000)∧pSum l:=by
  have:=zeI (f:=fun i=>vI l i) (B:=1000000000000) n fun i hi=>h i hi
  refine⟨?_,by omega,fun i hi=>?_⟩
  · unfold sumI;rw[hl];omega
  · have:=h i (by omega);omega
theorem zfC {t:List (List Int)} {cap d:Int} {lo hi cs:List Int} (hg:goodT t cap) (h:wtE0 t.length (ncol t) d lo hi cs=0):(0≤sumI hi*cap∧sumI hi*cap≤4000000000000000)∧(0≤sumI cs∧sumI cs≤4000000000000)∧(pSum lo∧pSum hi∧pSum cs)∧0≤sumI lo∧sumI lo≤4000000000000:=by
  obtain⟨_,⟨l1,l2,l3⟩,h1,h2,h3⟩:=zay h
  have q0:=zfE l1 hg.le h1
  have q1:=zfE l2 hg.le h2
  have q2:=zfE l3 (by have:=hg.cle;omega) h3
  have q3:=zb1 q1.1 hg.cap0
  exact⟨by omega,q2.1,⟨q0.2,q1.2,q2.2⟩,q0.1⟩
theorem wt_a {m n:Nat} {d:Int} {lo hi cs:List Int} (a:(lo.length:Int)=(m:Int)) (b:(hi.length:Int)=(m:Int)):za8 [bif zal d 1 1000000000000 then 0 else 2,bif decide ((cs.length:Int)=(n:Int)) then 0 else 10,allE lo 1000000000000,allE hi 1000000000000,allE cs 1000000000000]=wtE0 m n d lo hi cs:=by
  simp only[za8,wtE0]
  by_cases h1:1≤d∧d≤1000000000000
  · rw [if_pos h1,show zal d 1 1000000000000=true from decide_eq_true h1]
    show (if (0:Int)=0 then _ else _)=_
    rw[if_pos rfl]
    by_cases c:cs.length=n
    · rw [if_pos (show lo.length=m∧hi.length=m∧cs.length=n from ⟨by omega,by omega,c⟩),decide_eq_true (show (cs.length:Int)=(n:Int) by omega)]
      show (if (0:Int)=0 then _ else _)=_
      rw[if_pos rfl]
      have e1:=zfm (l:=lo) (m:=1000000000000)
      have e2:=zfm (l:=hi) (m:=1000000000000)
      by_cases h3:allE lo 1000000000000=0
      · rw [if_pos h3,if_pos h3]
        by_cases h4:allE hi 1000000000000=0
        · rw[if_pos h4,if_pos h4]
          split
          · rename_i h;exact h.symm
          · rfl
        · rw[if_neg h4,if_neg h4]
          rcases e2 with e|e
          · exact absurd e h4
          · exact e
      · rw[if_neg h3,if_neg h3]
        rcases e1 with e|e
        · exact absurd e h3
        · exact e
    · rw[if_neg (fun h:lo.length=m∧hi.length=m∧cs.length=n=>c h.2.2),decide_eq_false (show ¬(cs.length:Int)=(n:Int) by omega)];rfl
  · rw[if_neg h1,show zal d 1 1000000000000=false from decide_eq_false h1];rfl
theorem wt_b {m n:Nat} {d x y z:Int} {lo hi cs:List Int} (a:¬((lo.length:Int)=(m:Int)∧(hi.length:Int)=(m:Int))):za8 [bif zal d 1 1000000000000 then 0 else 2,bif false then 0 else 10,x,y,z]=wtE0 m n d lo hi cs:=by
  simp only[za8,wtE0]
  by_cases h1:1≤d∧d≤1000000000000
  · rw[if_pos h1,show zal d 1 1000000000000=true from decide_eq_true h1,if_neg (fun h:lo.length=m∧hi.length=m∧cs.length=n=>a ⟨by omega,by omega⟩)];rfl
  · rw[if_neg h1,show zal d 1 1000000000000=false from decide_eq_false h1];rfl
theorem zwJ {x:Int} {r:List Int}:¬za8 (x::(bif false then 0 else 10)::r)=0:=by
  simp only[za8]
  split
  · exact fun h=>by cases h
  · assumption
theorem zez {t:List (List Int)} {cap d:Int} {lo hi cs:List Int} (h:¬wtE0 t.length (ncol t) d lo hi cs=0):wtR t cap d lo hi cs=((0,0,()),wtE0 t.length (ncol t) d lo hi cs,()):=by
  have e:wtE t d lo hi cs=wtE0 t.length (ncol t) d lo hi cs:=if_neg h
  unfold wtR;rw[e,if_neg h]
theorem zno {t:List (List Int)} {cap d:Int} {lo hi cs:List Int} (h:wtE0 t.length (ncol t) d lo hi cs=0) (h2:¬(sumI lo=d∧okW t lo hi cs (ncol t)=true)):wtR t cap d lo hi cs=((0,0,()),20,()):=by
  have e:wtE t d lo hi cs=20:=by
    unfold wtE;rw[if_pos h]
    by_cases e1:sumI lo=d
    · rw[if_pos e1,if_neg fun e2=>h2 ⟨e1,e2⟩]
    · rw[if_neg e1]
  unfold wtR;rw[e];rfl
theorem zts {t:List (List Int)} {cap d:Int} {lo hi cs:List Int} (h:wtE0 t.length (ncol t) d lo hi cs=0) (h2:sumI lo=d) (h3:okW t lo hi cs (ncol t)=true):wtR t cap d lo hi cs=(wtV cap d hi cs,0,()):=by
  have e:wtE t d lo hi cs=0:=by unfold wtE;rw[if_pos h,if_pos h2,if_pos h3]
  unfold wtR;rw[e];rfl
def cwA1 (t:List (List Int)) (lo hi cs:List Int):LoopAnn:={σ:=Nat,pat:=fun k=>[sI 78 k],inv:=fun k=>k≤cs.length∧okW t lo hi cs k=true,meas:=fun k=>cs.length - k}
def cwA2 (t:List (List Int)) (lo hi:List Int) (st:St):LoopAnn:=zju 78 st fun j=>{σ:=Nat,pat:=fun i=>[sI 86 i,sI 11 (colW t lo hi j.toNat i)],inv:=fun i=>i≤t.length,meas:=fun i=>t.length - i}
theorem h64:Ok 64 zgL:=by
  refine mk (ctr:=[(65,zkO),(73,zeJ),(85,zb7),(88,zbi),(104,zrh),(107,sLow),(124,sSum)]) ⟨h65,h73,h85,h88,h104,h107,h124,trivial⟩ (nt:=128) Tryz.func64 rfl rfl rfl rfl (by kernel_rfl) (by kernel_rfl) (fun x=>[fun _=>cwA1 x.1.1 x.2.1.2.1 x.2.1.2.2.1 x.2.1.2.2.2.1,cwA2 x.1.1 x.2.1.2.1 x.2.1.2.2.1]) ?_
  rintro⟨⟨(t:List (List Int)),(cap:Int),⟨⟩⟩,⟨(d:Int),(lo:List Int),(hi:List Int),(cs:List Int),⟨⟩⟩,⟨⟩⟩ ⟨(hp1:pLen lo.length),(hp2:pLen hi.length),(hp3:pLen cs.length)⟩
  repeat' (intro hzz;(try (rename Two=>hq;cases hq));(try dsimp only at hzz);(try simp only[zad,zac,eqD,inR,big,zab,zB] at hzz);(try simp only[zad,zac,eqD,inR,big,zab,zB,za7,zbB,zaz,Int.toNat_natCast] at hzz);(try (exact absurd (by assumption:za8 [bif zal d 1 1000000000000 then 0 else 2,bif false then 0 else 10,allE lo 1000000000000,allE hi 1000000000000,allE cs 1000000000000]=0) zwJ));(try (revert hzz;intro _)))
  all_goals try (rename Unit=>hq;clear hq)
  all_goals try ((with_reducible refine Held.mk ?_);(with_reducible (first|refine Frz.mk ?_|refine And.intro (Frz.mk ?_) ?_|refine And.intro ?_ (Frz.mk ?_)));repeat' first|exact True.intro|(change _=_;with_reducible rfl)|refine And.intro ?_ ?_|(with_reducible refine Frz.mk ?_))
  all_goals try (refine Held.mk ?_;(try dsimp only at *);(try simp only[zad,zac,eqD,inR,big,zab,zB] at *);(try simp only[zad,zac,eqD,inR,big,zab,zB,za7,zbB,zaz,Int.toNat_natCast] at *))
  all_goals try omega
  all_goals try (have hg:=zcC (by assumption:chkT t cap=0);have g1:=hg.pos;have g2:=hg.le;have g3:=hg.cap0)
  · rename_i h
    rw[show wtRA t cap d lo hi cs=_ from if_neg h];exact⟨⟨rfl,rfl⟩,rfl⟩
  all_goals try with_reducible exact hp1
  all_goals try with_reducible exact hp2
  all_goals try with_reducible exact hp3
  all_goals try omega
  all_goals try (show ((5:Nat):Int)≤4611686018427387904;decide)
  all_goals try have hc3:=hg.cle
  · rename_i h0 h1 h2 h
    have e:=wt_a (n:=ncol t) (d:=d) (cs:=cs) h1 h2
    have h3:¬wtE0 t.length (ncol t) d lo hi cs=0:=fun q=>h (e.trans q)
    rw[show wtRA t cap d lo hi cs=_ from if_pos h0,zez h3];exact⟨⟨rfl,rfl⟩,e⟩
  · rename_i h0 h1 h2 h
    have hW:wtE0 t.length (ncol t) d lo hi cs=0:=(wt_a (n:=ncol t) (d:=d) (cs:=cs) h1 h2).symm.trans h
    obtain⟨w1,⟨w2,w3,w4⟩,w5,w6,w7⟩:=zay hW
    exact (zfC hg hW).2.2.1.1
  · rename_i h0 h1 h2 h hs
    have hW:wtE0 t.length (ncol t) d lo hi cs=0:=(wt_a (n:=ncol t) (d:=d) (cs:=cs) h1 h2).symm.trans h
    obtain⟨w1,⟨w2,w3,w4⟩,w5,w6,w7⟩:=zay hW
    rw[show wtRA t cap d lo hi cs=_ from if_pos h0,zno hW (fun q=>hs q.1)];exact⟨⟨rfl,rfl⟩,rfl⟩
  · rename_i h0 h1 h2 h hs
    refine zai.mk ?_
    refine Exists.intro (0:Nat) ?_
    refine And.intro (Leaf.mk ?_) ?_
    · repeat' first|exact True.intro|refine And.intro ?_ ?_
      all_goals try ((change _=_<;>try dsimp only)<;>try with_reducible rfl)
      all_goals try omega
      all_goals (first|rfl|exact (decide_eq_true h2).symm|exact (decide_eq_true h1).symm|exact decide_eq_true h2|exact decide_eq_true h1)
    exact⟨Nat.zero_le _,rfl⟩
  · rename_i h0 h1 h2 h hs k hk hlt
    refine zai.mk ?_
    refine Exists.intro (0:Nat) ?_
    refine And.intro (Leaf.mk ?_) ?_
    · repeat' first|exact True.intro|refine And.intro ?_ ?_
      all_goals try ((change _=_<;>try dsimp only)<;>try with_reducible rfl)
      all_goals try omega
      all_goals (first|rfl|exact (decide_eq_true h2).symm|exact (decide_eq_true h1).symm|exact decide_eq_true h2|exact decide_eq_true h1)
    exact Nat.zero_le _
  · rename_i h0 h1 h2 h hs k hk hlt i hi' hit
    have hW:wtE0 t.length (ncol t) d lo hi cs=0:=(wt_a (n:=ncol t) (d:=d) (cs:=cs) h1 h2).symm.trans h
    obtain⟨w1,⟨w2,w3,w4⟩,w5,w6,w7⟩:=zay hW
    have q1:=w5 i (by omega)
    have q2:=w6 i (by omega)
    show -9223372036854775808≤vI lo i - vI hi i∧vI lo i - vI hi i≤9223372036854775807
    omega
  · rename_i h0 h1 h2 h hs k hk hlt i hi' hit
    have hW:wtE0 t.length (ncol t) d lo hi cs=0:=(wt_a (n:=ncol t) (d:=d) (cs:=cs) h1 h2).symm.trans h
    obtain⟨w1,⟨w2,w3,w4⟩,w5,w6,w7⟩:=zay hW
    have e:(rowN t i).length=ncol t:=hg.rows i (by omega)
    show 0≤(k:Int)∧(k:Int)<((rowN t i).length:Int)
    omega
  · rename_i h0 h1 h2 h hs k hk hlt i hi' hit
    have hW:wtE0 t.length (ncol t) d lo hi cs=0:=(wt_a (n:=ncol t) (d:=d) (cs:=cs) h1 h2).symm.trans h
    obtain⟨w1,⟨w2,w3,w4⟩,w5,w6,w7⟩:=zay hW
    have q:=(zfT hg hW (j:=k) (i:=0) (by omega) (by omega)).2 i (by omega)
    exact⟨Int.le_trans (by decide) q.1,Int.le_trans q.2 (by decide)⟩
  · rename_i h0 h1 h2 h hs k hk hlt i hi' hit
    have hW:wtE0 t.length (ncol t) d lo hi cs=0:=(wt_a (n:=ncol t) (d:=d) (cs:=cs) h1 h2).symm.trans h
    obtain⟨w1,⟨w2,w3,w4⟩,w5,w6,w7⟩:=zay hW
    have q:=(zfT hg hW (j:=k) (i:=i+1) (by omega) (by omega)).1
    exact⟨Int.le_trans (by decide) q.1,Int.le_trans q.2 (by decide)⟩
  · rename_i h0 h1 h2 h hs k hk hlt i hi' hit
    refine zai.mk ?_
    refine Exists.intro (i+1) ?_
    refine And.intro (Leaf.mk ?_) ?_
    · repeat' first|exact True.intro|refine And.intro ?_ ?_
      all_goals try ((change _=_<;>try dsimp only)<;>try with_reducible rfl)
      all_goals try omega
      all_goals (first|rfl|exact (decide_eq_true h2).symm|exact (decide_eq_true h1).symm|exact decide_eq_true h2|exact decide_eq_true h1)
    exact⟨(show i+1≤t.length by omega),(show t.length - (i+1)<t.length - i by omega)⟩
  · rename_i h0 h1 h2 h hs k hk hlt i hi' hit hm
    have hW:wtE0 t.length (ncol t) d lo hi cs=0:=(wt_a (n:=ncol t) (d:=d) (cs:=cs) h1 h2).symm.trans h
    obtain⟨w1,⟨w2,w3,w4⟩,w5,w6,w7⟩:=zay hW
    rw[show i=t.length by omega] at hm
    have hno:okW t lo hi cs (ncol t)=false:=zj1 (k:=k) hm _ (by omega)
    rw[show wtRA t cap d lo hi cs=_ from if_pos h0,zno hW (fun q=>by rw[hno] at q;cases q.2)];exact⟨⟨rfl,rfl⟩,rfl⟩
  · rename_i h0 h1 h2 h hs k hk hlt i hi' hit hm
    have hW:wtE0 t.length (ncol t) d lo hi cs=0:=(wt_a (n:=ncol t) (d:=d) (cs:=cs) h1 h2).symm.trans h
    obtain⟨w1,⟨w2,w3,w4⟩,w5,w6,w7⟩:=zay hW
    omega
  · rename_i h0 h1 h2 h hs k hk hlt i hi' hit hm
    rw[show i=t.length by omega] at hm
    have hm:colW t lo hi k t.length≤vI cs k:=hm
    refine zai.mk ?_
    refine Exists.intro (k+1) ?_
    refine And.intro (Leaf.mk ?_) ?_
    · repeat' first|exact True.intro|refine And.intro ?_ ?_
      all_goals try ((change _=_<;>try dsimp only)<;>try with_reducible rfl)
      all_goals try omega
      all_goals (first|rfl|exact (decide_eq_true h2).symm|exact (decide_eq_true h1).symm|exact decide_eq_true h2|exact decide_eq_true h1)
    exact⟨⟨(show k+1≤cs.length by omega),(show (okW t lo hi cs k&&decide (colW t lo hi k t.length≤vI cs k))=true by rw[hk.2,decide_eq_true hm];rfl)⟩,(show cs.length - (k+1)<cs.length - k by omega)⟩
  · rename_i h0 h1 h2 h hs k hk hlt
    have hW:wtE0 t.length (ncol t) d lo hi cs=0:=(wt_a (n:=ncol t) (d:=d) (cs:=cs) h1 h2).symm.trans h
    obtain⟨w1,⟨w2,w3,w4⟩,w5,w6,w7⟩:=zay hW
    exact (zfC hg hW).2.2.1.2.1
  · rename_i h0 h1 h2 h hs k hk hlt
    have hW:wtE0 t.length (ncol t) d lo hi cs=0:=(wt_a (n:=ncol t) (d:=d) (cs:=cs) h1 h2).symm.trans h
    obtain⟨w1,⟨w2,w3,w4⟩,w5,w6,w7⟩:=zay hW
    have:=(zfC hg hW).1
    omega
  · rename_i h0 h1 h2 h hs k hk hlt
    have hW:wtE0 t.length (ncol t) d lo hi cs=0:=(wt_a (n:=ncol t) (d:=d) (cs:=cs) h1 h2).symm.trans h
    obtain⟨w1,⟨w2,w3,w4⟩,w5,w6,w7⟩:=zay hW
    exact (zfC hg hW).2.2.1.2.2
  · rename_i h0 h1 h2 h hs k hk hlt
    have hW:wtE0 t.length (ncol t) d lo hi cs=0:=(wt_a (n:=ncol t) (d:=d) (cs:=cs) h1 h2).symm.trans h
    obtain⟨w1,⟨w2,w3,w4⟩,w5,w6,w7⟩:=zay hW
    have:=zfC hg hW
    omega
  · rename_i h0 h1 h2 h hs k hk hlt
    have hW:wtE0 t.length (ncol t) d lo hi cs=0:=(wt_a (n:=ncol t) (d:=d) (cs:=cs) h1 h2).symm.trans h
    obtain⟨w1,⟨w2,w3,w4⟩,w5,w6,w7⟩:=zay hW
    have:=zfC hg hW
    exact⟨by omega,by omega,by omega⟩
  · rename_i h0 h1 h2 h hs k hk hlt
    have hW:wtE0 t.length (ncol t) d lo hi cs=0:=(wt_a (n:=ncol t) (d:=d) (cs:=cs) h1 h2).symm.trans h
    obtain⟨w1,⟨w2,w3,w4⟩,w5,w6,w7⟩:=zay hW
    have e:=hk.2
    rw[show k=ncol t by omega] at e
    rw[show wtRA t cap d lo hi cs=_ from if_pos h0,zts hW hs e];exact⟨⟨rfl,rfl⟩,rfl⟩
  · rename_i h0 h1 h2 h
    have e:=wt_b (m:=t.length) (n:=ncol t) (d:=d) (lo:=lo) (hi:=hi) (cs:=cs) (x:=allE lo 1000000000000) (y:=allE hi 1000000000000) (z:=allE cs 1000000000000) (fun q=>h2 q.2)
    have h3:¬wtE0 t.length (ncol t) d lo hi cs=0:=fun q=>h (e.trans q)
    rw[show wtRA t cap d lo hi cs=_ from if_pos h0,zez h3];exact⟨⟨rfl,rfl⟩,e⟩
  · rename_i h0 h1 h
    have e:=wt_b (m:=t.length) (n:=ncol t) (d:=d) (lo:=lo) (hi:=hi) (cs:=cs) (x:=allE lo 1000000000000) (y:=allE hi 1000000000000) (z:=allE cs 1000000000000) (fun q=>h1 q.1)
    have h3:¬wtE0 t.length (ncol t) d lo hi cs=0:=fun q=>h (e.trans q)
    rw[show wtRA t cap d lo hi cs=_ from if_pos h0,zez h3];exact⟨⟨rfl,rfl⟩,e⟩
end Go.Eng.Ar
namespace Go.Eng.Ar
open Go.Eng Go.Proofs
set_option linter.all false
set_option maxRecDepth 100000
set_option maxHeartbeats 8000000
theorem wt_c {m n:Nat} {d:Int} {lo hi cs:List Int} (h1:1≤d∧d≤1000000000000) (h2:(lo.length:Int)=(m:Int)) (h3:(hi.length:Int)=(m:Int)) (h4:(cs.length:Int)=(n:Int)) (w1:zfn lo 1000000000000=true) (w2:zfn hi 1000000000000=true) (w3:zfn cs 1000000000000=true):wtE0 m n d lo hi cs=0:=
  (if_pos h1).trans ((if_pos ⟨Int.ofNat_inj.1 h2,Int.ofNat_inj.1 h3,Int.ofNat_inj.1 h4⟩).trans ((if_pos (of_decide_eq_true w1)).trans ((if_pos (of_decide_eq_true w2)).trans (of_decide_eq_true w3))))
theorem al_2 {l:List Int} {m:Int} (h:zfn l m=false):allE l m=2:=by
  rcases zfm (l:=l) (m:=m) with e|e
  · exact absurd e (of_decide_eq_false h)
  · exact e
theorem zic {l:List Int} {n:Nat} (hl:l.length=n) (hn:n≤4) (h:∀i,i<n→0≤vI l i∧vI l i≤1000000000000):∀k,k≤n→0≤sm (fun i=>vI l i) k∧sm (fun i=>vI l i) k≤4000000000000:=fun k hk=>by
  have:=zeI (f:=fun i=>vI l i) (B:=1000000000000) k fun i hi=>h i (by omega)
  omega
theorem zib {l:List Int} {cap:Int} (hc:0≤cap∧cap≤1000) (hn:l.length≤4) (h:∀i,i<l.length→0≤vI l i∧vI l i≤1000000000000):∀k,k≤l.length→0≤sm (fun i=>vI l i*cap) k∧sm (fun i=>vI l i*cap) k≤4000000000000000:=fun k hk=>by
  have:=zeI (f:=fun i=>vI l i*cap) (B:=1000000000000000) k fun i hi=>by
    have:=zb1 (h i (by omega)) hc
    omega
  omega
theorem zlN {hi cs:List Int} {cap:Int}:sm (fun i=>vI hi i*cap) hi.length+sm (fun i=>vI cs i) cs.length=sumI hi*cap+sumI cs:=by
  rw[zbD];rfl
theorem ndec {p:Prop} [Decidable p] (h:p):false = !decide p:=by rw[decide_eq_true h];rfl
def rwA1 (cap:Int) (lo hi:List Int):LoopAnn:={σ:=Nat,pat:=fun k=>[sI 8 k,sI 6 (sm (fun i=>vI lo i) k),sI 7 (sm (fun i=>vI hi i*cap) k)],inv:=fun k=>k≤lo.length,meas:=fun k=>lo.length - k}
def rwA2 (t:List (List Int)) (cap:Int) (lo hi cs:List Int):LoopAnn:={σ:=Nat,pat:=fun k=>[sI 9 k,sI 7 (sm (fun i=>vI hi i*cap) hi.length+sm (fun i=>vI cs i) k)],inv:=fun k=>k≤cs.length∧okW t lo hi cs k=true,meas:=fun k=>cs.length - k}
def rwA3 (t:List (List Int)) (lo hi:List Int) (st:St):LoopAnn:=zju 9 st fun j=>{σ:=Nat,pat:=fun i=>[sI 11 i,sI 10 (colW t lo hi j.toNat i)],inv:=fun i=>i≤lo.length,meas:=fun i=>lo.length - i}
theorem h53:Ok 53 zhQ:=by
  refine mk (ctr:=[(29,zbi),(115,sWi),(116,zjw)]) ⟨h29,h115,h116,trivial⟩ (nt:=146) Tryz.func53 rfl rfl rfl rfl (by kernel_rfl) (by kernel_rfl) (fun x=>[fun _=>rwA1 x.1.2.1 x.2.1.2.1 x.2.1.2.2.1,fun _=>rwA2 x.1.1 x.1.2.1 x.2.1.2.1 x.2.1.2.2.1 x.2.1.2.2.2.1,rwA3 x.1.1 x.2.1.2.1 x.2.1.2.2.1]) ?_
  rintro⟨⟨(t:List (List Int)),(cap:Int),⟨⟩⟩,⟨(d:Int),(lo:List Int),(hi:List Int),(cs:List Int),⟨⟩⟩,⟨⟩⟩ ⟨(hg:goodT t cap),(hp1:pLen lo.length),(hp2:pLen hi.length),(hp3:pLen cs.length)⟩
  have g1:=hg.pos
  have g2:=hg.le
  have g3:=hg.cap0
  have hc3:=hg.cle
  repeat' (intro hzz;(try (rename Two=>hq;cases hq));(try dsimp only at hzz);(try simp only[zad,zac,eqD,inR,big,zab,zB] at hzz);(try simp only[zad,zac,eqD,inR,big,zab,zB,za7,zbB,zaz,Int.toNat_natCast,zal] at hzz);(try (revert hzz;intro _)))
  all_goals try (rename Unit=>hq;clear hq)
  all_goals try ((with_reducible refine Held.mk ?_);(with_reducible (first|refine Frz.mk ?_|refine And.intro (Frz.mk ?_) ?_|refine And.intro ?_ (Frz.mk ?_)));repeat' first|exact True.intro|(change _=_;with_reducible rfl)|refine And.intro ?_ ?_|(with_reducible refine Frz.mk ?_))
  all_goals try (refine Held.mk ?_;(try dsimp only at *);(try simp only[zad,zac,eqD,inR,big,zab,zB] at *);(try simp only[zad,zac,eqD,inR,big,zab,zB,za7,zbB,zaz,Int.toNat_natCast,zal] at *))
  all_goals try with_reducible exact hp1
  all_goals try with_reducible exact hp2
  all_goals try with_reducible exact hp3
  all_goals try omega
  · rename_i h1
    have e:wtE0 t.length (ncol t) d lo hi cs=2:=if_neg h1
    rw[zez (by rw[e];decide),e];exact⟨⟨rfl,rfl⟩,rfl⟩
  · rename_i h1 h2 h3 h4
    have e:wtE0 t.length (ncol t) d lo hi cs=10:=(if_pos h1).trans (if_neg fun q=>h4 (congrArg Int.ofNat q.2.2))
    rw[zez (by rw[e];decide),e];exact⟨⟨rfl,rfl⟩,rfl⟩
  · rename_i h1 h2 h3 h4 w1 w2 w3
    have e:wtE0 t.length (ncol t) d lo hi cs=2:=(if_pos h1).trans ((if_pos ⟨Int.ofNat_inj.1 h2,Int.ofNat_inj.1 h3,Int.ofNat_inj.1 h4⟩).trans ((if_pos (of_decide_eq_true w1)).trans ((if_pos (of_decide_eq_true w2)).trans (al_2 w3))))
    rw[zez (by rw[e];decide),e];exact⟨⟨rfl,rfl⟩,rfl⟩
  · rename_i h1 h2 h3 h4 w1 w2 w3
    refine zai.mk ?_
    refine Exists.intro (0:Nat) ?_
    refine And.intro (Leaf.mk ?_) ?_
    · repeat' first|exact True.intro|refine And.intro ?_ ?_
      all_goals try ((change _=_<;>try dsimp only)<;>try with_reducible rfl)
      all_goals try omega
      all_goals (first|rfl|exact ndec h2|exact ndec h3)
    exact Nat.zero_le _
  · rename_i h1 h2 h3 h4 w1 w2 w3 k hk hlt
    have hW:=wt_c (n:=ncol t) h1 h2 h3 h4 w1 w2 w3
    obtain⟨v1,⟨v2,v3,v4⟩,v5,v6,v7⟩:=zay hW
    have q:=(zic v2 (by omega) v5) (k+1) (by omega)
    exact⟨Int.le_trans (by decide) q.1,Int.le_trans q.2 (by decide)⟩
  · rename_i h1 h2 h3 h4 w1 w2 w3 k hk hlt
    have hW:=wt_c (n:=ncol t) h1 h2 h3 h4 w1 w2 w3
    obtain⟨v1,⟨v2,v3,v4⟩,v5,v6,v7⟩:=zay hW
    have q:=zb1 (v6 k (by omega)) g3
    exact⟨Int.le_trans (by decide) q.1,Int.le_trans q.2 (by decide)⟩
  · rename_i h1 h2 h3 h4 w1 w2 w3 k hk hlt
    have hW:=wt_c (n:=ncol t) h1 h2 h3 h4 w1 w2 w3
    obtain⟨v1,⟨v2,v3,v4⟩,v5,v6,v7⟩:=zay hW
    have q:=zib (cap:=cap) g3 (show hi.length≤4 by omega) (by rw[v3];exact v6) (k+1) (by omega)
    exact⟨Int.le_trans (by decide) q.1,Int.le_trans q.2 (by decide)⟩
  · rename_i h1 h2 h3 h4 w1 w2 w3 k hk hlt
    refine zai.mk ?_
    refine Exists.intro (k+1) ?_
    refine And.intro (Leaf.mk ?_) ?_
    · repeat' first|exact True.intro|refine And.intro ?_ ?_
      all_goals try ((change _=_<;>try dsimp only)<;>try with_reducible rfl)
      all_goals try omega
      all_goals (first|rfl|exact ndec h2|exact ndec h3)
    exact⟨(show k+1≤lo.length by omega),(show lo.length - (k+1)<lo.length - k by omega)⟩
  · rename_i h1 h2 h3 h4 w1 w2 w3 k hk hlt hs
    have hW:=wt_c (n:=ncol t) h1 h2 h3 h4 w1 w2 w3
    obtain⟨v1,⟨v2,v3,v4⟩,v5,v6,v7⟩:=zay hW
    rw[show k=lo.length by omega] at hs
    rw[zno hW (fun q=>hs q.1)];exact⟨⟨rfl,rfl⟩,rfl⟩
  · rename_i h1 h2 h3 h4 w1 w2 w3 k hk hlt hs
    have hW:=wt_c (n:=ncol t) h1 h2 h3 h4 w1 w2 w3
    obtain⟨v1,⟨v2,v3,v4⟩,v5,v6,v7⟩:=zay hW
    have e:sm (fun i=>vI hi i*cap) k=sm (fun i=>vI hi i*cap) hi.length+sm (fun i=>vI cs i) 0:=by rw[show k=hi.length by omega];exact (Int.add_zero _).symm
    refine zai.mk ?_
    refine Exists.intro (0:Nat) ?_
    refine And.intro (Leaf.mk ?_) ?_
    · repeat' first|exact True.intro|refine And.intro ?_ ?_
      all_goals try ((change _=_<;>try dsimp only)<;>try with_reducible rfl)
      all_goals try omega
      all_goals (first|rfl|exact e|exact ndec h2|exact ndec h3)
    exact⟨Nat.zero_le _,rfl⟩
  · rename_i h1 h2 h3 h4 w1 w2 w3 k hk hlt hs q hq hqt
    refine zai.mk ?_
    refine Exists.intro (0:Nat) ?_
    refine And.intro (Leaf.mk ?_) ?_
    · repeat' first|exact True.intro|refine And.intro ?_ ?_
      all_goals try ((change _=_<;>try dsimp only)<;>try with_reducible rfl)
      all_goals try omega
      all_goals (first|rfl|exact ndec h2|exact ndec h3)
    exact Nat.zero_le _
  · rename_i h1 h2 h3 h4 w1 w2 w3 k hk hlt hs q hq hqt i hi' hit
    have hW:=wt_c (n:=ncol t) h1 h2 h3 h4 w1 w2 w3
    obtain⟨v1,⟨v2,v3,v4⟩,v5,v6,v7⟩:=zay hW
    have q1:=v5 i (by omega)
    have q2:=v6 i (by omega)
    show -9223372036854775808≤vI lo i - vI hi i∧vI lo i - vI hi i≤9223372036854775807
    omega
  · rename_i h1 h2 h3 h4 w1 w2 w3 k hk hlt hs q hq hqt i hi' hit
    have hW:=wt_c (n:=ncol t) h1 h2 h3 h4 w1 w2 w3
    obtain⟨v1,⟨v2,v3,v4⟩,v5,v6,v7⟩:=zay hW
    have e:(rowN t i).length=ncol t:=hg.rows i (by omega)
    show 0≤(q:Int)∧(q:Int)<((rowN t i).length:Int)
    omega
  · rename_i h1 h2 h3 h4 w1 w2 w3 k hk hlt hs q hq hqt i hi' hit
    have hW:=wt_c (n:=ncol t) h1 h2 h3 h4 w1 w2 w3
    obtain⟨v1,⟨v2,v3,v4⟩,v5,v6,v7⟩:=zay hW
    have z:=(zfT hg hW (j:=q) (i:=0) (by omega) (by omega)).2 i (by omega)
    exact⟨Int.le_trans (by decide) z.1,Int.le_trans z.2 (by decide)⟩
  · rename_i h1 h2 h3 h4 w1 w2 w3 k hk hlt hs q hq hqt i hi' hit
    have hW:=wt_c (n:=ncol t) h1 h2 h3 h4 w1 w2 w3
    obtain⟨v1,⟨v2,v3,v4⟩,v5,v6,v7⟩:=zay hW
    have z:=(zfT hg hW (j:=q) (i:=i+1) (by omega) (by omega)).1
    exact⟨Int.le_trans (by decide) z.1,Int.le_trans z.2 (by decide)⟩
  · rename_i h1 h2 h3 h4 w1 w2 w3 k hk hlt hs q hq hqt i hi' hit
    refine zai.mk ?_
    refine Exists.intro (i+1) ?_
    refine And.intro (Leaf.mk ?_) ?_
    · repeat' first|exact True.intro|refine And.intro ?_ ?_
      all_goals try ((change _=_<;>try dsimp only)<;>try with_reducible rfl)
      all_goals try omega
      all_goals (first|rfl|exact ndec h2|exact ndec h3)
    exact⟨(show i+1≤lo.length by omega),(show lo.length - (i+1)<lo.length - i by omega)⟩
  · rename_i h1 h2 h3 h4 w1 w2 w3 k hk hlt hs q hq hqt i hi' hit hm
    have hW:=wt_c (n:=ncol t) h1 h2 h3 h4 w1 w2 w3
    obtain⟨v1,⟨v2,v3,v4⟩,v5,v6,v7⟩:=zay hW
    rw[show i=t.length by omega] at hm
    have hno:okW t lo hi cs (ncol t)=false:=zj1 (k:=q) hm _ (by omega)
    rw[zno hW (fun z=>by rw[hno] at z;cases z.2)];exact⟨⟨rfl,rfl⟩,rfl⟩
  · rename_i h1 h2 h3 h4 w1 w2 w3 k hk hlt hs q hq hqt i hi' hit hm
    have hW:=wt_c (n:=ncol t) h1 h2 h3 h4 w1 w2 w3
    obtain⟨v1,⟨v2,v3,v4⟩,v5,v6,v7⟩:=zay hW
    have z:=zib (cap:=cap) g3 (show hi.length≤4 by omega) (by rw[v3];exact v6) hi.length (by omega)
    have z2:=(zic v4 (by omega) v7) (q+1) (by omega)
    have z2:0≤sm (fun i=>vI cs i) q+List.getD cs q (Ty.dflt I64)∧sm (fun i=>vI cs i) q+List.getD cs q (Ty.dflt I64)≤4000000000000:=z2
    rw[Int.add_assoc]
    exact⟨Int.le_trans (by decide) (Int.add_nonneg z.1 z2.1),Int.le_trans (Int.add_le_add z.2 z2.2) (by decide)⟩
  · rename_i h1 h2 h3 h4 w1 w2 w3 k hk hlt hs q hq hqt i hi' hit hm
    have hW:=wt_c (n:=ncol t) h1 h2 h3 h4 w1 w2 w3
    obtain⟨v1,⟨v2,v3,v4⟩,v5,v6,v7⟩:=zay hW
    omega
  · rename_i h1 h2 h3 h4 w1 w2 w3 k hk hlt hs q hq hqt i hi' hit hm
    rw[show i=t.length by omega] at hm
    have hm:colW t lo hi q t.length≤vI cs q:=hm
    have e:sm (fun i=>vI hi i*cap) hi.length+sm (fun i=>vI cs i) q+vI cs q=sm (fun i=>vI hi i*cap) hi.length+sm (fun i=>vI cs i) (q+1):=Int.add_assoc _ _ _
    refine zai.mk ?_
    refine Exists.intro (q+1) ?_
    refine And.intro (Leaf.mk ?_) ?_
    · repeat' first|exact True.intro|refine And.intro ?_ ?_
      all_goals try ((change _=_<;>try dsimp only)<;>try with_reducible rfl)
      all_goals try omega
      all_goals (first|rfl|exact e|exact ndec h2|exact ndec h3)
    exact⟨⟨(show q+1≤cs.length by omega),(show (okW t lo hi cs q&&decide (colW t lo hi q t.length≤vI cs q))=true by rw[hq.2,decide_eq_true hm];rfl)⟩,(show cs.length - (q+1)<cs.length - q by omega)⟩
  · rename_i h1 h2 h3 h4 w1 w2 w3 k hk hlt hs q hq hqt
    have hW:=wt_c (n:=ncol t) h1 h2 h3 h4 w1 w2 w3
    obtain⟨v1,⟨v2,v3,v4⟩,v5,v6,v7⟩:=zay hW
    rw[show q=cs.length by omega,zlN]
    have:=zfC hg hW
    have e:(0:Int)≤sumI hi*cap+sumI cs∧sumI hi*cap+sumI cs≤5000000000000000:=by omega
    exact⟨by omega,by omega,by omega⟩
  · rename_i h1 h2 h3 h4 w1 w2 w3 k hk hlt hs q hq hqt
    have hW:=wt_c (n:=ncol t) h1 h2 h3 h4 w1 w2 w3
    obtain⟨v1,⟨v2,v3,v4⟩,v5,v6,v7⟩:=zay hW
    have e:=hq.2
    rw[show q=ncol t by omega] at e
    rw[show k=lo.length by omega] at hs
    rw[zts hW hs e,show q=cs.length by omega,zlN];exact⟨⟨rfl,rfl⟩,rfl⟩
  · rename_i h1 h2 h3 h4 w1 w2
    have e:wtE0 t.length (ncol t) d lo hi cs=2:=(if_pos h1).trans ((if_pos ⟨Int.ofNat_inj.1 h2,Int.ofNat_inj.1 h3,Int.ofNat_inj.1 h4⟩).trans ((if_pos (of_decide_eq_true w1)).trans (if_neg (of_decide_eq_false w2))))
    rw[zez (by rw[e];decide),e];exact⟨⟨rfl,rfl⟩,rfl⟩
  · rename_i h1 h2 h3 h4 w1
    have e:wtE0 t.length (ncol t) d lo hi cs=2:=(if_pos h1).trans ((if_pos ⟨Int.ofNat_inj.1 h2,Int.ofNat_inj.1 h3,Int.ofNat_inj.1 h4⟩).trans (if_neg (of_decide_eq_false w1)))
    rw[zez (by rw[e];decide),e];exact⟨⟨rfl,rfl⟩,rfl⟩
  · rename_i h1 h2 h3
    have e:wtE0 t.length (ncol t) d lo hi cs=10:=(if_pos h1).trans (if_neg fun q=>h3 (congrArg Int.ofNat q.2.1))
    rw[zez (by rw[e];decide),e];exact⟨⟨rfl,rfl⟩,rfl⟩
  · rename_i h1 h2
    have e:wtE0 t.length (ncol t) d lo hi cs=10:=(if_pos h1).trans (if_neg fun q=>h2 (congrArg Int.ofNat q.1))
    rw[zez (by rw[e];decide),e];exact⟨⟨rfl,rfl⟩,rfl⟩
end Go.Eng.Ar
namespace Go.Eng.Ar
open Go.Eng Go.Proofs
set_option linter.all false
set_option maxRecDepth 100000
set_option maxHeartbeats 8000000
/-! ### Lowest terms -/
def lowA (a b:Int):Int:=Int.tdiv a (gcd2 a b)
def lowC (a b:Int):Int:=Int.tdiv b (gcd2 a b)
theorem zd7 {a b:Int} (hb:0<b):∃g,0<g∧a=lowA a b*g∧b=lowC a b*g∧0<lowC a b:=by
  obtain⟨g,h0,h1,h2,h3⟩:=@zkE a b
  have hg:=zgo (a:=a) hb
  rw[h1] at hg
  have e1:lowA a b=Int.tdiv a g:=by unfold lowA;rw[h1]
  have e2:lowC a b=Int.tdiv b g:=by unfold lowC;rw[h1]
  refine⟨g,hg,by rw[e1];exact h2,by rw[e2];exact h3,?_⟩
  rw[e2]
  refine Int.not_le.1 fun h=>?_
  have:=Int.mul_le_mul_of_nonneg_right h h0
  rw[Int.zero_mul] at this
  omega
theorem zpj {a b:Int} {A B:Int} (h1 : -A≤a∧a≤A) (hb:0<b∧b≤B):(-A≤lowA a b∧lowA a b≤A)∧0<lowC a b∧lowC a b≤B:=by
  obtain⟨g,hg,e1,e2,h0⟩:=zd7 (a:=a) hb.1
  generalize lowA a b=x at *
  generalize lowC a b=y at *
  have k1:y*1≤y*g:=Int.mul_le_mul_of_nonneg_left (by omega) (by omega)
  refine⟨?_,h0,by omega⟩
  rcases Int.le_total 0 x with hx|hx
  · have k2:x*1≤x*g:=Int.mul_le_mul_of_nonneg_left (by omega) hx
    have k3:0≤x*g:=Int.mul_nonneg hx (by omega)
    omega
  · have k2:(-x)*1≤(-x)*g:=Int.mul_le_mul_of_nonneg_left (by omega) (by omega)
    simp only[Int.neg_mul,Int.mul_one] at k2
    have k3:0≤(-x)*g:=Int.mul_nonneg (by omega) (by omega)
    rw[Int.neg_mul] at k3
    omega
theorem mul4 {a b g h:Int}:(a*g)*(b*h)=(a*b)*(g*h):=by
  rw[Int.mul_assoc,Int.mul_assoc,←Int.mul_assoc g b h,Int.mul_comm g b,Int.mul_assoc b g h]
theorem zcW {a b k:Int} (hk:0<k):a*k<b*k↔a<b:=⟨fun h=>Int.lt_of_mul_lt_mul_right h (by omega),fun h=>Int.mul_lt_mul_of_pos_right h hk⟩
theorem zjc {a b c d g h:Int} (hg:0<g) (hh:0<h):cmpI (a*g) (b*g) (c*h) (d*h)=cmpI a b c d:=by
  have hp:=Int.mul_pos hg hh
  unfold cmpI
  rw[mul4,show c*h*(b*g)=(c*b)*(g*h) by rw[mul4,Int.mul_comm h g]]
  by_cases h1:a*d<c*b
  · rw[if_pos h1,if_pos ((zcW hp).2 h1)]
  · rw[if_neg h1,if_neg (fun q=>h1 ((zcW hp).1 q))]
    by_cases h2:c*b<a*d
    · rw[if_pos h2,if_pos ((zcW hp).2 h2)]
    · rw[if_neg h2,if_neg (fun q=>h2 ((zcW hp).1 q))]
theorem zol {a b c d:Int} (hb:0<b) (hd:0<d):cmpI (lowA a b) (lowC a b) (lowA c d) (lowC c d)=cmpI a b c d:=by
  obtain⟨g,hg,e1,e2,_⟩:=zd7 (a:=a) hb
  obtain⟨h,hh,e3,e4,_⟩:=zd7 (a:=c) hd
  have e:=zjc (a:=lowA a b) (b:=lowC a b) (c:=lowA c d) (d:=lowC c d) hg hh
  rw[←e1,←e2,←e3,←e4] at e
  exact e.symm
/-! ### No value is greater than a bound -/
theorem zp8 {xs : List Int}:∀ {k i:Nat},i≤k→mn xs k≤vI xs i
  | 0, i, h => by obtain rfl:i=0:=by omega
                  exact Int.le_refl _
  | k + 1,i,h=>by
    simp only[mn]
    by_cases e:i=k+1
    · subst e;split
      · exact Int.le_refl _
      · rename_i h1;exact Int.not_lt.1 h1
    · have:=zp8 (xs:=xs) (k:=k) (i:=i) (by omega)
      split<;>omega
theorem weak {t:List (List Int)} {cap d D:Int} {l lo hi cs:List Int} (hg:goodT t cap) (ho:opE t cap d l=0) (hw:wtE t D lo hi cs=0) :
    mn (gets t l t.length) (t.length - 1)*D≤(sumI hi*cap+sumI cs)*d:=by
  obtain⟨o1,o2⟩:=zjA ho
  obtain⟨p1,p2,p3⟩:=zb0 o1
  obtain⟨w1,w2,w3⟩:=znp hw
  obtain⟨q1,⟨q2,q3,q4⟩,q5,q6,q7⟩:=zay w1
  obtain⟨V,hV⟩:∃V,V=mn (gets t l t.length) (t.length - 1):=⟨_,rfl⟩
  rw[←hV]
  have g1:=hg.pos
  have hget:∀i,i<t.length→V≤dotI (rowN t i) l∧dotI (rowN t i) l≤cap*d:=fun i hi=>by
    have h1:=zp8 (xs:=gets t l t.length) (k:=t.length - 1) (i:=i) (by omega)
    rw[zbt hi,←hV] at h1
    have h2:=zmy.1 o2 i (by omega)
    rw[zbt hi] at h2
    exact⟨h1,h2⟩
  have hdot:∀i,i<t.length→dotI (rowN t i) l=sm (fun j=>vI (rowN t i) j*vI l j) (ncol t):=fun i hi=>by unfold dotI;rw[hg.rows i hi]
  -- V D is at most the sum of lo times what the seats get
  have s1:V*D≤sm (fun i=>vI lo i*dotI (rowN t i) l) t.length:=by
    rw[←w2,Int.mul_comm]
    unfold sumI
    rw[q2,←zbD]
    exact zd0 _ fun i hi=>Int.mul_le_mul_of_nonneg_left (hget i hi).1 (q5 i hi).1
  have s2:sm (fun i=>vI lo i*dotI (rowN t i) l) t.length=sm (fun i=>(vI lo i - vI hi i)*dotI (rowN t i) l) t.length+sm (fun i=>vI hi i*dotI (rowN t i) l) t.length:=by
    rw[←zii]
    exact zap _ fun i _=>by rw[←Int.add_mul];congr 1;omega
  have s3:sm (fun i=>(vI lo i - vI hi i)*dotI (rowN t i) l) t.length=sm (fun j=>colW t lo hi j t.length*vI l j) (ncol t):=by
    rw [zap (g:=fun i=>sm (fun j=>(vI lo i - vI hi i)*vI (rowN t i) j*vI l j) (ncol t)) t.length (fun i hi'=>by
      show (vI lo i - vI hi i)*dotI (rowN t i) l=_
      rw[hdot i hi',←zhm];exact zap _ fun j _=>(Int.mul_assoc _ _ _).symm),zgJ]
    exact zap _ fun j _=>by
      show sm (fun i=>(vI lo i - vI hi i)*vI (rowN t i) j*vI l j) t.length=_
      rw[zbD];rfl
  have s4:sm (fun j=>colW t lo hi j t.length*vI l j) (ncol t)≤sm (fun j=>vI cs j) (ncol t)*d:=by
    rw[←zbD]
    refine zd0 _ fun j hj=>?_
    have h1:=p3 j (by omega)
    have h2:=ziE w3 j hj
    have h3:=q7 j hj
    exact Int.le_trans (Int.mul_le_mul_of_nonneg_right h2 h1.1) (Int.mul_le_mul_of_nonneg_left h1.2 h3.1)
  have s5:sm (fun i=>vI hi i*dotI (rowN t i) l) t.length≤sm (fun i=>vI hi i) t.length*(cap*d):=by
    rw[←zbD]
    exact zd0 _ fun i hi'=>Int.mul_le_mul_of_nonneg_left (hget i hi').2 (q6 i hi').1
  have s6:(sumI hi*cap+sumI cs)*d=sm (fun i=>vI hi i) t.length*(cap*d)+sm (fun j=>vI cs j) (ncol t)*d:=by
    unfold sumI;rw[q3,q4,Int.add_mul,Int.mul_assoc]
  rw[s6]
  omega
/-! ### Levels -/
def lvE (n:Int):Int:=if 0≤n∧n≤1000 then 0 else 2
@[reducible] def sLvE:Spec:={pats:=[.dat I64],res:=[{t:=I64}],pre:=fun _=>True,f:=fun x=>(lvE x.1,())}
theorem h114:Ok 114 sLvE:=by
  refine mk (ctr:=[(85,zb7),(88,zbi)]) ⟨h85,h88,trivial⟩ (nt:=6) Tryz.func114 rfl rfl rfl rfl (by kernel_rfl) (by kernel_rfl) (fun _=>[]) ?_
  rintro⟨(n:Int),⟨⟩⟩ _
  repeat' (intro hzz;(try (rename Two=>hq;cases hq));(try dsimp only at hzz);(try simp only[zad,zac,eqD,inR,big,zab,zB] at hzz);(try simp only[zad,zac,eqD,inR,big,zab,zB,zal] at hzz);(try (revert hzz;intro _)))
  all_goals try (rename Unit=>hq;clear hq)
  all_goals try ((with_reducible refine Held.mk ?_);(with_reducible (first|refine Frz.mk ?_|refine And.intro (Frz.mk ?_) ?_|refine And.intro ?_ (Frz.mk ?_)));repeat' first|exact True.intro|(change _=_;with_reducible rfl)|refine And.intro ?_ ?_|(with_reducible refine Frz.mk ?_))
  all_goals try (refine Held.mk ?_;(try dsimp only at *);(try simp only[zad,zac,eqD,inR,big,zab,zB] at *);(try simp only[zad,zac,eqD,inR,big,zab,zB,zal] at *))
  all_goals (simp only[lvE];split<;>first|rfl|(rw[decide_eq_true (by omega)];rfl)|(rw[decide_eq_false (by omega)];rfl))
def wtV1 (cap d:Int) (hi cs:List Int):Int:=lowA (sumI hi*cap+sumI cs) d
def wtV2 (cap d:Int) (hi cs:List Int):Int:=lowC (sumI hi*cap+sumI cs) d
def opV1 (t:List (List Int)) (d:Int) (l:List Int):Int:=lowA (mn (gets t l t.length) (t.length - 1)) d
def opV2 (t:List (List Int)) (d:Int) (l:List Int):Int:=lowC (mn (gets t l t.length) (t.length - 1)) d
def crR (t:List (List Int)) (cap n d:Int) (lo hi cs:List Int):Int:=
  if chkT t cap=0 then (if lvE n=0 then (if wtE t d lo hi cs=0 then (if wtV1 cap d hi cs<n*wtV2 cap d hi cs then 0 else 20) else wtE t d lo hi cs) else lvE n) else chkT t cap
@[reducible] def zre:Spec:={pats:=[.dat zeq,.dat I64,.dat zc2],res:=[{t:=I64}],pre:=fun x=>pW3 (List.length (α:=Int) x.2.2.1.2.1) (List.length (α:=Int) x.2.2.1.2.2.1) (List.length (α:=Int) x.2.2.1.2.2.2.1),f:=fun x=>(crR x.1.1 x.1.2.1 x.2.1 x.2.2.1.1 x.2.2.1.2.1 x.2.2.1.2.2.1 x.2.2.1.2.2.2.1,())}
theorem zxq {t:List (List Int)} {cap d:Int} {lo hi cs:List Int} (h:wtE t d lo hi cs=0):wtR t cap d lo hi cs=((wtV1 cap d hi cs,wtV2 cap d hi cs,()),0,()):=if_pos h
theorem zxp {t:List (List Int)} {cap d:Int} {lo hi cs:List Int} (h:¬wtE t d lo hi cs=0):wtR t cap d lo hi cs=((0,0,()),wtE t d lo hi cs,()):=if_neg h
theorem zuL {t:List (List Int)} {cap d:Int} {lo hi cs:List Int} (hg:goodT t cap) (h:wtE t d lo hi cs=0):(-5000000000000000≤wtV1 cap d hi cs∧wtV1 cap d hi cs≤5000000000000000)∧0<wtV2 cap d hi cs∧wtV2 cap d hi cs≤1000000000000:=by
  have h1:=zfC hg (znp h).1
  have h2:=(zay (znp h).1).1
  exact zpj (by omega) (by omega)
theorem zo7 {t:List (List Int)} {cap d:Int} {l:List Int} (hg:goodT t cap) (h:opE t cap d l=0):(-300000000000000≤opV1 t d l∧opV1 t d l≤300000000000000)∧0<opV2 t d l∧opV2 t d l≤1000000000000:=by
  have g1:=hg.pos
  have q:=za0 (xs:=gets t l t.length) (A:=0) (B:=300000000000000) (k:=t.length - 1) fun i hi=>by
    rw[zbt (by omega)];exact (zfA hg (zjA h).1 (by omega)).1
  have q2:=(zb0 (zjA h).1).1
  exact zpj (by omega) (by omega)
theorem h55:Ok 55 zre:=by
  refine mk (ctr:=[(64,zgL),(65,zkO),(73,zeJ),(85,zb7),(114,sLvE)]) ⟨h64,h65,h73,h85,h114,trivial⟩ (nt:=36) Tryz.func55 rfl rfl rfl rfl (by kernel_rfl) (by kernel_rfl) (fun _=>[]) ?_
  rintro⟨⟨(t:List (List Int)),(cap:Int),⟨⟩⟩,(n:Int),⟨(d:Int),(lo:List Int),(hi:List Int),(cs:List Int),⟨⟩⟩,⟨⟩⟩ (hp:pW3 lo.length hi.length cs.length)
  have hF:za8 [chkT t cap,lvE n]=if chkT t cap=0 then lvE n else chkT t cap:=by
    simp only[za8]
    split
    · split
      · rename_i h;exact h.symm
      · rfl
    · rfl
  by_cases h0:chkT t cap=0
  · have hg:=zcC h0
    have hA:wtRA t cap d lo hi cs=wtR t cap d lo hi cs:=if_pos h0
    rw[if_pos h0] at hF
    by_cases h1:lvE n=0
    · by_cases h2:wtE t d lo hi cs=0
      · have hV:=zuL hg h2
        rw[zxq h2] at hA
        obtain⟨b1,hb1⟩:∃b1:Int,wtV1 cap d hi cs=b1:=⟨_,rfl⟩
        obtain⟨b2,hb2⟩:∃b2:Int,wtV2 cap d hi cs=b2:=⟨_,rfl⟩
        rw[hb1,hb2] at hV hA
        have hn:0≤n∧n≤1000:=by
          unfold lvE at h1;split at h1
          · assumption
          · cases h1
        have hm:=zb1 hn (show 0≤b2∧b2≤1000000000000 by omega)
        have e:crR t cap n d lo hi cs=bif decide (b1<n*b2) then 0 else 20:=by
          unfold crR;rw[if_pos h0,if_pos h1,if_pos h2,hb1,hb2]
          by_cases q:b1<n*b2
          · rw[if_pos q,decide_eq_true q];rfl
          · rw[if_neg q,decide_eq_false q];rfl
        have hF2:za8 [0,lvE n]=0:=by rw[h0] at hF;rw[hF,h1]
        repeat' (intro hzz;(try (rename Two=>hq;cases hq));(try dsimp only at hzz);(try simp only[zad,zac,eqD,inR,big,zab,zB] at hzz);(try simp only[zad,zac,eqD,inR,big,zab,zB,hF2,hA,h0,h1,h2] at hzz);(try (first|contradiction|(exfalso;omega)));(try (revert hzz;intro _)))
        all_goals try (rename Unit=>hq;clear hq)
        all_goals try ((with_reducible refine Held.mk ?_);(with_reducible (first|refine Frz.mk ?_|refine And.intro (Frz.mk ?_) ?_|refine And.intro ?_ (Frz.mk ?_)));repeat' first|exact True.intro|(change _=_;with_reducible rfl)|refine And.intro ?_ ?_|(with_reducible refine Frz.mk ?_))
        all_goals try (refine Held.mk ?_;(try dsimp only at *);(try simp only[zad,zac,eqD,inR,big,zab,zB] at *);(try simp only[zad,zac,eqD,inR,big,zab,zB,hF2,hA,h0,h1,h2] at *))
        all_goals try omega
        all_goals first|exact hp|(show ((2:Nat):Int)≤4611686018427387904;decide)|exact e.symm|trace_state
      · have e:crR t cap n d lo hi cs=wtE t d lo hi cs:=by
          unfold crR;rw[if_pos h0,if_pos h1,if_neg h2]
        rw[zxp h2] at hA
        have hF2:za8 [0,lvE n]=0:=by rw[h0] at hF;rw[hF,h1]
        repeat' (intro hzz;(try (rename Two=>hq;cases hq));(try dsimp only at hzz);(try simp only[zad,zac,eqD,inR,big,zab,zB] at hzz);(try simp only[zad,zac,eqD,inR,big,zab,zB,hF2,hA,h0,h1,h2,e] at hzz);(try (first|contradiction|(exfalso;omega)));(try (revert hzz;intro _)))
        all_goals try (rename Unit=>hq;clear hq)
        all_goals try ((with_reducible refine Held.mk ?_);(with_reducible (first|refine Frz.mk ?_|refine And.intro (Frz.mk ?_) ?_|refine And.intro ?_ (Frz.mk ?_)));repeat' first|exact True.intro|(change _=_;with_reducible rfl)|refine And.intro ?_ ?_|(with_reducible refine Frz.mk ?_))
        all_goals try (refine Held.mk ?_;(try dsimp only at *);(try simp only[zad,zac,eqD,inR,big,zab,zB] at *);(try simp only[zad,zac,eqD,inR,big,zab,zB,hF2,hA,h0,h1,h2,e] at *))
        all_goals try omega
        all_goals first|exact hp|(show ((2:Nat):Int)≤4611686018427387904;decide)|exact e.symm|trace_state
    · have e:crR t cap n d lo hi cs=lvE n:=by
        unfold crR;rw[if_pos h0,if_neg h1]
      have hF2:za8 [0,lvE n]=lvE n:=by rw[h0] at hF;exact hF
      repeat' (intro hzz;(try (rename Two=>hq;cases hq));(try dsimp only at hzz);(try simp only[zad,zac,eqD,inR,big,zab,zB] at hzz);(try simp only[zad,zac,eqD,inR,big,zab,zB,hF2,h0,h1,e] at hzz);(try (first|contradiction|(exfalso;omega)));(try (revert hzz;intro _)))
      all_goals try (rename Unit=>hq;clear hq)
      all_goals try ((with_reducible refine Held.mk ?_);(with_reducible (first|refine Frz.mk ?_|refine And.intro (Frz.mk ?_) ?_|refine And.intro ?_ (Frz.mk ?_)));repeat' first|exact True.intro|(change _=_;with_reducible rfl)|refine And.intro ?_ ?_|(with_reducible refine Frz.mk ?_))
      all_goals try (refine Held.mk ?_;(try dsimp only at *);(try simp only[zad,zac,eqD,inR,big,zab,zB] at *);(try simp only[zad,zac,eqD,inR,big,zab,zB,hF2,h0,h1,e] at *))
      all_goals try omega
      all_goals first|exact hp|(show ((2:Nat):Int)≤4611686018427387904;decide)|exact e.symm|trace_state
  · have e:crR t cap n d lo hi cs=chkT t cap:=by
      unfold crR;rw[if_neg h0]
    rw[if_neg h0] at hF
    repeat' (intro hzz;(try (rename Two=>hq;cases hq));(try dsimp only at hzz);(try simp only[zad,zac,eqD,inR,big,zab,zB] at hzz);(try simp only[zad,zac,eqD,inR,big,zab,zB,hF,h0,e] at hzz);(try (first|contradiction|(exfalso;omega)));(try (revert hzz;intro _)))
    all_goals try (rename Unit=>hq;clear hq)
    all_goals try ((with_reducible refine Held.mk ?_);(with_reducible (first|refine Frz.mk ?_|refine And.intro (Frz.mk ?_) ?_|refine And.intro ?_ (Frz.mk ?_)));repeat' first|exact True.intro|(change _=_;with_reducible rfl)|refine And.intro ?_ ?_|(with_reducible refine Frz.mk ?_))
    all_goals try (refine Held.mk ?_;(try dsimp only at *);(try simp only[zad,zac,eqD,inR,big,zab,zB] at *);(try simp only[zad,zac,eqD,inR,big,zab,zB,hF,h0,e] at *))
    all_goals try omega
    all_goals first|exact hp|(show ((2:Nat):Int)≤4611686018427387904;decide)|exact e.symm|trace_state
abbrev ztm:Ty:=.cons zhN (.cons zc2 .nil)
def shC (a b c d:Nat):Bool:=decide (a≤9)&&(decide (b≤9)&&(decide (c≤9)&&decide (d≤9)))
@[reducible] def zu2:Spec:={pats:=[.dat ztm],res:=[{t:=.bool}],pre:=fun _=>True,f:=fun x=>(shC (List.length (α:=Int) x.1.1.2.1) (List.length (α:=Int) x.1.2.1.2.1) (List.length (α:=Int) x.1.2.1.2.2.1) (List.length (α:=Int) x.1.2.1.2.2.2.1),())}
theorem h63:Ok 63 zu2:=by
  refine mk (ctr:=[]) trivial (nt:=29) Tryz.func63 rfl rfl rfl rfl (by kernel_rfl) (by kernel_rfl) (fun _=>[]) ?_
  rintro⟨⟨⟨(od:Int),(l:List Int),⟨⟩⟩,⟨(d:Int),(lo:List Int),(hi:List Int),(cs:List Int),⟨⟩⟩,⟨⟩⟩,⟨⟩⟩ _
  have e:∀n:Nat,decide ((n:Int)≤9)=decide (n≤9):=fun n=>by congr 1;exact propext ⟨fun h=>by omega,fun h=>by omega⟩
  have r:shC l.length lo.length hi.length cs.length=(decide ((l.length:Int)≤9)&&(decide ((lo.length:Int)≤9)&&(decide ((hi.length:Int)≤9)&&decide ((cs.length:Int)≤9)))):=by rw[e,e,e,e];rfl
  repeat' (intro hzz;(try (rename Two=>hq;cases hq));(try dsimp only at hzz);(try simp only[zad,zac,eqD,inR,big,zab,zB] at hzz);(try (revert hzz;intro _)))
  all_goals try (rename Unit=>hq;clear hq)
  all_goals try ((with_reducible refine Held.mk ?_);(with_reducible (first|refine Frz.mk ?_|refine And.intro (Frz.mk ?_) ?_|refine And.intro ?_ (Frz.mk ?_)));repeat' first|exact True.intro|(change _=_;with_reducible rfl)|refine And.intro ?_ ?_|(with_reducible refine Frz.mk ?_))
  all_goals try (refine Held.mk ?_;(try dsimp only at *);(try simp only[zad,zac,eqD,inR,big,zab,zB] at *))
  all_goals (refine Eq.trans ?_ r.symm)
  · rename_i h1 h2 h3
    rw[decide_eq_true h1,decide_eq_true h2,decide_eq_true h3];rfl
  · rename_i h1 h2 h3
    rw[decide_eq_true h1,decide_eq_true h2,decide_eq_false (Int.not_le.2 h3)];rfl
  · rename_i h1 h2
    rw[decide_eq_true h1,decide_eq_false (Int.not_le.2 h2)];rfl
  · rename_i h1
    rw[decide_eq_false (Int.not_le.2 h1)];rfl
end Go.Eng.Ar
namespace Go.Eng.Ar
open Go.Eng Go.Proofs
set_option linter.all false
set_option maxRecDepth 100000
set_option maxHeartbeats 8000000
theorem zdb (a b:Int):zaD.beq (a,b,()) (a,b,())=true:=by
  show (decide (a=a)&&(decide (b=b)&&true))=true
  simp
theorem zAm {t:List (List Int)} {cap d:Int} {l:List Int} (h:opE t cap d l=0):opR t cap d l=((opV1 t d l,opV2 t d l,()),0,()):=if_pos h
theorem zAl {t:List (List Int)} {cap d:Int} {l:List Int} (h:¬opE t cap d l=0):opR t cap d l=((0,0,()),opE t cap d l,()):=if_neg h
theorem ztu {t:List (List Int)} {cap d D:Int} {l lo hi cs:List Int} (hg:goodT t cap) (ho:opE t cap d l=0) (hw:wtE t D lo hi cs=0):¬0<cmpI (opV1 t d l) (opV2 t d l) (wtV1 cap D hi cs) (wtV2 cap D hi cs):=by
  have h1:=(zb0 (zjA ho).1).1
  have h2:=(zay (znp hw).1).1
  have h3:=weak hg ho hw
  unfold opV1 opV2 wtV1 wtV2
  rw[zol (by omega) (by omega)]
  unfold cmpI
  split
  · decide
  · rw[if_neg (by omega)];decide
theorem zud {t:List (List Int)} (h:smT t=true):zeO t:=by
  unfold smT at h
  simp only[Bool.and_eq_true] at h
  have h1:t.length≤6:=of_decide_eq_true h.1
  exact⟨by show t.length≤1000;omega,fun i hi=>by have:=zdI h.2 i hi;show (rowN t i).length≤1000;omega⟩
theorem zvL {a b c d:Nat} (h:shC a b c d=true):a≤9∧b≤9∧c≤9∧d≤9:=by
  unfold shC at h
  simp only[Bool.and_eq_true] at h
  exact⟨of_decide_eq_true h.1,of_decide_eq_true h.2.1,of_decide_eq_true h.2.2.1,of_decide_eq_true h.2.2.2⟩
theorem lv_0 {n:Int}:lvE n=0↔0≤n∧n≤1000:=by
  unfold lvE
  by_cases h:0≤n∧n≤1000
  · simp[h]
  · simp[h]
theorem zbm (a b:Int):(zbs (List.replicate 2 I64)).beq (a,b,()) (a,b,())=true:=zdb a b
theorem zvs {b1 b2 n:Int}:0≤cmpI b1 b2 n 1↔¬b1<n*b2:=by
  unfold cmpI
  rw[Int.mul_one]
  by_cases h:b1<n*b2
  · rw[if_pos h];exact⟨fun q=>absurd q (by decide),fun q=>absurd h q⟩
  · rw[if_neg h]
    refine⟨fun _=>h,fun _=>?_⟩
    split<;>decide
@[reducible] def zrc:Spec:={pats:=[.dat zeq,.dat ztm,.dat I64,.gw 3 .err,.gw 4 .err,.gw 2 PowT,.gw 1 I64],res:=[{t:=.bool}],pre:=fun x=>x.2.2.2.2.2.1=powD,f:=fun _=>(true,())}
theorem zy7 : Ok 12 zrc:=by
  refine mk (ctr:=[(14,zmf),(29,zbi),(40,zil),(42,zmc),(43,zgM),(44,zmd),(45,zf4),(51,zkO),(52,zoQ),(53,zhQ),(55,zre),(56,zu6),(63,zu2),(64,zgL),(65,zkO)]) ⟨h14,h29,h40,h42,h43,h44,h45,h51,h52,h53,h55,h56,h63,h64,h65,trivial⟩ (nt:=154) Tryz.func12 rfl rfl rfl rfl (by kernel_rfl) (by kernel_rfl) (fun _=>[]) ?_
  rintro⟨⟨(t:List (List Int)),(cap:Int),⟨⟩⟩,⟨⟨(od:Int),(l:List Int),⟨⟩⟩,⟨(d:Int),(lo:List Int),(hi:List Int),(cs:List Int),⟨⟩⟩,⟨⟩⟩,(n:Int),(b0:Bool),(b1:Bool),(pw:PowT.Den),(m:Int),⟨⟩⟩ (hpw:pw=powD)
  by_cases hs:smT t=true
  · have hL : Hid (zeO t):=zud hs
    by_cases hc:shC l.length lo.length hi.length cs.length=true
    · obtain ⟨k1,k2,k3,k4⟩:=zvL hc
      have hO:Hid (pK l.length):=(by show l.length≤1000;omega)
      have hO2:Hid (pLen l.length):=(by show (l.length:Int)≤4611686018427387904;omega)
      have hW:Hid (pWgt lo.length hi.length cs.length):=⟨by show lo.length≤1000;omega,by show hi.length≤1000;omega,by show cs.length≤1000;omega⟩
      have hW2:Hid (pW3 lo.length hi.length cs.length):=⟨by show (lo.length:Int)≤4611686018427387904;omega,by show (hi.length:Int)≤4611686018427387904;omega,by show (cs.length:Int)≤4611686018427387904;omega⟩
      clear k1 k2 k3 k4
      by_cases h0:chkT t cap=0
      · have hg:Hid (goodT t cap):=zcC h0
        have e1:opRA t cap od l=opR t cap od l:=if_pos h0
        have e2:wtRA t cap d lo hi cs=wtR t cap d lo hi cs:=if_pos h0
        have e3:crR t cap n d lo hi cs=if lvE n=0 then (if wtE t d lo hi cs=0 then (if wtV1 cap d hi cs<n*wtV2 cap d hi cs then 0 else 20) else wtE t d lo hi cs) else lvE n:=if_pos h0
        obtain ⟨v1,v2,e,f1,g1⟩:∃v1 v2 e:Int,opR t cap od l=((v1,v2,()),e,())∧(e=0→opE t cap od l=0∧v1=opV1 t od l∧v2=opV2 t od l):=by
          by_cases ho:opE t cap od l=0
          · exact⟨_,_,_,zAm (cap:=cap) ho,fun _=>⟨ho,rfl,rfl⟩⟩
          · exact⟨_,_,_,zAl (cap:=cap) ho,fun q=>absurd q ho⟩
        have y1:e=0→(-300000000000000≤v1∧v1≤300000000000000)∧0<v2∧v2≤1000000000000:=fun q=>by
          obtain⟨a,b,c⟩:=g1 q
          rw[b,c];exact zo7 hg a
        rw[f1] at e1
        by_cases hw:wtE t d lo hi cs=0
        · have f2:=zxq (cap:=cap) hw
          rw[f2] at e2
          rw[if_pos hw] at e3
          have y2:=zuL hg hw
          have z:e=0→¬0<cmpI v1 v2 (wtV1 cap d hi cs) (wtV2 cap d hi cs):=fun q=>by
            obtain⟨a,b,c⟩:=g1 q
            rw[b,c];exact ztu hg a hw
          clear g1
          obtain⟨w1,hw1⟩:∃w1,wtV1 cap d hi cs=w1:=⟨_,rfl⟩
          obtain⟨w2,hw2⟩:∃w2,wtV2 cap d hi cs=w2:=⟨_,rfl⟩
          rw[hw1,hw2] at f2 e2 e3 z y2
          clear hw1 hw2
          have hpc:Hid (e=0→pCmp v1 v2 w1 w2):=fun q=>by
            have:=y1 q
            exact⟨by omega,by omega,by omega,by omega,by omega⟩
          have hz:Hid (e=0→¬0<cmpI v1 v2 w1 w2):=z
          clear z
          by_cases hn:0≤n∧n≤1000
          · have hpn:Hid (pCmp w1 w2 n 1):=⟨by omega,by omega,by omega,by omega,by omega⟩
            rw[if_pos (lv_0.2 hn)] at e3
            clear y1 y2
            by_cases hq:w1<n*w2
            · rw[if_pos hq] at e3
              have z2:¬0≤cmpI w1 w2 n 1:=fun q=>(zvs.1 q) hq
              have z3:cmpI w1 w2 n 1<0:=Int.not_le.1 z2
              repeat' (intro hzz;(try (rename Two=>hq;cases hq));(try dsimp only at hzz);(try simp only[zad,zac,eqD,inR,big,zab,zB] at hzz);(try simp only[zad,zac,eqD,inR,big,zab,zB,hs,hc,h0,e1,e2,e3,f1,f2,zal,hn,z2,z3,zbm,hpw,not_true_eq_false,not_false_eq_true] at hzz);(try (first|contradiction|(exfalso;omega)));(try (revert hzz;intro _)))
              all_goals try (rename Unit=>hq;clear hq)
              all_goals try ((with_reducible refine Held.mk ?_);(with_reducible (first|refine Frz.mk ?_|refine And.intro (Frz.mk ?_) ?_|refine And.intro ?_ (Frz.mk ?_)));repeat' first|exact True.intro|(change _=_;with_reducible rfl)|refine And.intro ?_ ?_|(with_reducible refine Frz.mk ?_))
              all_goals try (refine Held.mk ?_;(try dsimp only at *);(try simp only[zad,zac,eqD,inR,big,zab,zB] at *);(try simp only[zad,zac,eqD,inR,big,zab,zB,hs,hc,h0,e1,e2,e3,f1,f2,zal,hn,z2,z3,zbm,hpw,not_true_eq_false,not_false_eq_true] at *))
              all_goals try omega
              all_goals first|exact hL|exact hO|exact hO2|exact hW|exact hW2|exact⟨hg,hO2⟩|exact⟨hg,hW2⟩|exact hpn|exact hpc (by assumption)|exact hz (by assumption)|(rename_i h;exact absurd ((zdb _ _).symm.trans h) (by decide))|trace_state
            · rw[if_neg hq] at e3
              have z2:0≤cmpI w1 w2 n 1:=zvs.2 hq
              have z3:¬cmpI w1 w2 n 1<0:=Int.not_lt.2 z2
              repeat' (intro hzz;(try (rename Two=>hq;cases hq));(try dsimp only at hzz);(try simp only[zad,zac,eqD,inR,big,zab,zB] at hzz);(try simp only[zad,zac,eqD,inR,big,zab,zB,hs,hc,h0,e1,e2,e3,f1,f2,zal,hn,z2,z3,zbm,hpw,not_true_eq_false,not_false_eq_true] at hzz);(try (first|contradiction|(exfalso;omega)));(try (revert hzz;intro _)))
              all_goals try (rename Unit=>hq;clear hq)
              all_goals try ((with_reducible refine Held.mk ?_);(with_reducible (first|refine Frz.mk ?_|refine And.intro (Frz.mk ?_) ?_|refine And.intro ?_ (Frz.mk ?_)));repeat' first|exact True.intro|(change _=_;with_reducible rfl)|refine And.intro ?_ ?_|(with_reducible refine Frz.mk ?_))
              all_goals try (refine Held.mk ?_;(try dsimp only at *);(try simp only[zad,zac,eqD,inR,big,zab,zB] at *);(try simp only[zad,zac,eqD,inR,big,zab,zB,hs,hc,h0,e1,e2,e3,f1,f2,zal,hn,z2,z3,zbm,hpw,not_true_eq_false,not_false_eq_true] at *))
              all_goals try omega
              all_goals first|exact hL|exact hO|exact hO2|exact hW|exact hW2|exact⟨hg,hO2⟩|exact⟨hg,hW2⟩|exact hpn|exact hpc (by assumption)|exact hz (by assumption)|(rename_i h;exact absurd ((zdb _ _).symm.trans h) (by decide))|trace_state
          · have hl2:lvE n=2:=if_neg hn
            rw[hl2,if_neg (by decide)] at e3
            clear y1 y2
            repeat' (intro hzz;(try (rename Two=>hq;cases hq));(try dsimp only at hzz);(try simp only[zad,zac,eqD,inR,big,zab,zB] at hzz);(try simp only[zad,zac,eqD,inR,big,zab,zB,hs,hc,h0,e1,e2,e3,f1,f2,zal,hn,zbm,hpw,not_true_eq_false,not_false_eq_true] at hzz);(try (first|contradiction|(exfalso;omega)));(try (revert hzz;intro _)))
            all_goals try (rename Unit=>hq;clear hq)
            all_goals try ((with_reducible refine Held.mk ?_);(with_reducible (first|refine Frz.mk ?_|refine And.intro (Frz.mk ?_) ?_|refine And.intro ?_ (Frz.mk ?_)));repeat' first|exact True.intro|(change _=_;with_reducible rfl)|refine And.intro ?_ ?_|(with_reducible refine Frz.mk ?_))
            all_goals try (refine Held.mk ?_;(try dsimp only at *);(try simp only[zad,zac,eqD,inR,big,zab,zB] at *);(try simp only[zad,zac,eqD,inR,big,zab,zB,hs,hc,h0,e1,e2,e3,f1,f2,zal,hn,zbm,hpw,not_true_eq_false,not_false_eq_true] at *))
            all_goals try omega
            all_goals first|exact hL|exact hO|exact hO2|exact hW|exact hW2|exact⟨hg,hO2⟩|exact⟨hg,hW2⟩|exact hpc (by assumption)|exact hz (by assumption)|(rename_i h;exact absurd ((zdb _ _).symm.trans h) (by decide))|trace_state
        · have f2:=zxp (cap:=cap) hw
          rw[f2] at e2
          rw[if_neg hw] at e3
          clear g1 y1
          by_cases hn:0≤n∧n≤1000
          · rw[if_pos (lv_0.2 hn)] at e3
            repeat' (intro hzz;(try (rename Two=>hq;cases hq));(try dsimp only at hzz);(try simp only[zad,zac,eqD,inR,big,zab,zB] at hzz);(try simp only[zad,zac,eqD,inR,big,zab,zB,hs,hc,h0,e1,e2,e3,f1,f2,zal,hn,hw,zbm,hpw,not_true_eq_false,not_false_eq_true] at hzz);(try (first|contradiction|(exfalso;omega)));(try (revert hzz;intro _)))
            all_goals try (rename Unit=>hq;clear hq)
            all_goals try ((with_reducible refine Held.mk ?_);(with_reducible (first|refine Frz.mk ?_|refine And.intro (Frz.mk ?_) ?_|refine And.intro ?_ (Frz.mk ?_)));repeat' first|exact True.intro|(change _=_;with_reducible rfl)|refine And.intro ?_ ?_|(with_reducible refine Frz.mk ?_))
            all_goals try (refine Held.mk ?_;(try dsimp only at *);(try simp only[zad,zac,eqD,inR,big,zab,zB] at *);(try simp only[zad,zac,eqD,inR,big,zab,zB,hs,hc,h0,e1,e2,e3,f1,f2,zal,hn,hw,zbm,hpw,not_true_eq_false,not_false_eq_true] at *))
            all_goals try omega
            all_goals first|exact hL|exact hO|exact hO2|exact hW|exact hW2|exact⟨hg,hO2⟩|exact⟨hg,hW2⟩|(rename_i h;exact absurd ((zdb _ _).symm.trans h) (by decide))|trace_state
          · have hl2:lvE n=2:=if_neg hn
            rw[hl2,if_neg (by decide)] at e3
            repeat' (intro hzz;(try (rename Two=>hq;cases hq));(try dsimp only at hzz);(try simp only[zad,zac,eqD,inR,big,zab,zB] at hzz);(try simp only[zad,zac,eqD,inR,big,zab,zB,hs,hc,h0,e1,e2,e3,f1,f2,zal,hn,hw,zbm,hpw,not_true_eq_false,not_false_eq_true] at hzz);(try (first|contradiction|(exfalso;omega)));(try (revert hzz;intro _)))
            all_goals try (rename Unit=>hq;clear hq)
            all_goals try ((with_reducible refine Held.mk ?_);(with_reducible (first|refine Frz.mk ?_|refine And.intro (Frz.mk ?_) ?_|refine And.intro ?_ (Frz.mk ?_)));repeat' first|exact True.intro|(change _=_;with_reducible rfl)|refine And.intro ?_ ?_|(with_reducible refine Frz.mk ?_))
            all_goals try (refine Held.mk ?_;(try dsimp only at *);(try simp only[zad,zac,eqD,inR,big,zab,zB] at *);(try simp only[zad,zac,eqD,inR,big,zab,zB,hs,hc,h0,e1,e2,e3,f1,f2,zal,hn,hw,zbm,hpw,not_true_eq_false,not_false_eq_true] at *))
            all_goals try omega
            all_goals first|exact hL|exact hO|exact hO2|exact hW|exact hW2|exact⟨hg,hO2⟩|exact⟨hg,hW2⟩|(rename_i h;exact absurd ((zdb _ _).symm.trans h) (by decide))|trace_state
      · have e1:opRA t cap od l=((0,0,()),chkT t cap,()):=if_neg h0
        have e2:wtRA t cap d lo hi cs=((0,0,()),chkT t cap,()):=if_neg h0
        have e3:crR t cap n d lo hi cs=chkT t cap:=if_neg h0
        repeat' (intro hzz;(try (rename Two=>hq;cases hq));(try dsimp only at hzz);(try simp only[zad,zac,eqD,inR,big,zab,zB] at hzz);(try simp only[zad,zac,eqD,inR,big,zab,zB,hs,hc,h0,e1,e2,e3,zbm,hpw,not_true_eq_false,not_false_eq_true] at hzz);(try (first|contradiction|(exfalso;omega)));(try (revert hzz;intro _)))
        all_goals try (rename Unit=>hq;clear hq)
        all_goals try ((with_reducible refine Held.mk ?_);(with_reducible (first|refine Frz.mk ?_|refine And.intro (Frz.mk ?_) ?_|refine And.intro ?_ (Frz.mk ?_)));repeat' first|exact True.intro|(change _=_;with_reducible rfl)|refine And.intro ?_ ?_|(with_reducible refine Frz.mk ?_))
        all_goals try (refine Held.mk ?_;(try dsimp only at *);(try simp only[zad,zac,eqD,inR,big,zab,zB] at *);(try simp only[zad,zac,eqD,inR,big,zab,zB,hs,hc,h0,e1,e2,e3,zbm,hpw,not_true_eq_false,not_false_eq_true] at *))
        all_goals try omega
        all_goals first|exact hL|exact hO|exact hO2|exact hW|exact hW2|(rename_i h;exact absurd ((zdb _ _).symm.trans h) (by decide))|trace_state
    · have hc':shC l.length lo.length hi.length cs.length=false:=by simpa using hc
      clear hc
      repeat' (intro hzz;(try (rename Two=>hq;cases hq));(try dsimp only at hzz);(try simp only[zad,zac,eqD,inR,big,zab,zB] at hzz);(try simp only[zad,zac,eqD,inR,big,zab,zB,hs,hc',hpw,not_true_eq_false,not_false_eq_true] at hzz);(try (first|contradiction|(exfalso;omega)));(try (revert hzz;intro _)))
      all_goals try (rename Unit=>hq;clear hq)
      all_goals try ((with_reducible refine Held.mk ?_);(with_reducible (first|refine Frz.mk ?_|refine And.intro (Frz.mk ?_) ?_|refine And.intro ?_ (Frz.mk ?_)));repeat' first|exact True.intro|(change _=_;with_reducible rfl)|refine And.intro ?_ ?_|(with_reducible refine Frz.mk ?_))
      all_goals try (refine Held.mk ?_;(try dsimp only at *);(try simp only[zad,zac,eqD,inR,big,zab,zB] at *);(try simp only[zad,zac,eqD,inR,big,zab,zB,hs,hc',hpw,not_true_eq_false,not_false_eq_true] at *))
      all_goals try omega
      all_goals first|exact hL|trace_state
  · have hs':smT t=false:=by simpa using hs
    clear hs
    repeat' (intro hzz;(try (rename Two=>hq;cases hq));(try dsimp only at hzz);(try simp only[zad,zac,eqD,inR,big,zab,zB] at hzz);(try simp only[zad,zac,eqD,inR,big,zab,zB,hs',hpw,not_true_eq_false,not_false_eq_true] at hzz);(try (first|contradiction|(exfalso;omega)));(try (revert hzz;intro _)))
    all_goals try (rename Unit=>hq;clear hq)
    all_goals try ((with_reducible refine Held.mk ?_);(with_reducible (first|refine Frz.mk ?_|refine And.intro (Frz.mk ?_) ?_|refine And.intro ?_ (Frz.mk ?_)));repeat' first|exact True.intro|(change _=_;with_reducible rfl)|refine And.intro ?_ ?_|(with_reducible refine Frz.mk ?_))
    all_goals try (refine Held.mk ?_;(try dsimp only at *);(try simp only[zad,zac,eqD,inR,big,zab,zB] at *);(try simp only[zad,zac,eqD,inR,big,zab,zB,hs',hpw,not_true_eq_false,not_false_eq_true] at *))
    all_goals try omega
    all_goals trace_state
end Go.Eng.Ar
