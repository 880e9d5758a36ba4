/- Texts Q2 Q43 Q3 Q4 Q5 Q6 Q7 Q8 Q11 Q44 Q45 Q13 Q15 Q46 Q47 Q9 Q10 Q18 Q48 Q49 Q51A Q52A Q52 Q53 Q58 Q60 G1, as far as they are used. Conditions: each lemma's own. -/
import Derived.Test.YtaappjbdkjfkhaaKN3
import Derived.KernelRfl
namespace Go.Eng.Pu
open Go.Eng Go.Proofs
set_option linter.all false
set_option maxRecDepth 100000
set_option maxHeartbeats 8000000
theorem znS {n b:Int} (h1 : -9000000000000000000≤n) (h2:n≤9000000000000000000) : -9000000000000000000≤n.tdiv b∧n.tdiv b≤9000000000000000000:=by
  have h3:=Int.natAbs_tdiv_le_natAbs n b
  omega
theorem znR (n m:Int) (hm:0<m) : -m<n.tmod m∧n.tmod m<m:=by
  have h1:=Int.tmod_eq_emod (a:=n) (b:=m)
  have h2:=Int.emod_nonneg n (show m≠0 by omega)
  have h3:=Int.emod_lt_of_pos n hm
  split at h1<;>omega
theorem zmx {n b:Int} (hb:0<b):(n.tmod b<0→n.tmod b+b=n % b)∧(0≤n.tmod b→n.tmod b=n % b):=by
  have h1:=Int.tmod_eq_emod (a:=n) (b:=b)
  have h2:=Int.emod_nonneg n (show b≠0 by omega)
  have h3:=Int.emod_lt_of_pos n hb
  split at h1<;>omega
def zdq:List Int→Int
  | []=>0
  | e::r=>if e=0 then zdq r else e
theorem zm7 {xs:List Int} {i:Nat} (h:i<xs.length):xs.drop i=xs.getD i 0::xs.drop (i+1):=by
  rw[List.drop_eq_getElem_cons h]
  simp[List.getD,List.getElem?_eq_getElem h]
theorem za1 (xs:List Int) (i:Nat):List.getD xs ((i:Int)).toNat (Ty.dflt I64)=xs.getD i 0:=rfl
theorem zc2 {xs:List Int} {i:Nat} (h:i<xs.length):zdq (xs.drop i)=if xs.getD i 0=0 then zdq (xs.drop (i+1)) else xs.getD i 0:=by
  rw[zm7 h];rfl
def pLen (n:Nat):Prop:=(n:Int)≤4611686018427387904
theorem pLen.out {n:Nat} (h:pLen n):(n:Int)≤4611686018427387904:=h
@[reducible] def zjA:Spec:={pats:=[.dat (.sl I64)],res:=[{t:=I64}],pre:=fun x=>pLen (List.length (α:=Int) x.1),f:=fun x=>(zdq x.1,())}
def zfr (xs:List Int):LoopAnn:={σ:=Nat×Unit,pat:=fun i=>[sI 7 i.1],inv:=fun i=>i.1≤xs.length∧zdq (xs.drop i.1)=zdq xs,meas:=fun i=>xs.length - i.1}
theorem h84:Ok 35 zjA:=by
  refine mk (ctr:=[]) trivial (nt:=15) Try.func35 rfl rfl rfl rfl (by kernel_rfl) (by kernel_rfl) (fun x=>[fun _=>zfr x.1]) ?_
  rintro⟨(xs:List Int),_⟩ (hp:pLen xs.length)
  repeat' (intro hzz;(try (rename Two=>hq;cases hq));(try dsimp only at hzz);(try simp only[zac,zab,eqD,inR,big,zaa,Bool.not_true,Bool.not_false,Bool.true_eq,decide_eq_true_eq,decide_eq_false_iff_not,Bool.not_eq_true',Bool.not_eq_false',Bool.and_eq_true,Prod.mk.injEq,and_true,true_and,Int.not_lt,Int.not_le,gt_iff_lt,ge_iff_le] at hzz);(try simp only[zac,zab,eqD,inR,big,zaa,Bool.not_true,Bool.not_false,Bool.true_eq,decide_eq_true_eq,decide_eq_false_iff_not,Bool.not_eq_true',Bool.not_eq_false',Bool.and_eq_true,Prod.mk.injEq,and_true,true_and,Int.not_lt,Int.not_le,gt_iff_lt,ge_iff_le,za1] at hzz);(try (revert hzz;intro _)))
  all_goals try (rename Unit=>hq;clear hq)
  all_goals try ((with_reducible refine Held.mk ?_);(with_reducible (first|refine Frz.mk ?_|refine And.intro (Frz.mk ?_) ?_|refine And.intro ?_ (Frz.mk ?_)));repeat' first|exact True.intro|(change _=_;with_reducible rfl)|refine And.intro ?_ ?_|(with_reducible refine Frz.mk ?_))
  all_goals try (refine Held.mk ?_;(try dsimp only at *);(try simp only[zac,zab,eqD,inR,big,zaa,Bool.not_true,Bool.not_false,Bool.true_eq,decide_eq_true_eq,decide_eq_false_iff_not,Bool.not_eq_true',Bool.not_eq_false',Bool.and_eq_true,Prod.mk.injEq,and_true,true_and,Int.not_lt,Int.not_le,gt_iff_lt,ge_iff_le] at *);(try simp only[zac,zab,eqD,inR,big,zaa,Bool.not_true,Bool.not_false,Bool.true_eq,decide_eq_true_eq,decide_eq_false_iff_not,Bool.not_eq_true',Bool.not_eq_false',Bool.and_eq_true,Prod.mk.injEq,and_true,true_and,Int.not_lt,Int.not_le,gt_iff_lt,ge_iff_le,za1] at *))
  ·
    refine zal.mk ?_
    refine Exists.intro (0,()) ?_
    refine And.intro (Leaf.mk ?_) ?_
    · repeat' first|exact True.intro|refine And.intro ?_ ?_
      all_goals try ((change _=_<;>try dsimp only)<;>try with_reducible rfl)
      all_goals try omega
    exact⟨Nat.zero_le _,rfl⟩
  · rename_i s hi hg
    obtain⟨i,u⟩:=s
    dsimp only at hi hg
    exact⟨Int.natCast_nonneg i,hg⟩
  · rename_i s hi hg hg'
    obtain⟨i,u⟩:=s
    dsimp only at hi hg hg'
    try simp only[za1] at hg' ⊢
    have hlt:i<xs.length:=by have:(i:Int)<xs.length:=hg;omega
    have h1:=zc2 hlt
    replace hg':¬xs.getD i 0=0:=by simpa using hg'
    rw[if_neg hg',hi.2] at h1
    exact h1.symm
  · rename_i s hi hg hg'
    obtain⟨i,u⟩:=s
    dsimp only at hi hg hg'
    try simp only[za1] at hg' ⊢
    have:=hp.out
    have:(i:Int)<xs.length:=hg
    have h0:(0:Int)≤(i:Int):=Int.natCast_nonneg i
    omega
  · rename_i s hi hg hg'
    obtain⟨i,u⟩:=s
    dsimp only at hi hg hg'
    try simp only[za1] at hg' ⊢
    all_goals try dsimp only at hg hg'
    all_goals try simp only[zac,zab,eqD,inR,big,zaa,Bool.not_true,Bool.not_false,Bool.true_eq,decide_eq_true_eq,decide_eq_false_iff_not,Bool.not_eq_true',Bool.not_eq_false',Bool.and_eq_true,Prod.mk.injEq,and_true,true_and,Int.not_lt,Int.not_le,gt_iff_lt,ge_iff_le] at hg hg'
    all_goals try simp only[zac,zab,eqD,inR,big,zaa,Bool.not_true,Bool.not_false,Bool.true_eq,decide_eq_true_eq,decide_eq_false_iff_not,Bool.not_eq_true',Bool.not_eq_false',Bool.and_eq_true,Prod.mk.injEq,and_true,true_and,Int.not_lt,Int.not_le,gt_iff_lt,ge_iff_le,za1] at hg hg'
    have hlt:i<xs.length:=by have:(i:Int)<xs.length:=hg;omega
    have h1:=zc2 hlt
    refine zal.mk ?_
    refine Exists.intro (i+1,()) ?_
    refine And.intro (Leaf.mk ?_) ?_
    · repeat' first|exact True.intro|refine And.intro ?_ ?_
      all_goals try ((change _=_<;>try dsimp only)<;>try with_reducible rfl)
      all_goals try omega
    replace hg':xs.getD i 0=0:=by simpa using hg'
    rw[if_pos hg'] at h1
    exact⟨⟨hlt,h1.symm.trans hi.2⟩,by simp only[zfr];omega⟩
  · rename_i s hi hg
    obtain⟨i,u⟩:=s
    dsimp only at hi hg
    have h1:=hi.2
    rw[List.drop_eq_nil_of_le (by have:(xs.length:Int)≤(i:Int):=hg;omega)] at h1
    exact h1
abbrev zag (n lo hi:Int):Bool:=decide (lo≤n∧n≤hi)
@[reducible] def zbB:Spec:={pats:=[.dat I64,.dat I64,.dat I64],res:=[{t:=.bool}],pre:=fun _=>True,f:=fun x=>(zag x.1 x.2.1 x.2.2.1,())}
theorem h86:Ok 37 zbB:=by
  refine mk (ctr:=[]) trivial (nt:=15) Try.func37 rfl rfl rfl rfl (by kernel_rfl) (by kernel_rfl) (fun _=>[]) ?_
  rintro⟨(n:Int),(lo:Int),(hi:Int),_⟩ _
  repeat' (intro hzz;(try (rename Two=>hq;cases hq));(try dsimp only at hzz);(try simp only[zac,zab,eqD,inR,big,zaa,Bool.not_true,Bool.not_false,Bool.true_eq,decide_eq_true_eq,decide_eq_false_iff_not,Bool.not_eq_true',Bool.not_eq_false',Bool.and_eq_true,Prod.mk.injEq,and_true,true_and,Int.not_lt,Int.not_le,gt_iff_lt,ge_iff_le] at hzz);(try simp only[zac,zab,eqD,inR,big,zaa,Bool.not_true,Bool.not_false,Bool.true_eq,decide_eq_true_eq,decide_eq_false_iff_not,Bool.not_eq_true',Bool.not_eq_false',Bool.and_eq_true,Prod.mk.injEq,and_true,true_and,Int.not_lt,Int.not_le,gt_iff_lt,ge_iff_le,zag] at hzz);(try (revert hzz;intro _)))
  all_goals try (rename Unit=>hq;clear hq)
  all_goals try ((with_reducible refine Held.mk ?_);(with_reducible (first|refine Frz.mk ?_|refine And.intro (Frz.mk ?_) ?_|refine And.intro ?_ (Frz.mk ?_)));repeat' first|exact True.intro|(change _=_;with_reducible rfl)|refine And.intro ?_ ?_|(with_reducible refine Frz.mk ?_))
  all_goals try (refine Held.mk ?_;(try dsimp only at *);(try simp only[zac,zab,eqD,inR,big,zaa,Bool.not_true,Bool.not_false,Bool.true_eq,decide_eq_true_eq,decide_eq_false_iff_not,Bool.not_eq_true',Bool.not_eq_false',Bool.and_eq_true,Prod.mk.injEq,and_true,true_and,Int.not_lt,Int.not_le,gt_iff_lt,ge_iff_le] at *);(try simp only[zac,zab,eqD,inR,big,zaa,Bool.not_true,Bool.not_false,Bool.true_eq,decide_eq_true_eq,decide_eq_false_iff_not,Bool.not_eq_true',Bool.not_eq_false',Bool.and_eq_true,Prod.mk.injEq,and_true,true_and,Int.not_lt,Int.not_le,gt_iff_lt,ge_iff_le,zag] at *))
  all_goals (first|(simp only[decide_eq_decide];omega)|(symm;simp only[decide_eq_false_iff_not];omega)|trace_state)
theorem h25:Ok 20 zbB:=by
  refine mk (ctr:=[]) trivial (nt:=15) Try.func20 rfl rfl rfl rfl (by kernel_rfl) (by kernel_rfl) (fun _=>[]) ?_
  rintro⟨(n:Int),(lo:Int),(hi:Int),_⟩ _
  repeat' (intro hzz;(try (rename Two=>hq;cases hq));(try dsimp only at hzz);(try simp only[zac,zab,eqD,inR,big,zaa,Bool.not_true,Bool.not_false,Bool.true_eq,decide_eq_true_eq,decide_eq_false_iff_not,Bool.not_eq_true',Bool.not_eq_false',Bool.and_eq_true,Prod.mk.injEq,and_true,true_and,Int.not_lt,Int.not_le,gt_iff_lt,ge_iff_le] at hzz);(try simp only[zac,zab,eqD,inR,big,zaa,Bool.not_true,Bool.not_false,Bool.true_eq,decide_eq_true_eq,decide_eq_false_iff_not,Bool.not_eq_true',Bool.not_eq_false',Bool.and_eq_true,Prod.mk.injEq,and_true,true_and,Int.not_lt,Int.not_le,gt_iff_lt,ge_iff_le,zag] at hzz);(try (revert hzz;intro _)))
  all_goals try (rename Unit=>hq;clear hq)
  all_goals try ((with_reducible refine Held.mk ?_);(with_reducible (first|refine Frz.mk ?_|refine And.intro (Frz.mk ?_) ?_|refine And.intro ?_ (Frz.mk ?_)));repeat' first|exact True.intro|(change _=_;with_reducible rfl)|refine And.intro ?_ ?_|(with_reducible refine Frz.mk ?_))
  all_goals try (refine Held.mk ?_;(try dsimp only at *);(try simp only[zac,zab,eqD,inR,big,zaa,Bool.not_true,Bool.not_false,Bool.true_eq,decide_eq_true_eq,decide_eq_false_iff_not,Bool.not_eq_true',Bool.not_eq_false',Bool.and_eq_true,Prod.mk.injEq,and_true,true_and,Int.not_lt,Int.not_le,gt_iff_lt,ge_iff_le] at *);(try simp only[zac,zab,eqD,inR,big,zaa,Bool.not_true,Bool.not_false,Bool.true_eq,decide_eq_true_eq,decide_eq_false_iff_not,Bool.not_eq_true',Bool.not_eq_false',Bool.and_eq_true,Prod.mk.injEq,and_true,true_and,Int.not_lt,Int.not_le,gt_iff_lt,ge_iff_le,zag] at *))
  all_goals (first|(simp only[decide_eq_decide];omega)|(symm;simp only[decide_eq_false_iff_not];omega)|trace_state)
abbrev zgy (m:Int):Prop:=0≤m∧m≤9000000000000000000
@[reducible] def zk8:Spec:={pats:=[.dat I64,.dat I64],res:=[{t:=.bool}],pre:=fun x=>zgy x.2.1,f:=fun x=>(zag x.1 (-x.2.1) x.2.1,())}
theorem h118:Ok 38 zk8:=by
  refine mk (ctr:=[(37,zbB)]) ⟨h86,trivial⟩ (nt:=10) Try.func38 rfl rfl rfl rfl (by kernel_rfl) (by kernel_rfl) (fun _=>[]) ?_
  rintro⟨(n:Int),(m:Int),_⟩ ⟨h1,h2⟩
  repeat' (intro hzz;(try (rename Two=>hq;cases hq));(try dsimp only at hzz);(try simp only[zac,zab,eqD,inR,big,zaa,Bool.not_true,Bool.not_false,Bool.true_eq,decide_eq_true_eq,decide_eq_false_iff_not,Bool.not_eq_true',Bool.not_eq_false',Bool.and_eq_true,Prod.mk.injEq,and_true,true_and,Int.not_lt,Int.not_le,gt_iff_lt,ge_iff_le] at hzz);(try simp only[zac,zab,eqD,inR,big,zaa,Bool.not_true,Bool.not_false,Bool.true_eq,decide_eq_true_eq,decide_eq_false_iff_not,Bool.not_eq_true',Bool.not_eq_false',Bool.and_eq_true,Prod.mk.injEq,and_true,true_and,Int.not_lt,Int.not_le,gt_iff_lt,ge_iff_le,zgy,zag] at hzz);(try (revert hzz;intro _)))
  all_goals try (rename Unit=>hq;clear hq)
  all_goals try ((with_reducible refine Held.mk ?_);(with_reducible (first|refine Frz.mk ?_|refine And.intro (Frz.mk ?_) ?_|refine And.intro ?_ (Frz.mk ?_)));repeat' first|exact True.intro|(change _=_;with_reducible rfl)|refine And.intro ?_ ?_|(with_reducible refine Frz.mk ?_))
  all_goals try (refine Held.mk ?_;(try dsimp only at *);(try simp only[zac,zab,eqD,inR,big,zaa,Bool.not_true,Bool.not_false,Bool.true_eq,decide_eq_true_eq,decide_eq_false_iff_not,Bool.not_eq_true',Bool.not_eq_false',Bool.and_eq_true,Prod.mk.injEq,and_true,true_and,Int.not_lt,Int.not_le,gt_iff_lt,ge_iff_le] at *);(try simp only[zac,zab,eqD,inR,big,zaa,Bool.not_true,Bool.not_false,Bool.true_eq,decide_eq_true_eq,decide_eq_false_iff_not,Bool.not_eq_true',Bool.not_eq_false',Bool.and_eq_true,Prod.mk.injEq,and_true,true_and,Int.not_lt,Int.not_le,gt_iff_lt,ge_iff_le,zgy,zag] at *))
  all_goals (first|omega|trace_state)
@[reducible] def zct:Spec:={pats:=[.dat .bool,.dat I64],res:=[{t:=I64}],pre:=fun _=>True,f:=fun x=>(cond x.1 0 x.2.1,())}
theorem h85:Ok 36 zct:=by
  refine mk (ctr:=[]) trivial (nt:=7) Try.func36 rfl rfl rfl rfl (by kernel_rfl) (by kernel_rfl) (fun _=>[]) ?_
  rintro⟨(b:Bool),(e:Int),_⟩ _
  repeat' (intro hzz;(try (rename Two=>hq;cases hq));(try dsimp only at hzz);(try simp only[zac,zab,eqD,inR,big,zaa,Bool.not_true,Bool.not_false,Bool.true_eq,decide_eq_true_eq,decide_eq_false_iff_not,Bool.not_eq_true',Bool.not_eq_false',Bool.and_eq_true,Prod.mk.injEq,and_true,true_and,Int.not_lt,Int.not_le,gt_iff_lt,ge_iff_le] at hzz);(try (revert hzz;intro _)))
  all_goals try (rename Unit=>hq;clear hq)
  all_goals try ((with_reducible refine Held.mk ?_);(with_reducible (first|refine Frz.mk ?_|refine And.intro (Frz.mk ?_) ?_|refine And.intro ?_ (Frz.mk ?_)));repeat' first|exact True.intro|(change _=_;with_reducible rfl)|refine And.intro ?_ ?_|(with_reducible refine Frz.mk ?_))
  all_goals try (refine Held.mk ?_;(try dsimp only at *);(try simp only[zac,zab,eqD,inR,big,zaa,Bool.not_true,Bool.not_false,Bool.true_eq,decide_eq_true_eq,decide_eq_false_iff_not,Bool.not_eq_true',Bool.not_eq_false',Bool.and_eq_true,Prod.mk.injEq,and_true,true_and,Int.not_lt,Int.not_le,gt_iff_lt,ge_iff_le] at *))
  all_goals (first|(rename_i h;rw[h];rfl)|trace_state)
abbrev fRec (n:Int):Bool:=zag n (-16777216) 16777216
@[reducible] def sRec:Spec:={pats:=[.dat I64],res:=[{t:=.bool}],pre:=fun _=>True,f:=fun x=>(fRec x.1,())}
theorem h117:Ok 57 sRec:=by
  refine mk (ctr:=[(38,zk8)]) ⟨h118,trivial⟩ (nt:=5) Try.func57 rfl rfl rfl rfl (by kernel_rfl) (by kernel_rfl) (fun _=>[]) ?_
  rintro⟨(n:Int),_⟩ _
  repeat' (intro hzz;(try (rename Two=>hq;cases hq));(try dsimp only at hzz);(try simp only[zac,zab,eqD,inR,big,zaa,Bool.not_true,Bool.not_false,Bool.true_eq,decide_eq_true_eq,decide_eq_false_iff_not,Bool.not_eq_true',Bool.not_eq_false',Bool.and_eq_true,Prod.mk.injEq,and_true,true_and,Int.not_lt,Int.not_le,gt_iff_lt,ge_iff_le] at hzz);(try simp only[zac,zab,eqD,inR,big,zaa,Bool.not_true,Bool.not_false,Bool.true_eq,decide_eq_true_eq,decide_eq_false_iff_not,Bool.not_eq_true',Bool.not_eq_false',Bool.and_eq_true,Prod.mk.injEq,and_true,true_and,Int.not_lt,Int.not_le,gt_iff_lt,ge_iff_le,zgy,zag] at hzz);(try (revert hzz;intro _)))
  all_goals try (rename Unit=>hq;clear hq)
  all_goals try ((with_reducible refine Held.mk ?_);(with_reducible (first|refine Frz.mk ?_|refine And.intro (Frz.mk ?_) ?_|refine And.intro ?_ (Frz.mk ?_)));repeat' first|exact True.intro|(change _=_;with_reducible rfl)|refine And.intro ?_ ?_|(with_reducible refine Frz.mk ?_))
  all_goals try (refine Held.mk ?_;(try dsimp only at *);(try simp only[zac,zab,eqD,inR,big,zaa,Bool.not_true,Bool.not_false,Bool.true_eq,decide_eq_true_eq,decide_eq_false_iff_not,Bool.not_eq_true',Bool.not_eq_false',Bool.and_eq_true,Prod.mk.injEq,and_true,true_and,Int.not_lt,Int.not_le,gt_iff_lt,ge_iff_le] at *);(try simp only[zac,zab,eqD,inR,big,zaa,Bool.not_true,Bool.not_false,Bool.true_eq,decide_eq_true_eq,decide_eq_false_iff_not,Bool.not_eq_true',Bool.not_eq_false',Bool.and_eq_true,Prod.mk.injEq,and_true,true_and,Int.not_lt,Int.not_le,gt_iff_lt,ge_iff_le,zgy,zag] at *))
  all_goals (first|omega|trace_state)
abbrev fMod (n b:Int):Int:=n % b
@[reducible] def sMod:Spec:={pats:=[.dat I64,.dat I64],res:=[{t:=I64}],pre:=fun x=>0<x.2.1∧x.2.1≤2000000000000000000,f:=fun x=>(fMod x.1 x.2.1,())}
theorem h109:Ok 49 sMod:=by
  refine mk (ctr:=[]) trivial (nt:=14) Try.func49 rfl rfl rfl rfl (by kernel_rfl) (by kernel_rfl) (fun _=>[]) ?_
  rintro⟨(n:Int),(b:Int),_⟩ ⟨(h1:0<b),(h2:b≤2000000000000000000)⟩
  have h3:=znR n b h1
  have h4:=zmx (n:=n) h1
  repeat' (intro hzz;(try (rename Two=>hq;cases hq));(try dsimp only at hzz);(try simp only[zac,zab,eqD,inR,big,zaa,Bool.not_true,Bool.not_false,Bool.true_eq,decide_eq_true_eq,decide_eq_false_iff_not,Bool.not_eq_true',Bool.not_eq_false',Bool.and_eq_true,Prod.mk.injEq,and_true,true_and,Int.not_lt,Int.not_le,gt_iff_lt,ge_iff_le] at hzz);(try simp only[zac,zab,eqD,inR,big,zaa,Bool.not_true,Bool.not_false,Bool.true_eq,decide_eq_true_eq,decide_eq_false_iff_not,Bool.not_eq_true',Bool.not_eq_false',Bool.and_eq_true,Prod.mk.injEq,and_true,true_and,Int.not_lt,Int.not_le,gt_iff_lt,ge_iff_le,fMod] at hzz);(try (revert hzz;intro _)))
  all_goals try (rename Unit=>hq;clear hq)
  all_goals try ((with_reducible refine Held.mk ?_);(with_reducible (first|refine Frz.mk ?_|refine And.intro (Frz.mk ?_) ?_|refine And.intro ?_ (Frz.mk ?_)));repeat' first|exact True.intro|(change _=_;with_reducible rfl)|refine And.intro ?_ ?_|(with_reducible refine Frz.mk ?_))
  all_goals try (refine Held.mk ?_;(try dsimp only at *);(try simp only[zac,zab,eqD,inR,big,zaa,Bool.not_true,Bool.not_false,Bool.true_eq,decide_eq_true_eq,decide_eq_false_iff_not,Bool.not_eq_true',Bool.not_eq_false',Bool.and_eq_true,Prod.mk.injEq,and_true,true_and,Int.not_lt,Int.not_le,gt_iff_lt,ge_iff_le] at *);(try simp only[zac,zab,eqD,inR,big,zaa,Bool.not_true,Bool.not_false,Bool.true_eq,decide_eq_true_eq,decide_eq_false_iff_not,Bool.not_eq_true',Bool.not_eq_false',Bool.and_eq_true,Prod.mk.injEq,and_true,true_and,Int.not_lt,Int.not_le,gt_iff_lt,ge_iff_le,fMod] at *))
  all_goals try omega
@[reducible] def sTwo:Spec:={pats:=[],res:=[{t:=Reg0}],pre:=fun _=>True,f:=fun _=>(((2:Int),([1,2]:List Int),()),())}
theorem h82:Ok 17 sTwo:=by
  refine mk (ctr:=[]) trivial (nt:=3) Try.func17 rfl rfl rfl rfl (by kernel_rfl) (by kernel_rfl) (fun _=>[]) ?_
  rintro _ _
  repeat' (intro hzz;(try (rename Two=>hq;cases hq));(try dsimp only at hzz);(try simp only[zac,zab,eqD,inR,big,zaa,Bool.not_true,Bool.not_false,Bool.true_eq,decide_eq_true_eq,decide_eq_false_iff_not,Bool.not_eq_true',Bool.not_eq_false',Bool.and_eq_true,Prod.mk.injEq,and_true,true_and,Int.not_lt,Int.not_le,gt_iff_lt,ge_iff_le] at hzz);(try (revert hzz;intro _)))
  all_goals try (rename Unit=>hq;clear hq)
  all_goals try ((with_reducible refine Held.mk ?_);(with_reducible (first|refine Frz.mk ?_|refine And.intro (Frz.mk ?_) ?_|refine And.intro ?_ (Frz.mk ?_)));repeat' first|exact True.intro|(change _=_;with_reducible rfl)|refine And.intro ?_ ?_|(with_reducible refine Frz.mk ?_))
  all_goals try (refine Held.mk ?_;(try dsimp only at *);(try simp only[zac,zab,eqD,inR,big,zaa,Bool.not_true,Bool.not_false,Bool.true_eq,decide_eq_true_eq,decide_eq_false_iff_not,Bool.not_eq_true',Bool.not_eq_false',Bool.and_eq_true,Prod.mk.injEq,and_true,true_and,Int.not_lt,Int.not_le,gt_iff_lt,ge_iff_le] at *))
@[reducible] def zh2:Spec:={pats:=[.dat (.sl I64)],res:=[{t:=.sl I64}],pre:=fun x=>pLen (List.length (α:=Int) x.1)∧List.length (α:=Int) x.1≤2000000000,f:=fun x=>(x.1,())}
theorem h36:Ok 29 zh2:=by
  refine mk (ctr:=[]) trivial (nt:=6) Try.func29 rfl rfl rfl rfl (by kernel_rfl) (by kernel_rfl) (fun _=>[]) ?_
  rintro⟨(xs:List Int),_⟩ ⟨_,(h:xs.length≤2000000000)⟩
  repeat' (intro hzz;(try (rename Two=>hq;cases hq));(try dsimp only at hzz);(try simp only[zac,zab,eqD,inR,big,zaa,Bool.not_true,Bool.not_false,Bool.true_eq,decide_eq_true_eq,decide_eq_false_iff_not,Bool.not_eq_true',Bool.not_eq_false',Bool.and_eq_true,Prod.mk.injEq,and_true,true_and,Int.not_lt,Int.not_le,gt_iff_lt,ge_iff_le] at hzz);(try (revert hzz;intro _)))
  all_goals try (rename Unit=>hq;clear hq)
  all_goals try ((with_reducible refine Held.mk ?_);(with_reducible (first|refine Frz.mk ?_|refine And.intro (Frz.mk ?_) ?_|refine And.intro ?_ (Frz.mk ?_)));repeat' first|exact True.intro|(change _=_;with_reducible rfl)|refine And.intro ?_ ?_|(with_reducible refine Frz.mk ?_))
  all_goals try (refine Held.mk ?_;(try dsimp only at *);(try simp only[zac,zab,eqD,inR,big,zaa,Bool.not_true,Bool.not_false,Bool.true_eq,decide_eq_true_eq,decide_eq_false_iff_not,Bool.not_eq_true',Bool.not_eq_false',Bool.and_eq_true,Prod.mk.injEq,and_true,true_and,Int.not_lt,Int.not_le,gt_iff_lt,ge_iff_le] at *))
  all_goals first|exact List.nil_append _|(show ([]:List Int).length+xs.length≤2147483648;simp;omega)
def M32:Int:=16777216*fS .f32
def pE (x:Nat):Int:=if fN .f32 x=true then (if M32<fV .f32 x∨fV .f32 x < -M32 then 2 else if fWh .f32 x=true then 0 else 27) else 27
theorem c32:fN .f32 1266679808=true∧fN .f32 3414163456=true∧fV .f32 1266679808=M32∧fV .f32 3414163456 = -M32:=by decide +kernel
theorem zj1 {x:Nat} (h1:¬M32<fV .f32 x) (h2:¬fV .f32 x < -M32) : -16777216≤fT .f32 x∧fT .f32 x≤16777216:=by
  have h0:=ziv .f32
  unfold M32 at h1 h2
  unfold fT
  generalize fS .f32=S at *
  generalize fV .f32 x=V at *
  constructor
  · by_cases hv:0≤V
    · rw[Int.tdiv_eq_ediv_of_nonneg hv];have:=Int.ediv_nonneg hv (by omega:0≤S);omega
    · have e:V.tdiv S = -((-V).tdiv S):=by rw[Int.neg_tdiv];omega
      rw[e,Int.tdiv_eq_ediv_of_nonneg (by omega)]
      have:(-V) / S≤16777216:=by
        have:=Int.ediv_le_ediv h0 (show -V≤16777216*S by omega)
        rwa [Int.mul_ediv_cancel _ (by omega)] at this
      omega
  · by_cases hv:0≤V
    · rw[Int.tdiv_eq_ediv_of_nonneg hv]
      have:=Int.ediv_le_ediv h0 (show V≤16777216*S by omega)
      rwa [Int.mul_ediv_cancel _ (by omega)] at this
    · have e:V.tdiv S = -((-V).tdiv S):=by rw[Int.neg_tdiv];omega
      rw[e,Int.tdiv_eq_ediv_of_nonneg (by omega)]
      have:=Int.ediv_nonneg (show 0≤-V by omega) (by omega:0≤S)
      omega
theorem zoa {k:FloatKind} {x:Nat} (h:¬fN k x=true):(∃s,k.format.read x=.infinity s)∨∃s f,k.format.read x=.nan s f:=by
  unfold fN at h
  cases hd:k.format.read x with
  | number s m i=>rw[hd] at h;exact absurd rfl h
  | infinity s=>exact .inl ⟨s,rfl⟩
  | nan s f=>exact .inr ⟨s,f,rfl⟩
theorem zm1 {k:FloatKind} {n:Nat} (h:fok k none n) (y:Nat):k.format.order n y=none:=by
  rcases h with h|⟨_,h⟩
  · cases h
  · obtain⟨s,f,e⟩:=zmD h
    exact (zh9 e y).1
@[reducible] def zlh:Spec:={pats:=[.dat F32],res:=[{t:=I64}],pre:=fun _=>True,f:=fun x=>(pE x.1,())}
theorem zfp {k:FloatKind} {m n:Nat} (h:fok k (some m) n):n=m:=by
  rcases h with h|⟨h,_⟩
  · exact (Option.some.inj h).symm
  · cases h
theorem zz32:(FloatKind.f32.format.order 0 0 != some .eq)=false:=by decide
theorem zmg {α:Type} [BEq α] {a b:α} (h:(a == b)=true):(a != b)=false:=by simp[bne,h]
theorem zoc {k:FloatKind} {n:Nat} (h:fok k none n) {y:Nat} (h2:(k.format.order n y != some .eq)=false):False:=by
  rw[zm1 h] at h2;cases h2
theorem zpF:Ok 42 zlh:=by
  refine mkN (X:=x0) (hX:=zkd) (ctr:=[(36,zct)]) ⟨h85,trivial⟩ (nt:=26) Try.func42 rfl rfl rfl rfl (by kernel_rfl) (by kernel_rfl) (fun _=>[]) ?_
  rintro⟨(x:Nat),_⟩ _
  by_cases hN:fN .f32 x=true
  · have o1:=zmg (show (FloatKind.f32.format.order x x == some .eq)=true by rw[ziD hN hN];simp)
    have s1:=zkU hN
    have g1:=znG hN c32.1
    have g2:=znF hN c32.2.1
    rw[c32.2.2.1] at g1
    rw[c32.2.2.2] at g2
    have f1:=zpH hN
    have f2:=ziD f1.1 hN
    rw[f1.2] at f2
    have z:=zz32
    by_cases h1:M32<fV .f32 x
    · have u:pE x=2:=by unfold pE;rw[if_pos hN,if_pos (.inl h1)]
      repeat' (intro hzz;(try (rename Two=>hq;cases hq));(try dsimp only at hzz);(try simp only[zac,zab,eqD,inR,big,zaa,Bool.not_true,Bool.not_false,Bool.true_eq,decide_eq_true_eq,decide_eq_false_iff_not,Bool.not_eq_true',Bool.not_eq_false',Bool.and_eq_true,Prod.mk.injEq,and_true,true_and,Int.not_lt,Int.not_le,gt_iff_lt,ge_iff_le] at hzz);(try simp only[zac,zab,eqD,inR,big,zaa,Bool.not_true,Bool.not_false,Bool.true_eq,decide_eq_true_eq,decide_eq_false_iff_not,Bool.not_eq_true',Bool.not_eq_false',Bool.and_eq_true,Prod.mk.injEq,and_true,true_and,Int.not_lt,Int.not_le,gt_iff_lt,ge_iff_le,o1,s1,g1,z,u] at hzz);(try (first|contradiction|(exfalso;omega)));(try (have hq:=zfp hzz;subst hq));(try (revert hzz;intro _)))
      all_goals try (rename Unit=>hq;clear hq)
      all_goals try ((with_reducible refine Held.mk ?_);(with_reducible (first|refine Frz.mk ?_|refine And.intro (Frz.mk ?_) ?_|refine And.intro ?_ (Frz.mk ?_)));repeat' first|exact True.intro|(change _=_;with_reducible rfl)|refine And.intro ?_ ?_|(with_reducible refine Frz.mk ?_))
      all_goals try (refine Held.mk ?_;(try dsimp only at *);(try simp only[zac,zab,eqD,inR,big,zaa,Bool.not_true,Bool.not_false,Bool.true_eq,decide_eq_true_eq,decide_eq_false_iff_not,Bool.not_eq_true',Bool.not_eq_false',Bool.and_eq_true,Prod.mk.injEq,and_true,true_and,Int.not_lt,Int.not_le,gt_iff_lt,ge_iff_le] at *);(try simp only[zac,zab,eqD,inR,big,zaa,Bool.not_true,Bool.not_false,Bool.true_eq,decide_eq_true_eq,decide_eq_false_iff_not,Bool.not_eq_true',Bool.not_eq_false',Bool.and_eq_true,Prod.mk.injEq,and_true,true_and,Int.not_lt,Int.not_le,gt_iff_lt,ge_iff_le,o1,s1,g1,z,u] at *))
      all_goals try omega
    · by_cases h2:fV .f32 x < -M32
      · have u:pE x=2:=by unfold pE;rw[if_pos hN,if_pos (.inr h2)]
        repeat' (intro hzz;(try (rename Two=>hq;cases hq));(try dsimp only at hzz);(try simp only[zac,zab,eqD,inR,big,zaa,Bool.not_true,Bool.not_false,Bool.true_eq,decide_eq_true_eq,decide_eq_false_iff_not,Bool.not_eq_true',Bool.not_eq_false',Bool.and_eq_true,Prod.mk.injEq,and_true,true_and,Int.not_lt,Int.not_le,gt_iff_lt,ge_iff_le] at hzz);(try simp only[zac,zab,eqD,inR,big,zaa,Bool.not_true,Bool.not_false,Bool.true_eq,decide_eq_true_eq,decide_eq_false_iff_not,Bool.not_eq_true',Bool.not_eq_false',Bool.and_eq_true,Prod.mk.injEq,and_true,true_and,Int.not_lt,Int.not_le,gt_iff_lt,ge_iff_le,o1,s1,g1,g2,z,u] at hzz);(try (first|contradiction|(exfalso;omega)));(try (have hq:=zfp hzz;subst hq));(try (revert hzz;intro _)))
        all_goals try (rename Unit=>hq;clear hq)
        all_goals try ((with_reducible refine Held.mk ?_);(with_reducible (first|refine Frz.mk ?_|refine And.intro (Frz.mk ?_) ?_|refine And.intro ?_ (Frz.mk ?_)));repeat' first|exact True.intro|(change _=_;with_reducible rfl)|refine And.intro ?_ ?_|(with_reducible refine Frz.mk ?_))
        all_goals try (refine Held.mk ?_;(try dsimp only at *);(try simp only[zac,zab,eqD,inR,big,zaa,Bool.not_true,Bool.not_false,Bool.true_eq,decide_eq_true_eq,decide_eq_false_iff_not,Bool.not_eq_true',Bool.not_eq_false',Bool.and_eq_true,Prod.mk.injEq,and_true,true_and,Int.not_lt,Int.not_le,gt_iff_lt,ge_iff_le] at *);(try simp only[zac,zab,eqD,inR,big,zaa,Bool.not_true,Bool.not_false,Bool.true_eq,decide_eq_true_eq,decide_eq_false_iff_not,Bool.not_eq_true',Bool.not_eq_false',Bool.and_eq_true,Prod.mk.injEq,and_true,true_and,Int.not_lt,Int.not_le,gt_iff_lt,ge_iff_le,o1,s1,g1,g2,z,u] at *))
        all_goals try omega
      · have ht:=zj1 h1 h2
        have f3:=zj3 hN (by omega) (by omega)
        have u:pE x=if fWh .f32 x=true then 0 else 27:=by unfold pE;rw[if_pos hN,if_neg (fun h=>h.elim h1 h2)]
        repeat' (intro hzz;(try (rename Two=>hq;cases hq));(try dsimp only at hzz);(try simp only[zac,zab,eqD,inR,big,zaa,Bool.not_true,Bool.not_false,Bool.true_eq,decide_eq_true_eq,decide_eq_false_iff_not,Bool.not_eq_true',Bool.not_eq_false',Bool.and_eq_true,Prod.mk.injEq,and_true,true_and,Int.not_lt,Int.not_le,gt_iff_lt,ge_iff_le] at hzz);(try simp only[zac,zab,eqD,inR,big,zaa,Bool.not_true,Bool.not_false,Bool.true_eq,decide_eq_true_eq,decide_eq_false_iff_not,Bool.not_eq_true',Bool.not_eq_false',Bool.and_eq_true,Prod.mk.injEq,and_true,true_and,Int.not_lt,Int.not_le,gt_iff_lt,ge_iff_le,o1,s1,g1,g2,f3,f2,z,u,Option.getD_some,Option.isSome_some] at hzz);(try (first|contradiction|(exfalso;omega)));(try (have hq:=zfp hzz;subst hq));(try (revert hzz;intro _)))
        all_goals try (rename Unit=>hq;clear hq)
        all_goals try ((with_reducible refine Held.mk ?_);(with_reducible (first|refine Frz.mk ?_|refine And.intro (Frz.mk ?_) ?_|refine And.intro ?_ (Frz.mk ?_)));repeat' first|exact True.intro|(change _=_;with_reducible rfl)|refine And.intro ?_ ?_|(with_reducible refine Frz.mk ?_))
        all_goals try (refine Held.mk ?_;(try dsimp only at *);(try simp only[zac,zab,eqD,inR,big,zaa,Bool.not_true,Bool.not_false,Bool.true_eq,decide_eq_true_eq,decide_eq_false_iff_not,Bool.not_eq_true',Bool.not_eq_false',Bool.and_eq_true,Prod.mk.injEq,and_true,true_and,Int.not_lt,Int.not_le,gt_iff_lt,ge_iff_le] at *);(try simp only[zac,zab,eqD,inR,big,zaa,Bool.not_true,Bool.not_false,Bool.true_eq,decide_eq_true_eq,decide_eq_false_iff_not,Bool.not_eq_true',Bool.not_eq_false',Bool.and_eq_true,Prod.mk.injEq,and_true,true_and,Int.not_lt,Int.not_le,gt_iff_lt,ge_iff_le,o1,s1,g1,g2,f3,f2,z,u,Option.getD_some,Option.isSome_some] at *))
        all_goals try omega
        unfold fWh
        cases decide (fT .f32 x*fS .f32=fV .f32 x)<;>rfl
  · have u:pE x=27:=if_neg hN
    rcases zoa hN with ⟨s,e⟩|⟨s,f,e⟩
    · have o1:=zmg (show (FloatKind.f32.format.order x x == some .eq)=true by rw[(zia e).1];rfl)
      have s1:=(zia e).2
      repeat' (intro hzz;(try (rename Two=>hq;cases hq));(try dsimp only at hzz);(try simp only[zac,zab,eqD,inR,big,zaa,Bool.not_true,Bool.not_false,Bool.true_eq,decide_eq_true_eq,decide_eq_false_iff_not,Bool.not_eq_true',Bool.not_eq_false',Bool.and_eq_true,Prod.mk.injEq,and_true,true_and,Int.not_lt,Int.not_le,gt_iff_lt,ge_iff_le] at hzz);(try simp only[zac,zab,eqD,inR,big,zaa,Bool.not_true,Bool.not_false,Bool.true_eq,decide_eq_true_eq,decide_eq_false_iff_not,Bool.not_eq_true',Bool.not_eq_false',Bool.and_eq_true,Prod.mk.injEq,and_true,true_and,Int.not_lt,Int.not_le,gt_iff_lt,ge_iff_le,o1,s1,u] at hzz);(try (first|contradiction|(exfalso;omega)));(try (exfalso;exact zoc (by assumption) hzz));(try (revert hzz;intro _)))
      all_goals try (rename Unit=>hq;clear hq)
      all_goals try ((with_reducible refine Held.mk ?_);(with_reducible (first|refine Frz.mk ?_|refine And.intro (Frz.mk ?_) ?_|refine And.intro ?_ (Frz.mk ?_)));repeat' first|exact True.intro|(change _=_;with_reducible rfl)|refine And.intro ?_ ?_|(with_reducible refine Frz.mk ?_))
      all_goals try (refine Held.mk ?_;(try dsimp only at *);(try simp only[zac,zab,eqD,inR,big,zaa,Bool.not_true,Bool.not_false,Bool.true_eq,decide_eq_true_eq,decide_eq_false_iff_not,Bool.not_eq_true',Bool.not_eq_false',Bool.and_eq_true,Prod.mk.injEq,and_true,true_and,Int.not_lt,Int.not_le,gt_iff_lt,ge_iff_le] at *);(try simp only[zac,zab,eqD,inR,big,zaa,Bool.not_true,Bool.not_false,Bool.true_eq,decide_eq_true_eq,decide_eq_false_iff_not,Bool.not_eq_true',Bool.not_eq_false',Bool.and_eq_true,Prod.mk.injEq,and_true,true_and,Int.not_lt,Int.not_le,gt_iff_lt,ge_iff_le,o1,s1,u] at *))
      all_goals try omega
    · have o1:(FloatKind.f32.format.order x x != some .eq)=true:=by rw[(zh9 e x).1];rfl
      repeat' (intro hzz;(try (rename Two=>hq;cases hq));(try dsimp only at hzz);(try simp only[zac,zab,eqD,inR,big,zaa,Bool.not_true,Bool.not_false,Bool.true_eq,decide_eq_true_eq,decide_eq_false_iff_not,Bool.not_eq_true',Bool.not_eq_false',Bool.and_eq_true,Prod.mk.injEq,and_true,true_and,Int.not_lt,Int.not_le,gt_iff_lt,ge_iff_le] at hzz);(try simp only[zac,zab,eqD,inR,big,zaa,Bool.not_true,Bool.not_false,Bool.true_eq,decide_eq_true_eq,decide_eq_false_iff_not,Bool.not_eq_true',Bool.not_eq_false',Bool.and_eq_true,Prod.mk.injEq,and_true,true_and,Int.not_lt,Int.not_le,gt_iff_lt,ge_iff_le,o1,u] at hzz);(try (first|contradiction|(exfalso;omega)));(try (revert hzz;intro _)))
      all_goals try (rename Unit=>hq;clear hq)
      all_goals try ((with_reducible refine Held.mk ?_);(with_reducible (first|refine Frz.mk ?_|refine And.intro (Frz.mk ?_) ?_|refine And.intro ?_ (Frz.mk ?_)));repeat' first|exact True.intro|(change _=_;with_reducible rfl)|refine And.intro ?_ ?_|(with_reducible refine Frz.mk ?_))
      all_goals try (refine Held.mk ?_;(try dsimp only at *);(try simp only[zac,zab,eqD,inR,big,zaa,Bool.not_true,Bool.not_false,Bool.true_eq,decide_eq_true_eq,decide_eq_false_iff_not,Bool.not_eq_true',Bool.not_eq_false',Bool.and_eq_true,Prod.mk.injEq,and_true,true_and,Int.not_lt,Int.not_le,gt_iff_lt,ge_iff_le] at *);(try simp only[zac,zab,eqD,inR,big,zaa,Bool.not_true,Bool.not_false,Bool.true_eq,decide_eq_true_eq,decide_eq_false_iff_not,Bool.not_eq_true',Bool.not_eq_false',Bool.and_eq_true,Prod.mk.injEq,and_true,true_and,Int.not_lt,Int.not_le,gt_iff_lt,ge_iff_le,o1,u] at *))
      all_goals try omega
def mx (xs:List Int):Nat→Int
  | 0=>xs.getD 0 0
  | k+1=>if xs.getD (k+1) 0>mx xs k then xs.getD (k+1) 0 else mx xs k
@[reducible] def sMax:Spec:={pats:=[.dat (.sl I64)],res:=[{t:=I64}],pre:=fun x=>0<List.length (α:=Int) x.1∧pLen (List.length (α:=Int) x.1),f:=fun x=>(mx x.1 (List.length (α:=Int) x.1 - 1),())}
theorem h89:Ok 56 sMax:=by
  refine mk (ctr:=[]) trivial (nt:=25) Try.func56 rfl rfl rfl rfl (by kernel_rfl) (by kernel_rfl) (fun x=>[fun _=>{σ:=Nat,pat:=fun k=>[sI 3 (mx x.1 k),sI 4 (k+1:Int)],inv:=fun k=>k+1≤List.length (α:=Int) x.1,meas:=fun k=>List.length (α:=Int) x.1 - k}]) ?_
  rintro⟨(xs:List Int),_⟩ ⟨(h1:0<xs.length),(h2:pLen xs.length)⟩
  have:=h2.out
  repeat' (intro hzz;(try (rename Two=>hq;cases hq));(try dsimp only at hzz);(try simp only[zac,zab,eqD,inR,big,zaa,Bool.not_true,Bool.not_false,Bool.true_eq,decide_eq_true_eq,decide_eq_false_iff_not,Bool.not_eq_true',Bool.not_eq_false',Bool.and_eq_true,Prod.mk.injEq,and_true,true_and,Int.not_lt,Int.not_le,gt_iff_lt,ge_iff_le] at hzz);(try simp only[zac,zab,eqD,inR,big,zaa,Bool.not_true,Bool.not_false,Bool.true_eq,decide_eq_true_eq,decide_eq_false_iff_not,Bool.not_eq_true',Bool.not_eq_false',Bool.and_eq_true,Prod.mk.injEq,and_true,true_and,Int.not_lt,Int.not_le,gt_iff_lt,ge_iff_le,za1] at hzz);(try (first|contradiction|(exfalso;omega)));(try (revert hzz;intro _)))
  all_goals try (rename Unit=>hq;clear hq)
  all_goals try ((with_reducible refine Held.mk ?_);(with_reducible (first|refine Frz.mk ?_|refine And.intro (Frz.mk ?_) ?_|refine And.intro ?_ (Frz.mk ?_)));repeat' first|exact True.intro|(change _=_;with_reducible rfl)|refine And.intro ?_ ?_|(with_reducible refine Frz.mk ?_))
  all_goals try (refine Held.mk ?_;(try dsimp only at *);(try simp only[zac,zab,eqD,inR,big,zaa,Bool.not_true,Bool.not_false,Bool.true_eq,decide_eq_true_eq,decide_eq_false_iff_not,Bool.not_eq_true',Bool.not_eq_false',Bool.and_eq_true,Prod.mk.injEq,and_true,true_and,Int.not_lt,Int.not_le,gt_iff_lt,ge_iff_le] at *);(try simp only[zac,zab,eqD,inR,big,zaa,Bool.not_true,Bool.not_false,Bool.true_eq,decide_eq_true_eq,decide_eq_false_iff_not,Bool.not_eq_true',Bool.not_eq_false',Bool.and_eq_true,Prod.mk.injEq,and_true,true_and,Int.not_lt,Int.not_le,gt_iff_lt,ge_iff_le,za1] at *))
  all_goals try omega
  ·
    refine zal.mk ?_
    refine Exists.intro 0 ?_
    refine And.intro (Leaf.mk ?_) ?_
    · repeat' first|exact True.intro|refine And.intro ?_ ?_
      all_goals try ((change _=_<;>try dsimp only)<;>try with_reducible rfl)
      all_goals try omega
      all_goals (rfl)
    exact h1
  · rename_i k hk hg
    refine zal.mk ?_
    refine Exists.intro (k+1) ?_
    refine And.intro (Leaf.mk ?_) ?_
    · repeat' first|exact True.intro|refine And.intro ?_ ?_
      all_goals try ((change _=_<;>try dsimp only)<;>try with_reducible rfl)
      all_goals try omega
      all_goals (rfl)
    exact⟨by show k+1+1≤xs.length;omega,by show xs.length - (k+1)<xs.length - k;omega⟩
  · rename_i k hk hg
    rw[show xs.length - 1=k from by omega]
def P2 (L:Int):Int:=2 ^ L.toNat
theorem lens {L:Int} (h:2≤L∧L≤8):L=2∨L=3∨L=4∨L=5∨L=6∨L=7∨L=8:=by omega
theorem ze0 {L:Int} (h:2≤L∧L≤8):4≤P2 L∧P2 L≤256:=by
  rcases lens h with rfl|rfl|rfl|rfl|rfl|rfl|rfl<;>decide
theorem znU {L:Int} (h:2≤L∧L≤8):shlN .i64 1 L=P2 L:=by
  rcases lens h with rfl|rfl|rfl|rfl|rfl|rfl|rfl<;>decide
theorem zmr (k:Nat):P2 k=2 ^ k:=rfl
theorem zoG (k:Nat):P2 (k+1:Nat)=2*P2 k:=by
  rw[zmr,zmr,Int.pow_succ,Int.mul_comm]
theorem zqF {k:Nat} (h:k≤8):1≤P2 k∧P2 k≤256:=by
  have:k=0∨k=1∨k=2∨k=3∨k=4∨k=5∨k=6∨k=7∨k=8:=by omega
  rcases this with rfl|rfl|rfl|rfl|rfl|rfl|rfl|rfl|rfl<;>decide
def most (L:Int):Int:=P2 L - 1
@[reducible] def zkh:Spec:={pats:=[.dat Reg],res:=[{t:=I64}],pre:=fun x=>2≤x.1.1.1∧x.1.1.1≤(8:Int),f:=fun x=>(most x.1.1.1,())}
theorem h94:Ok 25 zkh:=by
  refine mk (ctr:=[]) trivial (nt:=8) Try.func25 rfl rfl rfl rfl (by kernel_rfl) (by kernel_rfl) (fun _=>[]) ?_
  rintro⟨⟨⟨(L:Int),(xs:List Int),_⟩,_⟩,_⟩ (h:2≤L∧L≤8)
  have h1:=znU h
  have h2:=ze0 h
  repeat' (intro hzz;(try (rename Two=>hq;cases hq));(try dsimp only at hzz);(try simp only[zac,zab,eqD,inR,big,zaa,Bool.not_true,Bool.not_false,Bool.true_eq,decide_eq_true_eq,decide_eq_false_iff_not,Bool.not_eq_true',Bool.not_eq_false',Bool.and_eq_true,Prod.mk.injEq,and_true,true_and,Int.not_lt,Int.not_le,gt_iff_lt,ge_iff_le] at hzz);(try simp only[zac,zab,eqD,inR,big,zaa,Bool.not_true,Bool.not_false,Bool.true_eq,decide_eq_true_eq,decide_eq_false_iff_not,Bool.not_eq_true',Bool.not_eq_false',Bool.and_eq_true,Prod.mk.injEq,and_true,true_and,Int.not_lt,Int.not_le,gt_iff_lt,ge_iff_le,h1] at hzz);(try (revert hzz;intro _)))
  all_goals try (rename Unit=>hq;clear hq)
  all_goals try ((with_reducible refine Held.mk ?_);(with_reducible (first|refine Frz.mk ?_|refine And.intro (Frz.mk ?_) ?_|refine And.intro ?_ (Frz.mk ?_)));repeat' first|exact True.intro|(change _=_;with_reducible rfl)|refine And.intro ?_ ?_|(with_reducible refine Frz.mk ?_))
  all_goals try (refine Held.mk ?_;(try dsimp only at *);(try simp only[zac,zab,eqD,inR,big,zaa,Bool.not_true,Bool.not_false,Bool.true_eq,decide_eq_true_eq,decide_eq_false_iff_not,Bool.not_eq_true',Bool.not_eq_false',Bool.and_eq_true,Prod.mk.injEq,and_true,true_and,Int.not_lt,Int.not_le,gt_iff_lt,ge_iff_le] at *);(try simp only[zac,zab,eqD,inR,big,zaa,Bool.not_true,Bool.not_false,Bool.true_eq,decide_eq_true_eq,decide_eq_false_iff_not,Bool.not_eq_true',Bool.not_eq_false',Bool.and_eq_true,Prod.mk.injEq,and_true,true_and,Int.not_lt,Int.not_le,gt_iff_lt,ge_iff_le,h1] at *))
  all_goals first|omega|rfl|trace_state
@[reducible] def zmC:Spec:={pats:=[.dat Reg0],res:=[{t:=I64}],pre:=fun x=>2≤x.1.1∧x.1.1≤(8:Int),f:=fun x=>(most x.1.1,())}
theorem h68:Ok 6 zmC:=by
  refine mk (ctr:=[]) trivial (nt:=15) Try.func6 rfl rfl rfl rfl (by kernel_rfl) (by kernel_rfl) (fun x=>[fun _=>{σ:=Nat,pat:=fun k=>[sI 3 (P2 k),sI 4 k],inv:=fun k=>(k:Int)≤x.1.1,meas:=fun k=>(show Int from x.1.1).toNat - k}]) ?_
  rintro⟨⟨(L:Int),(xs:List Int),_⟩,_⟩ (h:2≤L∧L≤8)
  have h2:=ze0 h
  repeat' (intro hzz;(try (rename Two=>hq;cases hq));(try dsimp only at hzz);(try simp only[zac,zab,eqD,inR,big,zaa,Bool.not_true,Bool.not_false,Bool.true_eq,decide_eq_true_eq,decide_eq_false_iff_not,Bool.not_eq_true',Bool.not_eq_false',Bool.and_eq_true,Prod.mk.injEq,and_true,true_and,Int.not_lt,Int.not_le,gt_iff_lt,ge_iff_le] at hzz);(try (first|contradiction|(exfalso;omega)));(try (revert hzz;intro _)))
  all_goals try (rename Unit=>hq;clear hq)
  all_goals try ((with_reducible refine Held.mk ?_);(with_reducible (first|refine Frz.mk ?_|refine And.intro (Frz.mk ?_) ?_|refine And.intro ?_ (Frz.mk ?_)));repeat' first|exact True.intro|(change _=_;with_reducible rfl)|refine And.intro ?_ ?_|(with_reducible refine Frz.mk ?_))
  all_goals try (refine Held.mk ?_;(try dsimp only at *);(try simp only[zac,zab,eqD,inR,big,zaa,Bool.not_true,Bool.not_false,Bool.true_eq,decide_eq_true_eq,decide_eq_false_iff_not,Bool.not_eq_true',Bool.not_eq_false',Bool.and_eq_true,Prod.mk.injEq,and_true,true_and,Int.not_lt,Int.not_le,gt_iff_lt,ge_iff_le] at *))
  all_goals try omega
  ·
    refine zal.mk ?_
    refine Exists.intro 0 ?_
    refine And.intro (Leaf.mk ?_) ?_
    · repeat' first|exact True.intro|refine And.intro ?_ ?_
      all_goals try ((change _=_<;>try dsimp only)<;>try with_reducible rfl)
      all_goals try omega
      all_goals (rfl)
    show (0:Int)≤L
    omega
  · rename_i k hk hg
    have:=zmr k
    have:=zqF (k:=k) (by omega)
    omega
  · rename_i k hk hg
    refine zal.mk ?_
    refine Exists.intro (k+1) ?_
    refine And.intro (Leaf.mk ?_) ?_
    · repeat' first|exact True.intro|refine And.intro ?_ ?_
      all_goals try ((change _=_<;>try dsimp only)<;>try with_reducible rfl)
      all_goals try omega
      all_goals (exact (zoG k).symm)
    exact⟨by show ((k+1:Nat):Int)≤L;omega,by show L.toNat - (k+1)<L.toNat - k;omega⟩
  · rename_i k hk hg
    have hk:(k:Int)=L:=by omega
    rw[hk];omega
  · rename_i k hk hg
    have hk:(k:Int)=L:=by omega
    rw[hk];rfl
def regE (L:Int) (xs:List Int):Nat→Nat→Int
  | 0,_=>0
  | k+1,i=>if 1≤xs.getD i 0∧xs.getD i 0≤L then (if 0<i∧xs.getD i 0≤xs.getD (i - 1) 0 then 9 else regE L xs k (i+1)) else 2
def chk (L:Int) (xs:List Int):Int:=
  if 2≤L∧L≤8 then (if xs.length=0 then 10 else if regE L xs xs.length 0=0 then (if xs.getD (xs.length - 1) 0=L then 0 else 6) else regE L xs xs.length 0) else 2
theorem zbJ {L:Int} {xs:List Int}:∀ {k i:Nat},regE L xs k i=0→∀j,i≤j→j<i+k→1≤xs.getD j 0∧xs.getD j 0≤L∧(0<j→xs.getD (j - 1) 0<xs.getD j 0)
  | 0,i,_,j,h1,h2=>by omega
  | k + 1, i,h,j,h1,h2=>by
    simp only[regE] at h
    split at h
    · rename_i ha
      split at h
      · cases h
      · rename_i hb
        by_cases hj:j=i
        · subst hj
          exact⟨ha.1,ha.2,fun h0=>by omega⟩
        · exact zbJ h j (by omega) (by omega)
    · cases h
theorem znz {xs:List Int}:∀ {k:Nat},(∀j,0<j→j≤k→xs.getD (j - 1) 0<xs.getD j 0)→mx xs k=xs.getD k 0
  | 0,_=>rfl
  | k+1,h=>by
    have h1:=znz (k:=k) fun j h1 h2=>h j h1 (by omega)
    have h2:=h (k+1) (by omega) (Nat.le_refl _)
    simp only[Nat.add_sub_cancel] at h2
    simp only[mx,h1]
    rw[if_pos (by omega)]
theorem zbK {L:Int} {xs:List Int} {i:Nat} (h:i<xs.length):regE L xs (xs.length - i) i=if 1≤xs.getD i 0∧xs.getD i 0≤L then (if 0<i∧xs.getD i 0≤xs.getD (i - 1) 0 then 9 else regE L xs (xs.length - (i+1)) (i+1)) else 2:=by
  obtain⟨k,hk⟩:∃k,xs.length - i=k+1:=⟨xs.length - i - 1,by omega⟩
  rw[hk,show xs.length - (i+1)=k from by omega]
  rfl
theorem zin (xs:List Int) (i:Nat) (h:0<i):List.getD xs ((i:Int) - 1).toNat (Ty.dflt I64)=xs.getD (i - 1) 0:=by
  rw[show ((i:Int) - 1).toNat=i - 1 from by omega]
  rfl
@[reducible] def sChk:Spec:={pats:=[.dat Reg0],res:=[{t:=I64}],pre:=fun x=>pLen (List.length (α:=Int) x.1.2.1),f:=fun x=>(chk x.1.1 x.1.2.1,())}
theorem h21:Ok 43 sChk:=by
  refine mk (ctr:=[(37,zbB),(36,zct),(56,sMax)]) ⟨h86,h85,h89,trivial⟩ (nt:=50) Try.func43 rfl rfl rfl rfl (by kernel_rfl) (by kernel_rfl) (fun x=>[fun _=>{σ:=Nat,pat:=fun k=>[sI 18 k],inv:=fun k=>k≤List.length (α:=Int) x.1.2.1∧regE x.1.1 x.1.2.1 (List.length (α:=Int) x.1.2.1 - k) k=regE x.1.1 x.1.2.1 (List.length (α:=Int) x.1.2.1) 0,meas:=fun k=>List.length (α:=Int) x.1.2.1 - k}]) ?_
  rintro⟨⟨(L:Int),(xs:List Int),_⟩,_⟩ (hp:pLen xs.length)
  have:=hp.out
  repeat' (intro hzz;(try (rename Two=>hq;cases hq));(try dsimp only at hzz);(try simp only[zac,zab,eqD,inR,big,zaa,Bool.not_true,Bool.not_false,Bool.true_eq,decide_eq_true_eq,decide_eq_false_iff_not,Bool.not_eq_true',Bool.not_eq_false',Bool.and_eq_true,Prod.mk.injEq,and_true,true_and,Int.not_lt,Int.not_le,gt_iff_lt,ge_iff_le] at hzz);(try simp only[zac,zab,eqD,inR,big,zaa,Bool.not_true,Bool.not_false,Bool.true_eq,decide_eq_true_eq,decide_eq_false_iff_not,Bool.not_eq_true',Bool.not_eq_false',Bool.and_eq_true,Prod.mk.injEq,and_true,true_and,Int.not_lt,Int.not_le,gt_iff_lt,ge_iff_le,zag,za1] at hzz);(try (first|contradiction|(exfalso;omega)));(try (revert hzz;intro _)))
  all_goals try (rename Unit=>hq;clear hq)
  all_goals try ((with_reducible refine Held.mk ?_);(with_reducible (first|refine Frz.mk ?_|refine And.intro (Frz.mk ?_) ?_|refine And.intro ?_ (Frz.mk ?_)));repeat' first|exact True.intro|(change _=_;with_reducible rfl)|refine And.intro ?_ ?_|(with_reducible refine Frz.mk ?_))
  all_goals try (refine Held.mk ?_;(try dsimp only at *);(try simp only[zac,zab,eqD,inR,big,zaa,Bool.not_true,Bool.not_false,Bool.true_eq,decide_eq_true_eq,decide_eq_false_iff_not,Bool.not_eq_true',Bool.not_eq_false',Bool.and_eq_true,Prod.mk.injEq,and_true,true_and,Int.not_lt,Int.not_le,gt_iff_lt,ge_iff_le] at *);(try simp only[zac,zab,eqD,inR,big,zaa,Bool.not_true,Bool.not_false,Bool.true_eq,decide_eq_true_eq,decide_eq_false_iff_not,Bool.not_eq_true',Bool.not_eq_false',Bool.and_eq_true,Prod.mk.injEq,and_true,true_and,Int.not_lt,Int.not_le,gt_iff_lt,ge_iff_le,zag,za1] at *))
  all_goals try omega
  · rename_i h;rw[chk,if_neg h]
  · rename_i h1 h;rw[chk,if_pos h1,if_pos (by omega)]
  · rename_i h1 h
    refine zal.mk ?_
    refine Exists.intro 0 ?_
    refine And.intro (Leaf.mk ?_) ?_
    · repeat' first|exact True.intro|refine And.intro ?_ ?_
      all_goals try ((change _=_<;>try dsimp only)<;>try with_reducible rfl)
      all_goals try omega
    exact⟨Nat.zero_le _,rfl⟩
  · rename_i h1 h2 k hk hg h
    have e:=hk.2
    rw[zbK (by omega),if_neg h] at e
    rw[chk,if_pos h1,if_neg (by omega),←e];rfl
  · rename_i h1 h2 k hk hg h3 h4 h5
    have e:=hk.2
    rw[zin xs k (by omega)] at h5
    rw[zbK (by omega),if_pos h3,if_pos ⟨by omega,h5⟩] at e
    rw[chk,if_pos h1,if_neg (by omega),←e];rfl
  · rename_i h1 h2 k hk hg h3 h4 h5
    have e:=hk.2
    rw[zin xs k (by omega)] at h5
    rw[zbK (by omega),if_pos h3,if_neg (by omega)] at e
    refine zal.mk ?_
    refine Exists.intro (k+1) ?_
    refine And.intro (Leaf.mk ?_) ?_
    · repeat' first|exact True.intro|refine And.intro ?_ ?_
      all_goals try ((change _=_<;>try dsimp only)<;>try with_reducible rfl)
      all_goals try omega
    exact⟨⟨by show k+1≤xs.length;omega,e⟩,by show xs.length - (k+1)<xs.length - k;omega⟩
  · rename_i h1 h2 k hk hg h3 h4
    have e:=hk.2
    rw[zbK (by omega),if_pos h3,if_neg (by omega)] at e
    refine zal.mk ?_
    refine Exists.intro (k+1) ?_
    refine And.intro (Leaf.mk ?_) ?_
    · repeat' first|exact True.intro|refine And.intro ?_ ?_
      all_goals try ((change _=_<;>try dsimp only)<;>try with_reducible rfl)
      all_goals try omega
    exact⟨⟨by show k+1≤xs.length;omega,e⟩,by show xs.length - (k+1)<xs.length - k;omega⟩
  · exact⟨by omega,hp⟩
  · rename_i h1 h2 k hk hg
    have e:=hk.2
    rw[show xs.length - k=0 from by omega] at e
    have e:regE L xs xs.length 0=0:=e.symm
    have hz:=zbJ e
    show (bif decide (mx xs (xs.length - 1)=L) then (0:Int) else 6)=chk L xs
    rw[znz (fun j h3 h4=>(hz j (by omega) (by omega)).2.2 h3),chk,if_pos h1,if_neg (by omega),if_pos e]
    by_cases h:xs.getD (xs.length - 1) 0=L<;>simp[h]
theorem zpz (xs:List Int) (h:¬(xs.length:Int)=0):List.getD xs ((xs.length:Int) - 1).toNat (Ty.dflt I64)=xs.getD (xs.length - 1) 0:=zin xs xs.length (by omega)
theorem h22:Ok 40 sChk:=by
  refine mk (ctr:=[(20,zbB)]) ⟨h25,trivial⟩ (nt:=55) Try.func40 rfl rfl rfl rfl (by kernel_rfl) (by kernel_rfl) (fun x=>[fun _=>{σ:=Nat,pat:=fun k=>[sI 3 k],inv:=fun k=>k≤List.length (α:=Int) x.1.2.1∧regE x.1.1 x.1.2.1 (List.length (α:=Int) x.1.2.1 - k) k=regE x.1.1 x.1.2.1 (List.length (α:=Int) x.1.2.1) 0,meas:=fun k=>List.length (α:=Int) x.1.2.1 - k}]) ?_
  rintro⟨⟨(L:Int),(xs:List Int),_⟩,_⟩ (hp:pLen xs.length)
  have:=hp.out
  repeat' (intro hzz;(try (rename Two=>hq;cases hq));(try dsimp only at hzz);(try simp only[zac,zab,eqD,inR,big,zaa,Bool.not_true,Bool.not_false,Bool.true_eq,decide_eq_true_eq,decide_eq_false_iff_not,Bool.not_eq_true',Bool.not_eq_false',Bool.and_eq_true,Prod.mk.injEq,and_true,true_and,Int.not_lt,Int.not_le,gt_iff_lt,ge_iff_le] at hzz);(try simp only[zac,zab,eqD,inR,big,zaa,Bool.not_true,Bool.not_false,Bool.true_eq,decide_eq_true_eq,decide_eq_false_iff_not,Bool.not_eq_true',Bool.not_eq_false',Bool.and_eq_true,Prod.mk.injEq,and_true,true_and,Int.not_lt,Int.not_le,gt_iff_lt,ge_iff_le,zag,za1] at hzz);(try (first|contradiction|(exfalso;omega)));(try (revert hzz;intro _)))
  all_goals try (rename Unit=>hq;clear hq)
  all_goals try ((with_reducible refine Held.mk ?_);(with_reducible (first|refine Frz.mk ?_|refine And.intro (Frz.mk ?_) ?_|refine And.intro ?_ (Frz.mk ?_)));repeat' first|exact True.intro|(change _=_;with_reducible rfl)|refine And.intro ?_ ?_|(with_reducible refine Frz.mk ?_))
  all_goals try (refine Held.mk ?_;(try dsimp only at *);(try simp only[zac,zab,eqD,inR,big,zaa,Bool.not_true,Bool.not_false,Bool.true_eq,decide_eq_true_eq,decide_eq_false_iff_not,Bool.not_eq_true',Bool.not_eq_false',Bool.and_eq_true,Prod.mk.injEq,and_true,true_and,Int.not_lt,Int.not_le,gt_iff_lt,ge_iff_le] at *);(try simp only[zac,zab,eqD,inR,big,zaa,Bool.not_true,Bool.not_false,Bool.true_eq,decide_eq_true_eq,decide_eq_false_iff_not,Bool.not_eq_true',Bool.not_eq_false',Bool.and_eq_true,Prod.mk.injEq,and_true,true_and,Int.not_lt,Int.not_le,gt_iff_lt,ge_iff_le,zag,za1] at *))
  all_goals try omega
  · rename_i h;rw[chk,if_neg h]
  · rename_i h1 h;rw[chk,if_pos h1,if_pos (by omega)]
  · rename_i h1 h
    refine zal.mk ?_
    refine Exists.intro 0 ?_
    refine And.intro (Leaf.mk ?_) ?_
    · repeat' first|exact True.intro|refine And.intro ?_ ?_
      all_goals try ((change _=_<;>try dsimp only)<;>try with_reducible rfl)
      all_goals try omega
    exact⟨Nat.zero_le _,rfl⟩
  · rename_i h1 h2 k hk hg h
    have e:=hk.2
    rw[zbK (by omega),if_neg h] at e
    rw[chk,if_pos h1,if_neg (by omega),←e];rfl
  · rename_i h1 h2 k hk hg h3 h4 h5
    have e:=hk.2
    rw[zin xs k (by omega)] at h5
    rw[zbK (by omega),if_pos h3,if_pos ⟨by omega,h5⟩] at e
    rw[chk,if_pos h1,if_neg (by omega),←e];rfl
  · rename_i h1 h2 k hk hg h3 h4 h5
    have e:=hk.2
    rw[zin xs k (by omega)] at h5
    rw[zbK (by omega),if_pos h3,if_neg (by omega)] at e
    refine zal.mk ?_
    refine Exists.intro (k+1) ?_
    refine And.intro (Leaf.mk ?_) ?_
    · repeat' first|exact True.intro|refine And.intro ?_ ?_
      all_goals try ((change _=_<;>try dsimp only)<;>try with_reducible rfl)
      all_goals try omega
    exact⟨⟨by show k+1≤xs.length;omega,e⟩,by show xs.length - (k+1)<xs.length - k;omega⟩
  · rename_i h1 h2 k hk hg h3 h4
    have e:=hk.2
    rw[zbK (by omega),if_pos h3,if_neg (by omega)] at e
    refine zal.mk ?_
    refine Exists.intro (k+1) ?_
    refine And.intro (Leaf.mk ?_) ?_
    · repeat' first|exact True.intro|refine And.intro ?_ ?_
      all_goals try ((change _=_<;>try dsimp only)<;>try with_reducible rfl)
      all_goals try omega
    exact⟨⟨by show k+1≤xs.length;omega,e⟩,by show xs.length - (k+1)<xs.length - k;omega⟩
  · rename_i h1 h2 k hk hg h
    have e:=hk.2
    rw[show xs.length - k=0 from by omega] at e
    have e:regE L xs xs.length 0=0:=e.symm
    rw[zpz xs h2] at h
    rw[chk,if_pos h1,if_neg (by omega),if_pos e,if_neg h]
  · rename_i h1 h2 k hk hg h
    have e:=hk.2
    rw[show xs.length - k=0 from by omega] at e
    have e:regE L xs xs.length 0=0:=e.symm
    rw[zpz xs h2] at h
    rw[chk,if_pos h1,if_neg (by omega),if_pos e,if_pos h]
theorem zaq {L:Int} {xs:List Int} (h:chk L xs=0):(2≤L∧L≤8)∧0<xs.length∧regE L xs xs.length 0=0∧xs.getD (xs.length - 1) 0=L:=by
  unfold chk at h
  split at h
  · rename_i h1
    split at h
    · cases h
    · split at h
      · rename_i h2 h3
        split at h
        · rename_i h4;exact⟨h1,by omega,h3,h4⟩
        · cases h
      · rename_i h3;exact absurd h h3
  · cases h
def ziR (L s:Int):Int:=if 1≤s∧s≤most L then 0 else 2
@[reducible] def zno:Spec:={pats:=[.dat Reg,.dat I64],res:=[{t:=I64}],pre:=fun x=>2≤x.1.1.1∧x.1.1.1≤(8:Int),f:=fun x=>(ziR x.1.1.1 x.2.1,())}
theorem h144:Ok 44 zno:=by
  refine mk (ctr:=[(37,zbB),(36,zct),(25,zkh)]) ⟨h86,h85,h94,trivial⟩ (nt:=10) Try.func44 rfl rfl rfl rfl (by kernel_rfl) (by kernel_rfl) (fun _=>[]) ?_
  rintro⟨⟨⟨(L:Int),(xs:List Int),_⟩,_⟩,(s:Int),_⟩ (h:2≤L∧L≤8)
  repeat' (intro hzz;(try (rename Two=>hq;cases hq));(try dsimp only at hzz);(try simp only[zac,zab,eqD,inR,big,zaa,Bool.not_true,Bool.not_false,Bool.true_eq,decide_eq_true_eq,decide_eq_false_iff_not,Bool.not_eq_true',Bool.not_eq_false',Bool.and_eq_true,Prod.mk.injEq,and_true,true_and,Int.not_lt,Int.not_le,gt_iff_lt,ge_iff_le] at hzz);(try simp only[zac,zab,eqD,inR,big,zaa,Bool.not_true,Bool.not_false,Bool.true_eq,decide_eq_true_eq,decide_eq_false_iff_not,Bool.not_eq_true',Bool.not_eq_false',Bool.and_eq_true,Prod.mk.injEq,and_true,true_and,Int.not_lt,Int.not_le,gt_iff_lt,ge_iff_le,zag] at hzz);(try (revert hzz;intro _)))
  all_goals try (rename Unit=>hq;clear hq)
  all_goals try ((with_reducible refine Held.mk ?_);(with_reducible (first|refine Frz.mk ?_|refine And.intro (Frz.mk ?_) ?_|refine And.intro ?_ (Frz.mk ?_)));repeat' first|exact True.intro|(change _=_;with_reducible rfl)|refine And.intro ?_ ?_|(with_reducible refine Frz.mk ?_))
  all_goals try (refine Held.mk ?_;(try dsimp only at *);(try simp only[zac,zab,eqD,inR,big,zaa,Bool.not_true,Bool.not_false,Bool.true_eq,decide_eq_true_eq,decide_eq_false_iff_not,Bool.not_eq_true',Bool.not_eq_false',Bool.and_eq_true,Prod.mk.injEq,and_true,true_and,Int.not_lt,Int.not_le,gt_iff_lt,ge_iff_le] at *);(try simp only[zac,zab,eqD,inR,big,zaa,Bool.not_true,Bool.not_false,Bool.true_eq,decide_eq_true_eq,decide_eq_false_iff_not,Bool.not_eq_true',Bool.not_eq_false',Bool.and_eq_true,Prod.mk.injEq,and_true,true_and,Int.not_lt,Int.not_le,gt_iff_lt,ge_iff_le,zag] at *))
  · exact h
  · by_cases h1:1≤s∧s≤most L<;>simp[ziR,h1]
def zci (L:Int) (xs:List Int) (s:Int):Int:=if chk L xs=0 then ziR L s else chk L xs
@[reducible] def zn0:Spec:={pats:=[.dat Reg0,.dat I64],res:=[{t:=Reg},{t:=I64}],pre:=fun x=>pLen (List.length (α:=Int) x.1.2.1),f:=fun x=>((x.1,()),zci x.1.1 x.1.2.1 x.2.1,())}
theorem h83:Ok 23 zn0:=by
  refine mk (ctr:=[(43,sChk),(44,zno)]) ⟨h21,h144,trivial⟩ (nt:=20) Try.func23 rfl rfl rfl rfl (by kernel_rfl) (by kernel_rfl) (fun _=>[]) ?_
  rintro⟨⟨(L:Int),(xs:List Int),_⟩,(s:Int),_⟩ (hp:pLen xs.length)
  repeat' (intro hzz;(try (rename Two=>hq;cases hq));(try dsimp only at hzz);(try simp only[zac,zab,eqD,inR,big,zaa,Bool.not_true,Bool.not_false,Bool.true_eq,decide_eq_true_eq,decide_eq_false_iff_not,Bool.not_eq_true',Bool.not_eq_false',Bool.and_eq_true,Prod.mk.injEq,and_true,true_and,Int.not_lt,Int.not_le,gt_iff_lt,ge_iff_le] at hzz);(try (first|contradiction|(exfalso;omega)));(try (revert hzz;intro _)))
  all_goals try (rename Unit=>hq;clear hq)
  all_goals try ((with_reducible refine Held.mk ?_);(with_reducible (first|refine Frz.mk ?_|refine And.intro (Frz.mk ?_) ?_|refine And.intro ?_ (Frz.mk ?_)));repeat' first|exact True.intro|(change _=_;with_reducible rfl)|refine And.intro ?_ ?_|(with_reducible refine Frz.mk ?_))
  all_goals try (refine Held.mk ?_;(try dsimp only at *);(try simp only[zac,zab,eqD,inR,big,zaa,Bool.not_true,Bool.not_false,Bool.true_eq,decide_eq_true_eq,decide_eq_false_iff_not,Bool.not_eq_true',Bool.not_eq_false',Bool.and_eq_true,Prod.mk.injEq,and_true,true_and,Int.not_lt,Int.not_le,gt_iff_lt,ge_iff_le] at *))
  all_goals try omega
  · rename_i h;exact (if_neg h).symm
  · rename_i h;exact (zaq h).1
  · rename_i h;exact (if_pos h).symm
@[reducible] def zk7:Spec:={pats:=[.dat Reg0,.dat I64],res:=[{t:=I64}],pre:=fun x=>pLen (List.length (α:=Int) x.1.2.1),f:=fun x=>(zci x.1.1 x.1.2.1 x.2.1,())}
theorem h23:Ok 18 zk7:=by
  refine mk (ctr:=[(40,sChk),(6,zmC),(20,zbB)]) ⟨h22,h68,h25,trivial⟩ (nt:=16) Try.func18 rfl rfl rfl rfl (by kernel_rfl) (by kernel_rfl) (fun _=>[]) ?_
  rintro⟨⟨(L:Int),(xs:List Int),_⟩,(s:Int),_⟩ (hp:pLen xs.length)
  repeat' (intro hzz;(try (rename Two=>hq;cases hq));(try dsimp only at hzz);(try simp only[zac,zab,eqD,inR,big,zaa,Bool.not_true,Bool.not_false,Bool.true_eq,decide_eq_true_eq,decide_eq_false_iff_not,Bool.not_eq_true',Bool.not_eq_false',Bool.and_eq_true,Prod.mk.injEq,and_true,true_and,Int.not_lt,Int.not_le,gt_iff_lt,ge_iff_le] at hzz);(try simp only[zac,zab,eqD,inR,big,zaa,Bool.not_true,Bool.not_false,Bool.true_eq,decide_eq_true_eq,decide_eq_false_iff_not,Bool.not_eq_true',Bool.not_eq_false',Bool.and_eq_true,Prod.mk.injEq,and_true,true_and,Int.not_lt,Int.not_le,gt_iff_lt,ge_iff_le,zag] at hzz);(try (first|contradiction|(exfalso;omega)));(try (revert hzz;intro _)))
  all_goals try (rename Unit=>hq;clear hq)
  all_goals try ((with_reducible refine Held.mk ?_);(with_reducible (first|refine Frz.mk ?_|refine And.intro (Frz.mk ?_) ?_|refine And.intro ?_ (Frz.mk ?_)));repeat' first|exact True.intro|(change _=_;with_reducible rfl)|refine And.intro ?_ ?_|(with_reducible refine Frz.mk ?_))
  all_goals try (refine Held.mk ?_;(try dsimp only at *);(try simp only[zac,zab,eqD,inR,big,zaa,Bool.not_true,Bool.not_false,Bool.true_eq,decide_eq_true_eq,decide_eq_false_iff_not,Bool.not_eq_true',Bool.not_eq_false',Bool.and_eq_true,Prod.mk.injEq,and_true,true_and,Int.not_lt,Int.not_le,gt_iff_lt,ge_iff_le] at *);(try simp only[zac,zab,eqD,inR,big,zaa,Bool.not_true,Bool.not_false,Bool.true_eq,decide_eq_true_eq,decide_eq_false_iff_not,Bool.not_eq_true',Bool.not_eq_false',Bool.and_eq_true,Prod.mk.injEq,and_true,true_and,Int.not_lt,Int.not_le,gt_iff_lt,ge_iff_le,zag] at *))
  all_goals try omega
  · rename_i h;exact (if_neg h).symm
  · rename_i h;exact (zaq h).1
  · rename_i h0 h;rw[zci,if_pos h0,ziR,if_neg h]
  · rename_i h0 h;rw[zci,if_pos h0,ziR,if_pos h]
@[reducible] def zo5:Spec:={pats:=[.dat Reg0],res:=[{t:=Reg0}],pre:=fun x=>pLen (List.length (α:=Int) x.1.2.1)∧List.length (α:=Int) x.1.2.1≤2000000000,f:=fun x=>(x.1,())}
theorem h19:Ok 10 zo5:=by
  refine mk (ctr:=[(29,zh2)]) ⟨h36,trivial⟩ (nt:=9) Try.func10 rfl rfl rfl rfl (by kernel_rfl) (by kernel_rfl) (fun _=>[]) ?_
  rintro⟨⟨(L:Int),(xs:List Int),_⟩,_⟩ (hp:pLen xs.length∧xs.length≤2000000000)
  repeat' (intro hzz;(try (rename Two=>hq;cases hq));(try dsimp only at hzz);(try simp only[zac,zab,eqD,inR,big,zaa,Bool.not_true,Bool.not_false,Bool.true_eq,decide_eq_true_eq,decide_eq_false_iff_not,Bool.not_eq_true',Bool.not_eq_false',Bool.and_eq_true,Prod.mk.injEq,and_true,true_and,Int.not_lt,Int.not_le,gt_iff_lt,ge_iff_le] at hzz);(try (first|contradiction|(exfalso;omega)));(try (revert hzz;intro _)))
  all_goals try (rename Unit=>hq;clear hq)
  all_goals try ((with_reducible refine Held.mk ?_);(with_reducible (first|refine Frz.mk ?_|refine And.intro (Frz.mk ?_) ?_|refine And.intro ?_ (Frz.mk ?_)));repeat' first|exact True.intro|(change _=_;with_reducible rfl)|refine And.intro ?_ ?_|(with_reducible refine Frz.mk ?_))
  all_goals try (refine Held.mk ?_;(try dsimp only at *);(try simp only[zac,zab,eqD,inR,big,zaa,Bool.not_true,Bool.not_false,Bool.true_eq,decide_eq_true_eq,decide_eq_false_iff_not,Bool.not_eq_true',Bool.not_eq_false',Bool.and_eq_true,Prod.mk.injEq,and_true,true_and,Int.not_lt,Int.not_le,gt_iff_lt,ge_iff_le] at *))
  all_goals try omega
theorem and1 {n:Int} (h0:0≤n) (h1:n<256):bits .and .i64 n 1=n % 2:=by
  have all:(List.range 256).all (fun n=>decide (bits .and .i64 (n:Int) 1=(n:Int) % 2))=true:=by decide +kernel
  rw[List.all_eq_true] at all
  have:=all n.toNat (List.mem_range.2 (by omega))
  rw[decide_eq_true_eq,Int.toNat_of_nonneg h0] at this
  exact this
theorem zp2 {m n:Int} (h0:0≤m∧m<2) (h1:0≤n∧n<2):bits .xor .i64 m n=(m+n) % 2:=by
  have hm:m=0∨m=1:=by omega
  have hn:n=0∨n=1:=by omega
  rcases hm with rfl|rfl<;>rcases hn with rfl|rfl<;>decide +kernel
theorem zpr {a b:Int} {k:Nat} (hk:k<8) (h0:0≤a) (h1:a<2 ^ k) (h2:b=0∨b=1):bits .or .i64 a (b*2 ^ k)=a+b*2 ^ k:=by
  have all:(List.range 8).all (fun k=>(List.range (2 ^ k)).all fun a=>decide (bits .or .i64 (a:Int) (0*2 ^ k)=(a:Int)+0*2 ^ k)&&decide (bits .or .i64 (a:Int) (1*2 ^ k)=(a:Int)+1*2 ^ k))=true:=by decide +kernel
  rw[List.all_eq_true] at all
  have h3:=all k (List.mem_range.2 hk)
  rw[List.all_eq_true] at h3
  have ha:((a.toNat:Nat):Int)=a:=Int.toNat_of_nonneg h0
  have hlt:a.toNat<2 ^ k:=by
    have:((a.toNat:Nat):Int)<((2 ^ k:Nat):Int):=by rw[ha];exact_mod_cast h1
    exact_mod_cast this
  have h4:=h3 a.toNat (List.mem_range.2 hlt)
  rw[Bool.and_eq_true,decide_eq_true_eq,decide_eq_true_eq,ha] at h4
  rcases h2 with rfl|rfl
  · exact h4.1
  · exact h4.2
theorem zk4 {s n:Int} (h0:0≤n) (h1:n≤60):shrN .i64 s n=s / 2 ^ n.toNat:=by
  unfold shrN
  rw[show min n.toNat IntKind.i64.bits=n.toNat from Nat.min_eq_left (by show n.toNat≤64;omega)]
  exact Int.fdiv_eq_ediv_of_nonneg _ (Int.pow_nonneg (by omega))
theorem zk5 {s n:Int} (h0:0≤n) (h1:n≤60):shlN .i64 s n=s*2 ^ n.toNat:=by
  unfold shlN
  rw[show min n.toNat IntKind.i64.bits=n.toNat from Nat.min_eq_left (by show n.toNat≤64;omega)]
def ze1 (L s t:Int):Int:=s / 2 ^ (L - t).toNat % 2
def parK (L:Int) (xs:List Int) (s:Int):Nat→Int
  | 0=>0
  | k+1=>(parK L xs s k+ze1 L s (xs.getD k 0)) % 2
def nxt (L:Int) (xs:List Int) (s:Int):Int:=s / 2+parK L xs s xs.length*2 ^ (L - 1).toNat
theorem zdl (L:Int) (xs:List Int) (s:Int):∀k,0≤parK L xs s k∧parK L xs s k<2
  | 0=>by simp[parK]
  | k+1=>by simp only[parK];omega
theorem zeb {L:Int} (h:2≤L∧L≤8):P2 L=2*2 ^ (L - 1).toNat:=by
  rcases lens h with rfl|rfl|rfl|rfl|rfl|rfl|rfl<;>decide
theorem zpu {L:Int} {xs:List Int} {s:Int} (h:2≤L∧L≤8) (h0:0≤s) (h1:s<P2 L):0≤nxt L xs s∧nxt L xs s<P2 L:=by
  have e:=zeb h
  have hp:(0:Int)<2 ^ (L - 1).toNat:=Int.pow_pos (by omega)
  rcases (show parK L xs s xs.length=0∨parK L xs s xs.length=1 from by have:=zdl L xs s xs.length;omega) with hb|hb<;>(rw[nxt,hb];omega)
def pSt (L:Int) (xs:List Int) (s:Int):Prop:=chk L xs=0∧pLen xs.length∧0≤s∧s<P2 L
@[reducible] def zoZ:Spec:={pats:=[.dat Reg,.dat I64],res:=[{t:=I64}],pre:=fun x=>pSt x.1.1.1 x.1.1.2.1 x.2.1,f:=fun x=>(nxt x.1.1.1 x.1.1.2.1 x.2.1,())}
theorem h146:Ok 59 zoZ:=by
  refine mk (ctr:=[]) trivial (nt:=36) Try.func59 rfl rfl rfl rfl (by kernel_rfl) (by kernel_rfl) (fun x=>[fun _=>{σ:=Nat,pat:=fun k=>[sI 12 k,sI 5 (parK x.1.1.1 x.1.1.2.1 x.2.1 k)],inv:=fun k=>k≤List.length (α:=Int) x.1.1.2.1,meas:=fun k=>List.length (α:=Int) x.1.1.2.1 - k}]) ?_
  rintro⟨⟨⟨(L:Int),(xs:List Int),_⟩,_⟩,(s:Int),_⟩ (hp:pSt L xs s)
  obtain⟨hc,hl,hs0,hs1⟩:=hp
  obtain⟨hL,hlen,hz,hlast⟩:=zaq hc
  have hz:=zbJ hz
  have:=hl.out
  have hP:=ze0 hL
  repeat' (intro hzz;(try (rename Two=>hq;cases hq));(try dsimp only at hzz);(try simp only[zac,zab,eqD,inR,big,zaa,Bool.not_true,Bool.not_false,Bool.true_eq,decide_eq_true_eq,decide_eq_false_iff_not,Bool.not_eq_true',Bool.not_eq_false',Bool.and_eq_true,Prod.mk.injEq,and_true,true_and,Int.not_lt,Int.not_le,gt_iff_lt,ge_iff_le] at hzz);(try simp only[zac,zab,eqD,inR,big,zaa,Bool.not_true,Bool.not_false,Bool.true_eq,decide_eq_true_eq,decide_eq_false_iff_not,Bool.not_eq_true',Bool.not_eq_false',Bool.and_eq_true,Prod.mk.injEq,and_true,true_and,Int.not_lt,Int.not_le,gt_iff_lt,ge_iff_le,za1] at hzz);(try (first|contradiction|(exfalso;omega)));(try (revert hzz;intro _)))
  all_goals try (rename Unit=>hq;clear hq)
  all_goals try ((with_reducible refine Held.mk ?_);(with_reducible (first|refine Frz.mk ?_|refine And.intro (Frz.mk ?_) ?_|refine And.intro ?_ (Frz.mk ?_)));repeat' first|exact True.intro|(change _=_;with_reducible rfl)|refine And.intro ?_ ?_|(with_reducible refine Frz.mk ?_))
  all_goals try (refine Held.mk ?_;(try dsimp only at *);(try simp only[zac,zab,eqD,inR,big,zaa,Bool.not_true,Bool.not_false,Bool.true_eq,decide_eq_true_eq,decide_eq_false_iff_not,Bool.not_eq_true',Bool.not_eq_false',Bool.and_eq_true,Prod.mk.injEq,and_true,true_and,Int.not_lt,Int.not_le,gt_iff_lt,ge_iff_le] at *);(try simp only[zac,zab,eqD,inR,big,zaa,Bool.not_true,Bool.not_false,Bool.true_eq,decide_eq_true_eq,decide_eq_false_iff_not,Bool.not_eq_true',Bool.not_eq_false',Bool.and_eq_true,Prod.mk.injEq,and_true,true_and,Int.not_lt,Int.not_le,gt_iff_lt,ge_iff_le,za1] at *))
  all_goals try omega
  ·
    refine zal.mk ?_
    refine Exists.intro 0 ?_
    refine And.intro (Leaf.mk ?_) ?_
    · repeat' first|exact True.intro|refine And.intro ?_ ?_
      all_goals try ((change _=_<;>try dsimp only)<;>try with_reducible rfl)
      all_goals try omega
      all_goals (rfl)
    exact Nat.zero_le _
  · rename_i k hk hg
    have:=hz k (by omega) (by omega)
    omega
  · rename_i k hk hg
    have:=hz k (by omega) (by omega)
    omega
  · rename_i k hk hg
    have ht:=hz k (by omega) (by omega)
    have key:bits .xor .i64 (parK L xs s k) (bits .and .i64 (shrN .i64 s (L - xs.getD k 0)) 1)=parK L xs s (k+1):=by
      rw[zk4 (by omega) (by omega)]
      have hd0:0≤s / 2 ^ (L - xs.getD k 0).toNat:=Int.ediv_nonneg hs0 (Int.pow_nonneg (by omega))
      have hd1:s / 2 ^ (L - xs.getD k 0).toNat≤s:=Int.ediv_le_self _ hs0
      rw[and1 hd0 (by omega),zp2 (zdl L xs s k) (by omega)]
      rfl
    refine zal.mk ?_
    refine Exists.intro (k+1) ?_
    refine And.intro (Leaf.mk ?_) ?_
    · repeat' first|exact True.intro|refine And.intro ?_ ?_
      all_goals try ((change _=_<;>try dsimp only)<;>try with_reducible rfl)
      all_goals try omega
      all_goals (exact key)
    exact⟨by show k+1≤xs.length;omega,by show xs.length - (k+1)<xs.length - k;omega⟩
  · rename_i k hk hg
    have hb:=zdl L xs s k
    have e:=zeb hL
    have hp:(0:Int)<2 ^ (L - 1).toNat:=Int.pow_pos (by omega)
    rw[zk5 (by omega) (by omega)]
    rcases (show parK L xs s k=0∨parK L xs s k=1 from by omega) with hb|hb<;>(rw[hb];omega)
  · rename_i k hk hg
    have hkl:k=xs.length:=by omega
    subst hkl
    have hb:=zdl L xs s xs.length
    have e:=zeb hL
    have hp:(0:Int)<2 ^ (L - 1).toNat:=Int.pow_pos (by omega)
    show bits .or .i64 (shrN .i64 s 1) (shlN .i64 (parK L xs s xs.length) (L - 1))=nxt L xs s
    rw[zk5 (by omega) (by omega),zk4 (by omega) (by omega)]
    rw[show (2:Int) ^ (1:Int).toNat=2 from rfl]
    exact zpr (by omega) (by omega) (by omega) (by omega)
def stI (L:Int) (xs:List Int) (s:Int):Nat→Int
  | 0=>s
  | i+1=>nxt L xs (stI L xs s i)
theorem zbn {L:Int} {xs:List Int} {s:Int} (h:pSt L xs s):∀i,pSt L xs (stI L xs s i)
  | 0=>h
  | i+1=>by
    obtain⟨h1,h2,h3,h4⟩:=zbn h i
    exact⟨h1,h2,zpu (zaq h1).1 h3 h4⟩
@[reducible] def zjS:ISpec:={rd:=[(0,0,I64),(1,0,Reg)],e:=I64,seq:=fun x i=>stI x.2.1.1.1 x.2.1.1.2.1 x.1 i,len:=fun _=>none,pre:=fun x=>pSt x.2.1.1.1 x.2.1.1.2.1 x.1}
structure Slots (a:Act) (y p q:Value) (s:Int):Prop where
  size:12≤a.tmps.size
  defers:a.defers=[]
  y:a.tmps.getD 0 undef=y
  p:a.tmps.getD 1 undef=p
  q:a.tmps.getD 2 undef=q
  s:a.tmps.getD 4 undef=.int .i64 s
theorem zaw {a:Act} {t u:Nat} {v:Value} (h:t<a.tmps.size):(a.put (some t) v).tmps.getD u undef=if u=t then v else a.tmps.getD u undef:=by
  simp only[Act.put,Array.getD_eq_getD_getElem?]
  by_cases hu:u=t
  · subst hu;simp[h]
  · rw[if_neg hu,Array.getElem?_setIfInBounds_ne (Ne.symm hu)]
theorem za2 (a:Act) (t:Nat) (v:Value):(a.put (some t) v).tmps.size=a.tmps.size:=by simp[Act.put]
theorem zl6:zdw Try.prog 59:=h146.2
theorem zlC {w:World} {V:View} (hV:∀b c,V b c→∃el f,w.heap[b]?=some (.cells c el f)) {r:Reg.Den} {s:Int} {ys:List Value} (hr:Rep V Reg r ys) (hp:pSt r.1.1 r.1.2.1 s) :
    Calls Try.prog 59 #[.agg ys.toArray,.int .i64 s] w fun e w'=>e=.returned (.int .i64 (nxt r.1.1 r.1.2.1 s))∧OwnStep w w' [] []:=by
  have h:=h146.1 w (fun _=>False) (r,(s,())) [.agg ys.toArray,.int .i64 s] [] (fun _ h=>h.elim)
    ⟨.agg ys.toArray,[.int .i64 s],rfl,⟨ys,Rep.mono (fun b c h=>⟨fun h=>h,hV b c h⟩) _ _ _ hr,.inl ⟨rfl,rfl⟩⟩,⟨.int .i64 s,[],rfl,RepV.mk1 rfl rfl,rfl,rfl⟩⟩ hp
  refine h.mono fun e w' ⟨rs,g,h1,h2,h3⟩=>?_
  obtain⟨v,vs',h4,h5,h6,h7⟩:=h3
  subst h6
  subst h4
  obtain⟨l,hl,⟨hf,_⟩|⟨_,hv⟩⟩:=h5
  · cases hf
  have hl:l=[.int .i64 (nxt r.1.1 r.1.2.1 s)]:=hl
  rw[hl] at hv
  have hv:v=_:=(List.cons.inj hv).1.symm
  subst hv
  exact⟨h1,h2.os,h2.tape,h2.output,h2.size,fun b hb _=>h2.keep b hb (by simp),fun p hp=>by cases hp⟩
theorem zjD {w:World} {vs:List Value} {x:(rdTy zjS.rd).Den} (h:zc8 zjS.rd w vs x):∃V:View,(∀b c,V b c→∃el f,w.heap[b]?=some (.cells c el f))∧
    (∃ad:Addr,vs[0]?=some (.pointer (some ad))∧(loadVar 3 ad).run Try.prog w=.ok (.int .i64 x.1) w)∧
    ∃(ad:Addr) (ys:List Value),vs[1]?=some (.pointer (some ad))∧Rep V Reg x.2.1 ys∧(loadVar 70 ad).run Try.prog w=.ok (.agg ys.toArray) w:=by
  obtain⟨V,hV,⟨b,off,h1,ys,h2,h3,h4⟩,⟨b',off',h1',ys',h2',h3',h4'⟩,_⟩:=h
  refine⟨V,hV,⟨⟨b,off,none⟩,h1,?_⟩,⟨b',off',none⟩,ys',h1',h2',?_⟩
  · have h2:ys=[.int .i64 x.1]:=h2
    exact zaY row3 rfl (by have:=h4 0 (.int .i64 x.1) (by rw[h2];rfl);simpa using this)
  · exact zbw zpb rfl (by rw[h3'];rfl) (fun j v hj=>by rw[zaJ];have:=h4' j v hj;simpa using this)
section
variable {P:Program} {Q:Exit→Act→World→Prop} {a:Act} {w:World} {K:Act→World→Prop}
theorem zec {o:Oper} {v:Value} (hnd:∀d,o.op≠.defer d) (hr:(execOp a.eval o).run P w=.ok (.value v) w) (h:K (a.put o.dst v) w):o.wpIn (Fw none) 0 P a w K Q:=
  zau hnd hr h
theorem zmL {o:Oper} {f:Nat} {args:Array Value} (hnd:∀d,o.op≠.defer d) (hr:(execOp a.eval o).run P w=.ok (.enter f args) w)
    (h:Calls P f args w fun e w'=>∃v,e=.returned v∧K (a.put o.dst v) w'):o.wpIn (Fw none) 0 P a w K Q:=
  zau hnd hr ⟨fun h=>(by cases h),zgh (h.mono fun e w' ⟨v,h1,h2⟩=>by subst h1;exact h2)⟩
theorem zjJ {o:Oper} {l f:Nat} {tmps:Array Value} {assign body:Code} (hnd:∀d,o.op≠.defer d) (hr:(execOp a.eval o).run P w=.ok (.round l f tmps assign body) w)
    (h:RoundIn (Fw none) 0 P l f tmps assign body w fun e w'=>∃v,e=.returned v∧K (a.put o.dst v) w'):o.wpIn (Fw none) 0 P a w K Q:=
  zau hnd hr ⟨fun h=>(by cases h),RoundIn.mono h (fun e w' ⟨v,h1,h2⟩=>by subst h1;exact h2)⟩
theorem zdC {ops:Array Oper} (h:Q .normal a w):wpListIn (Fw none) 0 P ops Q [] a w:=h
theorem za4 {ops:Array Oper} {o:Oper} {rest:List Oper} (hg:o.guard=none) (h:o.wpIn (Fw none) 0 P a w (wpListIn (Fw none) 0 P ops Q rest) Q):wpListIn (Fw none) 0 P ops Q (o::rest) a w:=by
  have hw:Region.wanted o (yielded ops a.tmps)=true:=by simp[Region.wanted,hg]
  simp only[wpListIn,hw,if_true]
  exact h
end
theorem zqC:zg2 Try.prog 67 zjS:=by
  intro fv cv x l N J Jx W hnb _ hpre hJ hJa hJxa hJN hY hJ0
  have hfv:fv=[]:=List.eq_nil_of_length_eq_zero hnb
  subst hfv
  obtain⟨s0,r,u⟩:=x
  have hpre:pSt r.1.1 r.1.2.1 s0:=hpre
  obtain⟨V0,hV0,⟨adp,hp0,hpl⟩,adq,yq,hq0,hqr,hql⟩:=zjD (hJ 0 [] W hJ0).1
  have rd:∀i W,J i [] W→(loadVar 3 adp).run Try.prog W=.ok (.int .i64 s0) W∧∃(V:View) (ys:List Value),(∀b c,V b c→∃el f,W.heap[b]?=some (.cells c el f))∧Rep V Reg r ys∧(loadVar 70 adq).run Try.prog W=.ok (.agg ys.toArray) W:=by
    intro i W h
    obtain⟨V,hV,⟨ad,h1,h2⟩,ad',ys,h3,h4,h5⟩:=zjD (hJ i [] W h).1
    rw[hp0] at h1
    rw[hq0] at h3
    have e1:adp=ad:=by simpa using h1
    have e2:adq=ad':=by simpa using h3
    subst e1 e2
    exact⟨h2,V,ys,hV,h4,h5⟩
  obtain⟨y,hy⟩:∃y,y=Value.func (.yield l) #[] #[]:=⟨_,rfl⟩
  refine callsIn_of_wp (F:=Fw none) (n:=0) (fn:=Try.f67) Try.func67 rfl trivial ?_
  rw[←hy]
  obtain⟨a0,ha0⟩:∃a0:Act,a0 = {tmps:=([]:List Value).toArray ++ #[y]++cv.toArray++Array.replicate (Try.f67.ntmps - (([]:List Value).toArray ++ #[y]++cv.toArray).size) undef,defers:=[]}:=⟨_,rfl⟩
  rw[←ha0]
  have hsz:12≤a0.tmps.size:=by
    have:Try.f67.ntmps=12:=rfl
    rw[ha0];simp[this];omega
  have hc0:cv[0]?=some (.pointer (some adp)):=hp0
  have hc1:cv[1]?=some (.pointer (some adq)):=hq0
  have g0:a0.tmps.getD 0 undef=y:=by
    rw[ha0]
    simp only[Array.getD_eq_getD_getElem?]
    rw[Array.getElem?_append_left (by simp),Array.getElem?_append_left (by simp)]
    rfl
  have g1:a0.tmps.getD 1 undef=.pointer (some adp):=by
    have hl:0<cv.length:=(List.getElem?_eq_some_iff.1 hc0).1
    rw[ha0]
    simp only[Array.getD_eq_getD_getElem?]
    rw[Array.getElem?_append_left (by simp;omega),Array.getElem?_append_right (by simp)]
    simp[hc0]
  have g2:a0.tmps.getD 2 undef=.pointer (some adq):=by
    have hl:1<cv.length:=(List.getElem?_eq_some_iff.1 hc1).1
    rw[ha0]
    simp only[Array.getD_eq_getD_getElem?]
    rw[Array.getElem?_append_left (by simp;omega),Array.getElem?_append_right (by simp)]
    simp[hc1]
  have hd0:a0.defers=[]:=by rw[ha0]
  have ev:∀(a:Act) (t:Nat),a.eval (.tmp t)=a.tmps.getD t undef:=fun a t=>rfl
  have evf:∀(a:Act) (t:Nat),a.eval (.func t)=.func (.func t) #[] #[]:=fun a t=>rfl
  refine wpIn_seq (wpIn_region_list ?_)
  refine za4 rfl (zec (v:=.int .i64 s0) (by intro d h;cases h) ?_ ?_)
  · simp[execOp,ev,g1,Instr.loadAt,Instr.sureAddr,(rd 0 W hJ0).1]
  refine za4 rfl (zec (v:=.int .i64 s0) (by intro d h;cases h) ?_ ?_)
  · simp[execOp,ev,zaw (show 5<a0.tmps.size by omega)]
  obtain⟨a1,ha1⟩:∃a1:Act,a1=(a0.put (some 5) (.int .i64 s0)).put (some 4) (.int .i64 s0):=⟨_,rfl⟩
  have S1:Slots a1 y (.pointer (some adp)) (.pointer (some adq)) s0:=by
    rw[ha1]
    constructor
    · simpa only [za2] using hsz
    · exact hd0
    all_goals (rw[zaw (by simp only[za2];omega)];first|rfl|rw[if_neg (by decide),zaw (by omega),if_neg (by decide)];assumption)
  refine zdC ?_
  show Code.wpIn (Fw none) 0 Try.prog _ _ ((a0.put (some 5) (.int .i64 s0)).put (some 4) (.int .i64 s0)) W
  rw[←ha1]
  refine wpIn_block (zdQ (fun n a w=>∃i,J i [] w∧n=N - i∧Slots a y (.pointer (some adp)) (.pointer (some adq)) (stI r.1.1 r.1.2.1 s0 i)) ⟨0,hJ0,rfl,S1⟩ ?_)
  rintro n a w ⟨i,hJi,rfl,S⟩
  have hsz:=S.size
  obtain⟨fl,tl,al,bl,hrun,hround⟩:=hY i [] w hJi (fun L hL=>by cases hL)
  refine wpIn_seq (wpIn_seq (wpIn_region_list ?_))
  refine za4 rfl (zec (v:=y) (by intro d h;cases h) ?_ ?_)
  · simp[execOp,ev,S.y]
  refine za4 rfl (zec (v:=.int .i64 (stI r.1.1 r.1.2.1 s0 i)) (by intro d h;cases h) ?_ ?_)
  · simp[execOp,ev,zaw (show 6<a.tmps.size by omega),S.s]
  obtain⟨a2,ha2⟩:∃a2:Act,a2=(a.put (some 6) y).put (some 7) (.int .i64 (stI r.1.1 r.1.2.1 s0 i)):=⟨_,rfl⟩
  have h6:a2.tmps.getD 6 undef=y:=by rw[ha2,zaw (by simp only[za2];omega),if_neg (by decide),zaw (by omega)];rfl
  have h7:a2.tmps.getD 7 undef=.int .i64 (stI r.1.1 r.1.2.1 s0 i):=by rw[ha2,zaw (by simp only[za2];omega)];rfl
  have S2:Slots a2 y (.pointer (some adp)) (.pointer (some adq)) (stI r.1.1 r.1.2.1 s0 i):=by
    rw[ha2]
    constructor
    · simpa only [za2] using hsz
    · exact S.defers
    all_goals (rw[zaw (by simp only[za2];omega),if_neg (by decide),zaw (by omega),if_neg (by decide)])
    · exact S.y
    · exact S.p
    · exact S.q
    · exact S.s
  show wpListIn (Fw none) 0 Try.prog _ _ [_] ((a.put (some 6) y).put (some 7) (.int .i64 (stI r.1.1 r.1.2.1 s0 i))) w
  rw[←ha2]
  refine za4 rfl (zjJ (l:=l) (f:=fl) (tmps:=tl) (assign:=al) (body:=bl) (by intro d h;cases h) ?_ (RoundIn.mono hround ?_))
  · simp[execOp,resolve,Deferred.ofValue,ev,h6,h7,hy,invoke,callFunc]
    exact hrun
  rintro e w2 (⟨rfl,hJ2⟩|⟨rfl,hJx2⟩)
  · refine ⟨.bool true,rfl,zdC ?_⟩
    obtain⟨a3,ha3⟩:∃a3:Act,a3=a2.put (some 8) (.bool true):=⟨_,rfl⟩
    have hsz2:=S2.size
    have S3:Slots a3 y (.pointer (some adp)) (.pointer (some adq)) (stI r.1.1 r.1.2.1 s0 i):=by
      rw[ha3]
      constructor
      · simpa only [za2] using hsz2
      · exact S2.defers
      all_goals (rw[zaw (by omega),if_neg (by decide)])
      · exact S2.y
      · exact S2.p
      · exact S2.q
      · exact S2.s
    have h8:a3.eval (.tmp 8)=.bool true:=by rw[ev,ha3,zaw (by omega)];rfl
    show Code.wpIn (Fw none) 0 Try.prog _ _ (a2.put (some 8) (.bool true)) w2
    rw[←ha3]
    refine wpIn_cond_true h8 (wpIn_skip ?_)
    show Code.wpIn (Fw none) 0 Try.prog _ _ a3 w2
    obtain⟨_,V,ys,hV,hr,hl⟩:=rd (i+1) w2 hJ2
    have hsz3:=S3.size
    refine wpIn_block (wpIn_region_list ?_)
    refine za4 rfl (zec (v:=.agg ys.toArray) (by intro d h;cases h) ?_ ?_)
    · simp[execOp,ev,S3.q,Instr.loadAt,Instr.sureAddr,hl]
    refine za4 rfl (zec (v:=.int .i64 (stI r.1.1 r.1.2.1 s0 i)) (by intro d h;cases h) ?_ ?_)
    · simp[execOp,ev,zaw (show 9<a3.tmps.size by omega),S3.s]
    refine za4 rfl (zmL (f:=59) (args:=#[.agg ys.toArray,.int .i64 (stI r.1.1 r.1.2.1 s0 i)]) (by intro d h;cases h) ?_ ?_)
    · obtain⟨fn,e1,e2,e3⟩:=zl6
      have e2':¬fn.name = "runtime.NumGoroutine" := by simpa using e2
      have e3':¬fn.body=none:=by intro hn;rw[hn] at e3;cases e3
      have q9:((a3.put (some 9) (.agg ys.toArray)).put (some 10) (.int .i64 (stI r.1.1 r.1.2.1 s0 i))).tmps.getD 9 undef=.agg ys.toArray:=by rw[zaw (by simp only[za2];omega),if_neg (by decide),zaw (by omega)];rfl
      have q10:((a3.put (some 9) (.agg ys.toArray)).put (some 10) (.int .i64 (stI r.1.1 r.1.2.1 s0 i))).tmps.getD 10 undef=.int .i64 (stI r.1.1 r.1.2.1 s0 i):=by rw[zaw (by simp only[za2];omega)];rfl
      simp[execOp,resolve,Deferred.ofValue,ev,q9,q10,evf,invoke,callFunc,e1,e2',e3']
    refine (zlC hV hr (zbn hpre i)).mono ?_
    rintro e w3 ⟨rfl,hown⟩
    refine⟨_,rfl,?_⟩
    refine za4 rfl (zec (v:=.int .i64 (stI r.1.1 r.1.2.1 s0 (i+1))) (by intro d h;cases h) ?_ (zdC ?_))
    · have q11:(((a3.put (some 9) (.agg ys.toArray)).put (some 10) (.int .i64 (stI r.1.1 r.1.2.1 s0 i))).put (some 11) (.int .i64 (nxt r.1.1 r.1.2.1 (stI r.1.1 r.1.2.1 s0 i)))).tmps.getD 11 undef=.int .i64 (stI r.1.1 r.1.2.1 s0 (i+1)):=by
        rw[zaw (by simp only[za2];omega)];rfl
      simp only[execOp,ev,q11]
      rfl
    have hlt:i+1<N:=hJN (i+1) [] w2 hJ2
    refine⟨N - (i+1),by omega,i+1,hJa (i+1) [] [] w2 w3 hJ2 hown,rfl,?_⟩
    constructor
    · simpa only [za2] using hsz3
    · exact S3.defers
    all_goals (rw[zaw (by simp only[za2];omega)])
    all_goals try (rw[if_neg (by decide),zaw (by simp only[za2];omega),if_neg (by decide),zaw (by simp only[za2];omega),if_neg (by decide),zaw (by omega),if_neg (by decide)])
    · exact S3.y
    · exact S3.p
    · exact S3.q
    · rfl
  · refine⟨.bool false,rfl,zdC ?_⟩
    have hsz2:=S2.size
    have h8:(a2.put (some 8) (.bool false)).eval (.tmp 8)=.bool false:=by rw[ev,zaw (by omega)];rfl
    refine wpIn_cond_false h8 (wpIn_exit ?_)
    exact⟨S2.defers,.tuple #[],zcO (fn:=Try.f67) (vs:=[]) rfl,⟨_,rfl⟩,.inr ⟨i,[],hJx2⟩⟩
theorem zl5:zdw Try.prog 67:=⟨Try.f67,Try.func67,by kernel_rfl,by kernel_rfl⟩
@[reducible] def xS:Xt:={its:=[(67,zjS)],clos:=[(67,[I64,Reg])]}
theorem znK:Its xS.its:=⟨⟨zqC,zl5⟩,trivial⟩
def tab {α:Type} (f:Nat→α):Nat→List α
  | 0=>[]
  | k+1=>tab f k++[f k]
def sm (f:Nat→Int):Nat→Int
  | 0=>0
  | k+1=>sm f k+f k
theorem zae {α:Type} (f:Nat→α):∀k,(tab f k).length=k
  | 0=>rfl
  | k+1=>by simp[tab,zae f k]
theorem zaE {α:Type} (f:Nat→α) (d:α):∀k i,i<k→(tab f k).getD i d=f i
  | 0,i,h=>by omega
  | k + 1,i,h=>by
    simp only[tab,List.getD_eq_getElem?_getD]
    by_cases hi:i<k
    · rw[List.getElem?_append_left (by rw[zae];exact hi)]
      have:=zaE f d k i hi
      rwa [List.getD_eq_getElem?_getD] at this
    · have:i=k:=by omega
      subst this
      rw[List.getElem?_append_right (by rw[zae];omega),zae]
      simp
theorem zaG {α:Type} {f g:Nat→α}:∀k,(∀i,i<k→f i=g i)→tab f k=tab g k
  | 0,_=>rfl
  | k+1,h=>by simp only[tab];rw[zaG k (fun i hi=>h i (by omega)),h k (by omega)]
theorem zam {f g:Nat→Int}:∀k,(∀i,i<k→f i=g i)→sm f k=sm g k
  | 0,_=>rfl
  | k+1,h=>by simp only[sm];rw[zam k (fun i hi=>h i (by omega)),h k (by omega)]
theorem zlt:∀(n:Nat) (f:Nat→Nat),(∀i,i≤n→f i<n)→∃i j,i<j∧j≤n∧f i=f j
  | 0,f,h=>by have:=h 0 (Nat.le_refl 0);omega
  | n + 1,f,h=>by
    by_cases hx:∃i,i≤n∧f i=f (n+1)
    · obtain⟨i,h1,h2⟩:=hx
      exact⟨i,n+1,by omega,Nat.le_refl _,h2⟩
    · let g:Nat→Nat:=fun i=>if f i=n then f (n+1) else f i
      have hg:∀i,i≤n→g i<n:=by
        intro i hi
        have h1:=h i (by omega)
        have h2:=h (n+1) (Nat.le_refl _)
        have h3:f i≠f (n+1):=fun e=>hx ⟨i,hi,e⟩
        show (if f i=n then f (n+1) else f i)<n
        split<;>omega
      obtain⟨i,j,h1,h2,h3⟩:=zlt n g hg
      refine⟨i,j,h1,by omega,?_⟩
      have e3:(if f i=n then f (n+1) else f i)=(if f j=n then f (n+1) else f j):=h3
      have hi:f i≠f (n+1):=fun e=>hx ⟨i,by omega,e⟩
      have hj:f j≠f (n+1):=fun e=>hx ⟨j,by omega,e⟩
      split at e3<;>split at e3<;>omega
theorem zh8 {L:Int} {xs:List Int} {s s':Int} (hs:s / 2=s' / 2):∀k,(∀j,j<k→1≤xs.getD j 0∧xs.getD j 0<L)→parK L xs s k=parK L xs s' k
  | 0,_=>rfl
  | k + 1,h=>by
    have ih:=zh8 hs k (fun j hj=>h j (by omega))
    have ht:=h k (by omega)
    have e:ze1 L s (xs.getD k 0)=ze1 L s' (xs.getD k 0):=by
      unfold ze1
      obtain⟨m,hm⟩:∃m:Nat,(L - xs.getD k 0).toNat=m+1:=⟨(L - xs.getD k 0).toNat - 1,by omega⟩
      rw[hm,Int.pow_succ,Int.mul_comm,←Int.ediv_ediv_of_nonneg (by omega),←Int.ediv_ediv_of_nonneg (by omega),hs]
    simp only[parK,ih,e]
theorem zly {L:Int} {xs:List Int} {s s':Int} (h:pSt L xs s) (h':pSt L xs s') (he:nxt L xs s=nxt L xs s'):s=s':=by
  obtain⟨hL,hlen,hz,hlast⟩:=zaq h.1
  have hz:=zbJ hz
  have hp:=zeb hL
  have hpos:(0:Int)<2 ^ (L - 1).toNat:=Int.pow_pos (by omega)
  have b1:=zdl L xs s xs.length
  have b2:=zdl L xs s' xs.length
  have r1:=h.2.2
  have r2:=h'.2.2
  have hd:s / 2=s' / 2∧parK L xs s xs.length=parK L xs s' xs.length:=by
    unfold nxt at he
    rcases (show parK L xs s xs.length=0∨parK L xs s xs.length=1 from by omega) with e1|e1 <;>
      rcases (show parK L xs s' xs.length=0∨parK L xs s' xs.length=1 from by omega) with e2|e2<;>(rw[e1,e2] at he ⊢;omega)
  obtain⟨k,hk⟩:∃k,xs.length=k+1:=⟨xs.length - 1,by omega⟩
  have hlast':xs.getD k 0=L:=by rw[←hlast,hk];rfl
  have hasc:∀j,j<k→xs.getD j 0<L:=by
    have mono:∀d j,j+d=k→0<d→xs.getD j 0<xs.getD k 0:=by
      intro d
      induction d with
      | zero=>intro j _ h0;omega
      | succ d ih=>
        intro j hj _
        have h1:=(hz (j+1) (by omega) (by omega)).2.2 (by omega)
        simp only[Nat.add_sub_cancel] at h1
        by_cases hd0:d=0
        · have:j+1=k:=by omega
          rw[←this];exact h1
        · have:=ih (j+1) (by omega) (by omega)
          omega
    intro j hj
    have:=mono (k - j) j (by omega) (by omega)
    omega
  have e1:=zh8 (L:=L) (xs:=xs) hd.1 k (fun j hj=>⟨(hz j (by omega) (by omega)).1,hasc j hj⟩)
  have e2:=hd.2
  rw[hk] at e2
  simp only[parK,e1,hlast',ze1,show L - L=0 from by omega] at e2
  have e3:∀t:Int,t / 2 ^ (0:Int).toNat % 2=t % 2:=fun t=>by
    rw[show (2:Int) ^ (0:Int).toNat=1 from rfl,Int.ediv_one]
  rw[e3,e3] at e2
  have:=zdl L xs s' k
  omega
theorem zcL (L:Int) (xs:List Int) (s:Int) (i:Nat):∀j,stI L xs (stI L xs s i) j=stI L xs s (i+j)
  | 0=>rfl
  | j+1=>by simp only[stI,zcL L xs s i j,Nat.add_eq,←Nat.add_assoc]
theorem zkX (L:Int) (xs:List Int) (s:Int) (j:Nat):stI L xs (nxt L xs s) j=stI L xs s (j+1):=by
  have:=zcL L xs s 1 j
  rw[show j+1=1+j from by omega,←this];rfl
theorem zjn {L:Int} {xs:List Int} {s:Int} (h:pSt L xs s) (d:Nat):∀i,stI L xs s i=stI L xs s (i+d)→stI L xs s d=s
  | 0,e=>by rw[Nat.zero_add] at e;exact e.symm
  | i+1,e=>by
    refine zjn h d i (zly (zbn h i) (zbn h (i+d)) ?_)
    rw[show i+1+d=(i+d)+1 from by omega] at e
    exact e
theorem zkw {L:Int} {xs:List Int} {s:Int} (h:pSt L xs s):∃i:Nat,0<i∧(i:Int)≤P2 L∧stI L xs s i=s:=by
  have hL:=(zaq h.1).1
  have hP:=ze0 hL
  have hst:=zbn h
  obtain⟨i,j,h1,h2,h3⟩:=zlt (P2 L).toNat (fun i=>(stI L xs s i).toNat) (fun i _=>by have:=(hst i).2.2;omega)
  have h3:(stI L xs s i).toNat=(stI L xs s j).toNat:=h3
  have e:stI L xs s i=stI L xs s j:=by have:=(hst i).2.2;have:=(hst j).2.2;omega
  refine⟨j - i,by omega,by omega,zjn h (j - i) i ?_⟩
  rw[show i+(j - i)=j from by omega]
  exact e
def zd1 (p:Nat→Bool):Nat→Nat→Nat
  | 0,i=>i
  | k+1,i=>if p i=true then i else zd1 p k (i+1)
theorem zfb {p:Nat→Bool}:∀ {k i j:Nat},i≤j→j<i+k→p j=true→p (zd1 p k i)=true∧i≤zd1 p k i∧zd1 p k i≤j∧∀m,i≤m→m<zd1 p k i→p m=false
  | 0,i,j,h1,h2,_=>by omega
  | k + 1,i,j,h1,h2,h3=>by
    simp only[zd1]
    split
    · rename_i h;exact⟨h,Nat.le_refl _,h1,fun m h4 h5=>by omega⟩
    · rename_i h
      have hne:i≠j:=fun e=>h (e▸h3)
      obtain⟨q1,q2,q3,q4⟩:=zfb (k:=k) (i:=i+1) (by omega) (by omega) h3
      refine⟨q1,by omega,q3,fun m h4 h5=>?_⟩
      by_cases hm:m=i
      · subst hm;simpa using h
      · exact q4 m (by omega) h5
def per (L:Int) (xs:List Int) (s:Int):Nat:=zd1 (fun i=>decide (stI L xs s i=s)) 256 1
theorem zbx {L:Int} {xs:List Int} {s:Int} (h:pSt L xs s):stI L xs s (per L xs s)=s∧1≤per L xs s∧(per L xs s:Int)≤P2 L∧∀m,1≤m→m<per L xs s→stI L xs s m≠s:=by
  obtain⟨i,h1,h2,h3⟩:=zkw h
  have hP:=ze0 (zaq h.1).1
  obtain⟨q1,q2,q3,q4⟩:=zfb (p:=fun i=>decide (stI L xs s i=s)) (k:=256) (i:=1) (j:=i) h1 (by omega) (by simpa using h3)
  refine⟨of_decide_eq_true q1,q2,by unfold per;omega,fun m h4 h5=>?_⟩
  have:=q4 m h4 h5
  simpa using this
abbrev StT:Ty:=.clo 67 (.cons (.ptr I64) (.cons (.ptr Reg) .nil))
@[reducible] def ziW:Spec:={pats:=[.dat Reg,.dat I64],res:=[{t:=StT}],pre:=fun _=>True,f:=fun x=>((x.2.1,(x.1,())),())}
theorem h145:Ok 58 ziW:=by
  refine mkX (X:=xS) (hX:=znK) (ctr:=[]) trivial (nt:=6) Try.func58 rfl rfl rfl rfl (by kernel_rfl) (by kernel_rfl) (fun _=>[]) ?_
  rintro⟨⟨⟨(L:Int),(xs:List Int),_⟩,_⟩,(s:Int),_⟩ _
  repeat' (intro hzz;(try (rename Two=>hq;cases hq));(try dsimp only at hzz);(try simp only[zac,zab,eqD,inR,big,zaa,Bool.not_true,Bool.not_false,Bool.true_eq,decide_eq_true_eq,decide_eq_false_iff_not,Bool.not_eq_true',Bool.not_eq_false',Bool.and_eq_true,Prod.mk.injEq,and_true,true_and,Int.not_lt,Int.not_le,gt_iff_lt,ge_iff_le] at hzz);(try (revert hzz;intro _)))
  all_goals try (rename Unit=>hq;clear hq)
  all_goals try ((with_reducible refine Held.mk ?_);(with_reducible (first|refine Frz.mk ?_|refine And.intro (Frz.mk ?_) ?_|refine And.intro ?_ (Frz.mk ?_)));repeat' first|exact True.intro|(change _=_;with_reducible rfl)|refine And.intro ?_ ?_|(with_reducible refine Frz.mk ?_))
  all_goals try (refine Held.mk ?_;(try dsimp only at *);(try simp only[zac,zab,eqD,inR,big,zaa,Bool.not_true,Bool.not_false,Bool.true_eq,decide_eq_true_eq,decide_eq_false_iff_not,Bool.not_eq_true',Bool.not_eq_false',Bool.and_eq_true,Prod.mk.injEq,and_true,true_and,Int.not_lt,Int.not_le,gt_iff_lt,ge_iff_le] at *))
abbrev cOwn (key off k el:Nat) (xs:List Int):St:=[.cell key off (.o k xs.length),.row k el I64 xs]
def bitI (L:Int) (xs:List Int) (s:Int) (i:Nat):Int:=stI L xs s i % 2
@[reducible] def zo8:Spec:={pats:=[.dat Reg,.dat I64,.dat I64],res:=[{own:=some 3,t:=.sl I64}],pre:=fun x=>pSt x.1.1.1 x.1.1.2.1 x.2.1∧0≤x.2.2.1∧x.2.2.1≤(1024:Int),f:=fun x=>(tab (bitI x.1.1.1 x.1.1.2.1 x.2.1) (Int.toNat x.2.2.1),())}
theorem h87:Ok 47 zo8:=by
  refine mkX (X:=xS) (hX:=znK) (ctr:=[(58,ziW)]) ⟨h145,trivial⟩ (nt:=23) Try.func47 rfl rfl rfl rfl (by kernel_rfl) (by kernel_rfl) (fun x=>[fun _=>{σ:=Nat,pat:=fun k=>cOwn 7 0 60007 3 (tab (bitI x.1.1.1 x.1.1.2.1 x.2.1) k),inv:=fun k=>(k:Int)≤x.2.2.1,meas:=fun k=>k}]) ?_
  rintro⟨⟨⟨(L:Int),(xs:List Int),_⟩,_⟩,(s:Int),(n:Int),_⟩ ⟨(hp:pSt L xs s),(h0:0≤n),(h1:n≤1024)⟩
  repeat' (intro hzz;(try (rename Two=>hq;cases hq));(try dsimp only at hzz);(try simp only[zac,zab,eqD,inR,big,zaa,Bool.not_true,Bool.not_false,Bool.true_eq,decide_eq_true_eq,decide_eq_false_iff_not,Bool.not_eq_true',Bool.not_eq_false',Bool.and_eq_true,Prod.mk.injEq,and_true,true_and,Int.not_lt,Int.not_le,gt_iff_lt,ge_iff_le] at hzz);(try simp only[zac,zab,eqD,inR,big,zaa,Bool.not_true,Bool.not_false,Bool.true_eq,decide_eq_true_eq,decide_eq_false_iff_not,Bool.not_eq_true',Bool.not_eq_false',Bool.and_eq_true,Prod.mk.injEq,and_true,true_and,Int.not_lt,Int.not_le,gt_iff_lt,ge_iff_le,zae] at hzz);(try (first|contradiction|(exfalso;omega)));(try (revert hzz;intro _)))
  all_goals try (rename Unit=>hq;clear hq)
  all_goals try ((with_reducible refine Held.mk ?_);(with_reducible (first|refine Frz.mk ?_|refine And.intro (Frz.mk ?_) ?_|refine And.intro ?_ (Frz.mk ?_)));repeat' first|exact True.intro|(change _=_;with_reducible rfl)|refine And.intro ?_ ?_|(with_reducible refine Frz.mk ?_))
  all_goals try (refine Held.mk ?_;(try dsimp only at *);(try simp only[zac,zab,eqD,inR,big,zaa,Bool.not_true,Bool.not_false,Bool.true_eq,decide_eq_true_eq,decide_eq_false_iff_not,Bool.not_eq_true',Bool.not_eq_false',Bool.and_eq_true,Prod.mk.injEq,and_true,true_and,Int.not_lt,Int.not_le,gt_iff_lt,ge_iff_le] at *);(try simp only[zac,zab,eqD,inR,big,zaa,Bool.not_true,Bool.not_false,Bool.true_eq,decide_eq_true_eq,decide_eq_false_iff_not,Bool.not_eq_true',Bool.not_eq_false',Bool.and_eq_true,Prod.mk.injEq,and_true,true_and,Int.not_lt,Int.not_le,gt_iff_lt,ge_iff_le,zae] at *))
  all_goals try omega
  ·
    refine zal.mk ?_
    refine Exists.intro 0 ?_
    refine And.intro (Leaf.mk ?_) ?_
    · repeat' first|exact True.intro|refine And.intro ?_ ?_
      all_goals try ((change _=_<;>try dsimp only)<;>try with_reducible rfl)
      all_goals try omega
      all_goals (rfl)
    exact⟨h0,rfl⟩
  · exact fun _=>⟨1025,fun k hk=>by omega⟩
  · exact fun k hk=>⟨rfl,rfl,rfl⟩
  · rename_i k hk _ hg
    show tab (bitI L xs s) k=tab (bitI L xs s) n.toNat
    rw[show n.toNat=k from by omega]
  · rename_i k hk _ hg
    show k+1≤2147483648
    omega
  · rename_i k hk _ hg
    obtain⟨_,_,r1,r2⟩:=zbn hp k
    have hP:=ze0 (zaq hp.1).1
    have e:bits .and .i64 (stI L xs s k) 1=bitI L xs s k:=and1 r1 (by omega)
    rw[e]
    refine zal.mk ?_
    refine Exists.intro (k+1) ?_
    refine And.intro (Leaf.mk ?_) ?_
    · repeat' first|exact True.intro|refine And.intro ?_ ?_
      all_goals try ((change _=_<;>try dsimp only)<;>try with_reducible rfl)
      all_goals try omega
      all_goals (first|rfl|(rw[zae];rfl)|skip)
    exact⟨by show ((k+1:Nat):Int)≤n;omega,rfl⟩
def nyet (L:Int) (xs:List Int) (s:Int) (k:Nat):Prop:=∀m,1≤m→m≤k→stI L xs s m≠s
theorem zfT {L:Int} {xs:List Int} {s:Int} (h:pSt L xs s) {k:Nat} (hk:nyet L xs s k):k<per L xs s:=by
  obtain⟨h1,h2,h3,h4⟩:=zbx h
  by_cases hc:k<per L xs s
  · exact hc
  · exact absurd h1 (hk _ h2 (by omega))
theorem zjN {L:Int} {xs:List Int} {s:Int} (h:pSt L xs s) {k:Nat} (hk:nyet L xs s k) (he:stI L xs s (k+1)=s):per L xs s=k+1:=by
  obtain⟨h1,h2,h3,h4⟩:=zbx h
  have:=zfT h hk
  by_cases hc:k+1<per L xs s
  · exact absurd he (h4 (k+1) (by omega) hc)
  · omega
@[reducible] def sPer:Spec:={pats:=[.dat Reg,.dat I64],res:=[{t:=I64}],pre:=fun x=>pSt x.1.1.1 x.1.1.2.1 x.2.1,f:=fun x=>((per x.1.1.1 x.1.1.2.1 x.2.1:Int),())}
theorem h88:Ok 50 sPer:=by
  refine mkX (X:=xS) (hX:=znK) (ctr:=[(58,ziW),(59,zoZ)]) ⟨h145,h146,trivial⟩ (nt:=19) Try.func50 rfl rfl rfl rfl (by kernel_rfl) (by kernel_rfl) (fun x=>[fun _=>{σ:=Nat,pat:=fun k=>[cI 5 0 k],inv:=fun k=>nyet x.1.1.1 x.1.1.2.1 x.2.1 k,meas:=fun k=>k}]) ?_
  rintro⟨⟨⟨(L:Int),(xs:List Int),_⟩,_⟩,(s:Int),_⟩ (hp:pSt L xs s)
  have hn:pSt L xs (nxt L xs s):=zbn hp 1
  repeat' (intro hzz;(try (rename Two=>hq;cases hq));(try dsimp only at hzz);(try simp only[zac,zab,eqD,inR,big,zaa,Bool.not_true,Bool.not_false,Bool.true_eq,decide_eq_true_eq,decide_eq_false_iff_not,Bool.not_eq_true',Bool.not_eq_false',Bool.and_eq_true,Prod.mk.injEq,and_true,true_and,Int.not_lt,Int.not_le,gt_iff_lt,ge_iff_le] at hzz);(try simp only[zac,zab,eqD,inR,big,zaa,Bool.not_true,Bool.not_false,Bool.true_eq,decide_eq_true_eq,decide_eq_false_iff_not,Bool.not_eq_true',Bool.not_eq_false',Bool.and_eq_true,Prod.mk.injEq,and_true,true_and,Int.not_lt,Int.not_le,gt_iff_lt,ge_iff_le,zkX] at hzz);(try (first|contradiction|(exfalso;omega)));(try (revert hzz;intro _)))
  all_goals try (rename Unit=>hq;clear hq)
  all_goals try ((with_reducible refine Held.mk ?_);(with_reducible (first|refine Frz.mk ?_|refine And.intro (Frz.mk ?_) ?_|refine And.intro ?_ (Frz.mk ?_)));repeat' first|exact True.intro|(change _=_;with_reducible rfl)|refine And.intro ?_ ?_|(with_reducible refine Frz.mk ?_))
  all_goals try (refine Held.mk ?_;(try dsimp only at *);(try simp only[zac,zab,eqD,inR,big,zaa,Bool.not_true,Bool.not_false,Bool.true_eq,decide_eq_true_eq,decide_eq_false_iff_not,Bool.not_eq_true',Bool.not_eq_false',Bool.and_eq_true,Prod.mk.injEq,and_true,true_and,Int.not_lt,Int.not_le,gt_iff_lt,ge_iff_le] at *);(try simp only[zac,zab,eqD,inR,big,zaa,Bool.not_true,Bool.not_false,Bool.true_eq,decide_eq_true_eq,decide_eq_false_iff_not,Bool.not_eq_true',Bool.not_eq_false',Bool.and_eq_true,Prod.mk.injEq,and_true,true_and,Int.not_lt,Int.not_le,gt_iff_lt,ge_iff_le,zkX] at *))
  all_goals try omega
  ·
    refine zal.mk ?_
    refine Exists.intro 0 ?_
    refine And.intro (Leaf.mk ?_) ?_
    · repeat' first|exact True.intro|refine And.intro ?_ ?_
      all_goals try ((change _=_<;>try dsimp only)<;>try with_reducible rfl)
      all_goals try omega
      all_goals (rfl)
    exact⟨fun m h1 h2=>by omega,rfl⟩
  · exact fun _=>⟨per L xs s,fun k hk=>zfT hp hk⟩
  · exact fun k hk=>⟨rfl,rfl,rfl⟩
  · rename_i k hk _
    have:=zfT hp hk
    have:=zbx hp
    have:=ze0 (zaq hp.1).1
    omega
  · rename_i k hk _ h
    have h:stI L xs s (k+1)=s:=h
    have:=zjN hp hk h
    show ((k:Int)+1)=(per L xs s:Int)
    omega
  · rename_i k hk _ h
    refine zal.mk ?_
    refine Exists.intro (k+1) ?_
    refine And.intro (Leaf.mk ?_) ?_
    · repeat' first|exact True.intro|refine And.intro ?_ ?_
      all_goals try ((change _=_<;>try dsimp only)<;>try with_reducible rfl)
      all_goals try omega
    refine⟨fun m h1 h2=>?_,rfl⟩
    by_cases hm:m=k+1
    · subst hm;exact h
    · exact hk m h1 (by omega)
@[reducible] def zns:Spec:={pats:=[.dat Reg],res:=[{t:=.bool}],pre:=fun x=>chk x.1.1.1 x.1.1.2.1=0∧pLen (List.length (α:=Int) x.1.1.2.1),f:=fun x=>(decide ((per x.1.1.1 x.1.1.2.1 1:Int)=most x.1.1.1),())}
theorem zeH {L:Int} {xs:List Int} (h:chk L xs=0) (hl:pLen xs.length):pSt L xs 1:=⟨h,hl,by omega,by have:=ze0 (zaq h).1;omega⟩
theorem h121:Ok 32 zns:=by
  refine mk (ctr:=[(50,sPer),(25,zkh)]) ⟨h88,h94,trivial⟩ (nt:=8) Try.func32 rfl rfl rfl rfl (by kernel_rfl) (by kernel_rfl) (fun _=>[]) ?_
  rintro⟨⟨⟨(L:Int),(xs:List Int),_⟩,_⟩,_⟩ ⟨(hc:chk L xs=0),(hl:pLen xs.length)⟩
  have h1:=zeH hc hl
  have h2:=(zaq hc).1
  repeat' (intro hzz;(try (rename Two=>hq;cases hq));(try dsimp only at hzz);(try simp only[zac,zab,eqD,inR,big,zaa,Bool.not_true,Bool.not_false,Bool.true_eq,decide_eq_true_eq,decide_eq_false_iff_not,Bool.not_eq_true',Bool.not_eq_false',Bool.and_eq_true,Prod.mk.injEq,and_true,true_and,Int.not_lt,Int.not_le,gt_iff_lt,ge_iff_le] at hzz);(try (first|contradiction|(exfalso;omega)));(try (revert hzz;intro _)))
  all_goals try (rename Unit=>hq;clear hq)
  all_goals try ((with_reducible refine Held.mk ?_);(with_reducible (first|refine Frz.mk ?_|refine And.intro (Frz.mk ?_) ?_|refine And.intro ?_ (Frz.mk ?_)));repeat' first|exact True.intro|(change _=_;with_reducible rfl)|refine And.intro ?_ ?_|(with_reducible refine Frz.mk ?_))
  all_goals try (refine Held.mk ?_;(try dsimp only at *);(try simp only[zac,zab,eqD,inR,big,zaa,Bool.not_true,Bool.not_false,Bool.true_eq,decide_eq_true_eq,decide_eq_false_iff_not,Bool.not_eq_true',Bool.not_eq_false',Bool.and_eq_true,Prod.mk.injEq,and_true,true_and,Int.not_lt,Int.not_le,gt_iff_lt,ge_iff_le] at *))
  all_goals try omega
abbrev okI (n:Int):Prop:=-4000000000000000000≤n∧n≤4000000000000000000
@[reducible] def zlg:Spec:={pats:=[.dat zak,.dat zak],res:=[{t:=zak}],pre:=fun x=>okI x.1.1∧okI x.1.2.1∧okI x.2.1.1∧okI x.2.1.2.1,f:=fun x=>((x.1.1+x.2.1.1,x.1.2.1+x.2.1.2.1,()),())}
theorem h122:Ok 30 zlg:=by
  refine mk (ctr:=[]) trivial (nt:=16) Try.func30 rfl rfl rfl rfl (by kernel_rfl) (by kernel_rfl) (fun _=>[]) ?_
  rintro⟨⟨(a:Int),(b:Int),_⟩,⟨(c:Int),(d:Int),_⟩,_⟩ ⟨(h1:okI a),(h2:okI b),(h3:okI c),(h4:okI d)⟩
  repeat' (intro hzz;(try (rename Two=>hq;cases hq));(try dsimp only at hzz);(try simp only[zac,zab,eqD,inR,big,zaa,Bool.not_true,Bool.not_false,Bool.true_eq,decide_eq_true_eq,decide_eq_false_iff_not,Bool.not_eq_true',Bool.not_eq_false',Bool.and_eq_true,Prod.mk.injEq,and_true,true_and,Int.not_lt,Int.not_le,gt_iff_lt,ge_iff_le] at hzz);(try simp only[zac,zab,eqD,inR,big,zaa,Bool.not_true,Bool.not_false,Bool.true_eq,decide_eq_true_eq,decide_eq_false_iff_not,Bool.not_eq_true',Bool.not_eq_false',Bool.and_eq_true,Prod.mk.injEq,and_true,true_and,Int.not_lt,Int.not_le,gt_iff_lt,ge_iff_le,okI] at hzz);(try (revert hzz;intro _)))
  all_goals try (rename Unit=>hq;clear hq)
  all_goals try ((with_reducible refine Held.mk ?_);(with_reducible (first|refine Frz.mk ?_|refine And.intro (Frz.mk ?_) ?_|refine And.intro ?_ (Frz.mk ?_)));repeat' first|exact True.intro|(change _=_;with_reducible rfl)|refine And.intro ?_ ?_|(with_reducible refine Frz.mk ?_))
  all_goals try (refine Held.mk ?_;(try dsimp only at *);(try simp only[zac,zab,eqD,inR,big,zaa,Bool.not_true,Bool.not_false,Bool.true_eq,decide_eq_true_eq,decide_eq_false_iff_not,Bool.not_eq_true',Bool.not_eq_false',Bool.and_eq_true,Prod.mk.injEq,and_true,true_and,Int.not_lt,Int.not_le,gt_iff_lt,ge_iff_le] at *);(try simp only[zac,zab,eqD,inR,big,zaa,Bool.not_true,Bool.not_false,Bool.true_eq,decide_eq_true_eq,decide_eq_false_iff_not,Bool.not_eq_true',Bool.not_eq_false',Bool.and_eq_true,Prod.mk.injEq,and_true,true_and,Int.not_lt,Int.not_le,gt_iff_lt,ge_iff_le,okI] at *))
  all_goals try omega
abbrev okP (n:Int):Prop:=-1000000000≤n∧n≤1000000000
theorem znA {a b:Int} (ha:okP a) (hb:okP b):okI (a*b):=by
  have h1:a.natAbs≤1000000000:=by unfold okP at ha;omega
  have h2:b.natAbs≤1000000000:=by unfold okP at hb;omega
  have h3:(a*b).natAbs≤1000000000*1000000000:=by rw[Int.natAbs_mul];exact Nat.mul_le_mul h1 h2
  unfold okI;omega
@[reducible] def sBy:Spec:={pats:=[.dat zak,.dat I64],res:=[{t:=zak}],pre:=fun x=>okP x.1.1∧okP x.1.2.1∧okP x.2.1,f:=fun x=>((x.1.1*x.2.1,x.1.2.1*x.2.1,()),())}
theorem h149:Ok 48 sBy:=by
  refine mk (ctr:=[]) trivial (nt:=14) Try.func48 rfl rfl rfl rfl (by kernel_rfl) (by kernel_rfl) (fun _=>[]) ?_
  rintro⟨⟨(a:Int),(b:Int),_⟩,(c:Int),_⟩ ⟨(h1:okP a),(h2:okP b),(h3:okP c)⟩
  have h4:=znA h1 h3
  have h5:=znA h2 h3
  repeat' (intro hzz;(try (rename Two=>hq;cases hq));(try dsimp only at hzz);(try simp only[zac,zab,eqD,inR,big,zaa,Bool.not_true,Bool.not_false,Bool.true_eq,decide_eq_true_eq,decide_eq_false_iff_not,Bool.not_eq_true',Bool.not_eq_false',Bool.and_eq_true,Prod.mk.injEq,and_true,true_and,Int.not_lt,Int.not_le,gt_iff_lt,ge_iff_le] at hzz);(try simp only[zac,zab,eqD,inR,big,zaa,Bool.not_true,Bool.not_false,Bool.true_eq,decide_eq_true_eq,decide_eq_false_iff_not,Bool.not_eq_true',Bool.not_eq_false',Bool.and_eq_true,Prod.mk.injEq,and_true,true_and,Int.not_lt,Int.not_le,gt_iff_lt,ge_iff_le,okI,okP] at hzz);(try (revert hzz;intro _)))
  all_goals try (rename Unit=>hq;clear hq)
  all_goals try ((with_reducible refine Held.mk ?_);(with_reducible (first|refine Frz.mk ?_|refine And.intro (Frz.mk ?_) ?_|refine And.intro ?_ (Frz.mk ?_)));repeat' first|exact True.intro|(change _=_;with_reducible rfl)|refine And.intro ?_ ?_|(with_reducible refine Frz.mk ?_))
  all_goals try (refine Held.mk ?_;(try dsimp only at *);(try simp only[zac,zab,eqD,inR,big,zaa,Bool.not_true,Bool.not_false,Bool.true_eq,decide_eq_true_eq,decide_eq_false_iff_not,Bool.not_eq_true',Bool.not_eq_false',Bool.and_eq_true,Prod.mk.injEq,and_true,true_and,Int.not_lt,Int.not_le,gt_iff_lt,ge_iff_le] at *);(try simp only[zac,zab,eqD,inR,big,zaa,Bool.not_true,Bool.not_false,Bool.true_eq,decide_eq_true_eq,decide_eq_false_iff_not,Bool.not_eq_true',Bool.not_eq_false',Bool.and_eq_true,Prod.mk.injEq,and_true,true_and,Int.not_lt,Int.not_le,gt_iff_lt,ge_iff_le,okI,okP] at *))
  all_goals try omega
@[reducible] def zo3:Spec:={pats:=[.dat zak],res:=[{t:=.bool}],pre:=fun x=>True,f:=fun x=>(fRec x.1.1&&fRec x.1.2.1,())}
theorem h137:Ok 45 zo3:=by
  refine mk (ctr:=[(57,sRec)]) ⟨h117,trivial⟩ (nt:=11) Try.func45 rfl rfl rfl rfl (by kernel_rfl) (by kernel_rfl) (fun _=>[]) ?_
  rintro⟨⟨(a:Int),(b:Int),_⟩,_⟩ _
  repeat' (intro hzz;(try (rename Two=>hq;cases hq));(try dsimp only at hzz);(try simp only[zac,zab,eqD,inR,big,zaa,Bool.not_true,Bool.not_false,Bool.true_eq,decide_eq_true_eq,decide_eq_false_iff_not,Bool.not_eq_true',Bool.not_eq_false',Bool.and_eq_true,Prod.mk.injEq,and_true,true_and,Int.not_lt,Int.not_le,gt_iff_lt,ge_iff_le] at hzz);(try simp only[zac,zab,eqD,inR,big,zaa,Bool.not_true,Bool.not_false,Bool.true_eq,decide_eq_true_eq,decide_eq_false_iff_not,Bool.not_eq_true',Bool.not_eq_false',Bool.and_eq_true,Prod.mk.injEq,and_true,true_and,Int.not_lt,Int.not_le,gt_iff_lt,ge_iff_le,fRec] at hzz);(try (revert hzz;intro _)))
  all_goals try (rename Unit=>hq;clear hq)
  all_goals try ((with_reducible refine Held.mk ?_);(with_reducible (first|refine Frz.mk ?_|refine And.intro (Frz.mk ?_) ?_|refine And.intro ?_ (Frz.mk ?_)));repeat' first|exact True.intro|(change _=_;with_reducible rfl)|refine And.intro ?_ ?_|(with_reducible refine Frz.mk ?_))
  all_goals try (refine Held.mk ?_;(try dsimp only at *);(try simp only[zac,zab,eqD,inR,big,zaa,Bool.not_true,Bool.not_false,Bool.true_eq,decide_eq_true_eq,decide_eq_false_iff_not,Bool.not_eq_true',Bool.not_eq_false',Bool.and_eq_true,Prod.mk.injEq,and_true,true_and,Int.not_lt,Int.not_le,gt_iff_lt,ge_iff_le] at *);(try simp only[zac,zab,eqD,inR,big,zaa,Bool.not_true,Bool.not_false,Bool.true_eq,decide_eq_true_eq,decide_eq_false_iff_not,Bool.not_eq_true',Bool.not_eq_false',Bool.and_eq_true,Prod.mk.injEq,and_true,true_and,Int.not_lt,Int.not_le,gt_iff_lt,ge_iff_le,fRec] at *))
  · rename_i h;simp[zag,h]
  · rename_i h;simp[zag,h]
@[reducible] def zli:Spec:={pats:=[.dat zak],res:=[{t:=C64}],pre:=fun x=>True,f:=fun x=>((floatOfInt .f32 x.1.1,floatOfInt .f32 x.1.2.1),())}
theorem h148:Ok 46 zli:=by
  refine mk (ctr:=[]) trivial (nt:=10) Try.func46 rfl rfl rfl rfl (by kernel_rfl) (by kernel_rfl) (fun _=>[]) ?_
  rintro⟨⟨(a:Int),(b:Int),_⟩,_⟩ _
  repeat' (intro hzz;(try (rename Two=>hq;cases hq));(try dsimp only at hzz);(try simp only[zac,zab,eqD,inR,big,zaa,Bool.not_true,Bool.not_false,Bool.true_eq,decide_eq_true_eq,decide_eq_false_iff_not,Bool.not_eq_true',Bool.not_eq_false',Bool.and_eq_true,Prod.mk.injEq,and_true,true_and,Int.not_lt,Int.not_le,gt_iff_lt,ge_iff_le] at hzz);(try (revert hzz;intro _)))
  all_goals try (rename Unit=>hq;clear hq)
  all_goals try ((with_reducible refine Held.mk ?_);(with_reducible (first|refine Frz.mk ?_|refine And.intro (Frz.mk ?_) ?_|refine And.intro ?_ (Frz.mk ?_)));repeat' first|exact True.intro|(change _=_;with_reducible rfl)|refine And.intro ?_ ?_|(with_reducible refine Frz.mk ?_))
  all_goals try (refine Held.mk ?_;(try dsimp only at *);(try simp only[zac,zab,eqD,inR,big,zaa,Bool.not_true,Bool.not_false,Bool.true_eq,decide_eq_true_eq,decide_eq_false_iff_not,Bool.not_eq_true',Bool.not_eq_false',Bool.and_eq_true,Prod.mk.injEq,and_true,true_and,Int.not_lt,Int.not_le,gt_iff_lt,ge_iff_le] at *))
def zqy (x:Nat):Prop:=(FloatKind.f32.format.sub x x).isSome=true∧(floatToIntVal .f32 x .i64).isSome=true
/-! ### Lists -/
abbrev CL:=List (Nat×Nat)
abbrev IP:=Int×Int×Unit
def eE (z:Nat×Nat):Int:=if pE z.1=27∨pE z.2=27 then 27 else if pE z.1≠0∨pE z.2≠0 then 2 else 0
def lF:CL→Int
  | []=>0
  | z::r=>if eE z=0 then lF r else eE z
def lE (xs:CL):Int:=if xs.length=0 then 10 else if 1024<xs.length then 8 else lF xs
def prT (z:Nat×Nat):IP:=(fT .f32 z.1,fT .f32 z.2,())
def lP (xs:CL):List IP:=if lE xs=0 then tab (fun i=>prT (xs.getD i (0,0))) xs.length else []
theorem ziA {α:Type} {xs:List α} {i:Nat} {d:α} (h:i<xs.length):xs.drop i=xs.getD i d::xs.drop (i+1):=by
  rw[List.drop_eq_getElem_cons h]
  simp[List.getD,List.getElem?_eq_getElem h]
theorem zht {xs:CL} {i:Nat} (h:i<xs.length):lF (xs.drop i)=if eE (xs.getD i (0,0))=0 then lF (xs.drop (i+1)) else eE (xs.getD i (0,0)):=by
  rw[ziA (d:=(0,0)) h];rfl
theorem zgL (xs:CL) (i:Nat):List.getD xs ((i:Int)).toNat (Ty.dflt C64)=xs.getD i (0,0):=rfl
theorem ze8 {xs:CL} {k:Nat} {e:Int} (h0:¬(xs.length:Int)=0) (h1:(xs.length:Int)≤1024) (hk:k≤xs.length∧lF (xs.drop k)=lF xs) (hlt:(k:Int)<xs.length) (he:eE (xs.getD k (0,0))=e) (hne:e≠0):e=lE xs:=by
  unfold lE
  rw[if_neg (by omega),if_neg (by omega),←hk.2,zht (by omega),he,if_neg hne]
theorem zlM {xs:CL} {k:Nat} (hk:k≤xs.length∧lF (xs.drop k)=lF xs) (hlt:(k:Int)<xs.length) (he:eE (xs.getD k (0,0))=0):k+1≤xs.length∧lF (xs.drop (k+1))=lF xs:=by
  refine⟨by omega,?_⟩
  have:=hk.2
  rwa [zht (by omega),if_pos he] at this
theorem znB {xs:CL} {k:Nat} (h0:¬(xs.length:Int)=0) (h1:(xs.length:Int)≤1024) (hk:k≤xs.length∧lF (xs.drop k)=lF xs) (hge:(xs.length:Int)≤k):0=lE xs:=by
  unfold lE
  rw[if_neg (by omega),if_neg (by omega),←hk.2,List.drop_eq_nil_of_le (by omega)];rfl
abbrev rOwn (t k el:Nat) (e:Ty) (xs:List e.Den):St:=[.slot t (.one (.o k xs.length)),.row k el e xs]
theorem zot {z:Nat×Nat} (h:eE z=0):pE z.1=0∧pE z.2=0:=by
  unfold eE at h
  split at h
  · cases h
  · split at h
    · cases h
    · rename_i h2;omega
theorem zcu {x:Nat} (h:pE x=0):fN .f32 x=true∧fWh .f32 x=true∧-16777216≤fT .f32 x∧fT .f32 x≤16777216∧floatToIntVal .f32 x .i64=some (fT .f32 x):=by
  unfold pE at h
  split at h
  · rename_i hN
    split at h
    · cases h
    · rename_i hb
      split at h
      · rename_i hw
        have ht:=zj1 (x:=x) (fun hh=>hb (.inl hh)) (fun hh=>hb (.inr hh))
        exact⟨hN,hw,ht.1,ht.2,zj3 hN (by omega) (by omega)⟩
      · cases h
  · cases h
theorem zcV {xs:CL} (h:lE xs=0):1≤xs.length∧xs.length≤1024∧∀i,i<xs.length→eE (xs.getD i (0,0))=0:=by
  unfold lE at h
  split at h
  · cases h
  · split at h
    · cases h
    · refine ⟨by omega,by omega,?_⟩
      have key:∀k,k≤xs.length→lF (xs.drop k)=0∧∀i,i<k→eE (xs.getD i (0,0))=0:=by
        intro k
        induction k with
        | zero=>intro _;exact⟨h,fun i hi=>by omega⟩
        | succ k ih=>
          intro hk
          obtain⟨a,b⟩:=ih (by omega)
          rw[zht (by omega)] at a
          have c:eE (xs.getD k (0,0))=0:=by
            by_cases hc:eE (xs.getD k (0,0))=0
            · exact hc
            · rw[if_neg hc] at a;exact a
          rw[if_pos c] at a
          refine⟨a,fun i hi=>?_⟩
          by_cases he:i=k
          · rw[he];exact c
          · exact b i (by omega)
      exact (key xs.length (Nat.le_refl _)).2
theorem eE_a {z:Nat×Nat} (h:pE z.1=27∨pE z.2=27):eE z=27:=if_pos h
theorem eE_b {z:Nat×Nat} (h1:¬pE z.1=27) (h2:¬pE z.2=27) (h:¬pE z.1=0∨¬pE z.2=0):eE z=2:=by
  unfold eE;rw[if_neg (fun hh=>hh.elim h1 h2),if_pos h]
theorem eE_c {z:Nat×Nat} (h1:pE z.1=0) (h2:pE z.2=0):eE z=0:=by
  unfold eE;rw[h1,h2];rfl
def prF (xs:CL) (i:Nat):IP:=prT (xs.getD i (0,0))
theorem zdb {xs:CL} {e:Int} (h:e=lE xs) (hne:e≠0) : []=lP xs∧e=lE xs:=by
  refine⟨?_,h⟩
  unfold lP
  rw[if_neg (by rw[←h];exact hne)]
theorem zcn {xs:CL} (h:lE xs=0):(lP xs).length=xs.length:=by
  unfold lP
  rw[if_pos h];exact zae _ _
@[reducible] def znZ:Spec:={pats:=[.dat (.sl C64)],res:=[{own:=some 78,t:=.sl zak},{t:=I64}],pre:=fun _=>True,f:=fun x=>(lP x.1,lE x.1,())}
theorem h91n:Ok 22 znZ:=by
  refine mkN (X:=x0) (hX:=zkd) (ctr:=[(42,zlh)]) ⟨zpF,trivial⟩ (nt:=55) Try.func22 rfl rfl rfl rfl (by kernel_rfl) (by kernel_rfl) (fun x=>[fun _=>{σ:=Nat,pat:=fun k=>[sI 19 k]++rOwn 4 60004 78 zak (tab (prF x.1) k),inv:=fun k=>k≤List.length (α:=Nat×Nat) x.1∧lF (List.drop (α:=Nat×Nat) k x.1)=lF x.1,meas:=fun k=>List.length (α:=Nat×Nat) x.1 - k}]) ?_
  rintro⟨(xs:CL),_⟩ _
  repeat' (intro hzz;(try (rename Two=>hq;cases hq));(try dsimp only at hzz);(try simp only[zac,zab,eqD,inR,big,zaa,Bool.not_true,Bool.not_false,Bool.true_eq,decide_eq_true_eq,decide_eq_false_iff_not,Bool.not_eq_true',Bool.not_eq_false',Bool.and_eq_true,Prod.mk.injEq,and_true,true_and,Int.not_lt,Int.not_le,gt_iff_lt,ge_iff_le] at hzz);(try simp only[zac,zab,eqD,inR,big,zaa,Bool.not_true,Bool.not_false,Bool.true_eq,decide_eq_true_eq,decide_eq_false_iff_not,Bool.not_eq_true',Bool.not_eq_false',Bool.and_eq_true,Prod.mk.injEq,and_true,true_and,Int.not_lt,Int.not_le,gt_iff_lt,ge_iff_le,zgL] at hzz);(try (first|contradiction|(exfalso;omega)));(try (revert hzz;intro _)))
  all_goals try (rename Unit=>hq;clear hq)
  all_goals try ((with_reducible refine Held.mk ?_);(with_reducible (first|refine Frz.mk ?_|refine And.intro (Frz.mk ?_) ?_|refine And.intro ?_ (Frz.mk ?_)));repeat' first|exact True.intro|(change _=_;with_reducible rfl)|refine And.intro ?_ ?_|(with_reducible refine Frz.mk ?_))
  all_goals try (refine Held.mk ?_;(try dsimp only at *);(try simp only[zac,zab,eqD,inR,big,zaa,Bool.not_true,Bool.not_false,Bool.true_eq,decide_eq_true_eq,decide_eq_false_iff_not,Bool.not_eq_true',Bool.not_eq_false',Bool.and_eq_true,Prod.mk.injEq,and_true,true_and,Int.not_lt,Int.not_le,gt_iff_lt,ge_iff_le] at *);(try simp only[zac,zab,eqD,inR,big,zaa,Bool.not_true,Bool.not_false,Bool.true_eq,decide_eq_true_eq,decide_eq_false_iff_not,Bool.not_eq_true',Bool.not_eq_false',Bool.and_eq_true,Prod.mk.injEq,and_true,true_and,Int.not_lt,Int.not_le,gt_iff_lt,ge_iff_le,zgL] at *))
  all_goals try omega
  · rename_i h
    exact zdb (by unfold lE;rw[if_pos (by omega)]) (by decide)
  · rename_i h0 h
    exact zdb (by unfold lE;rw[if_neg (by omega),if_pos (by omega)]) (by decide)
  ·
    refine zal.mk ?_
    refine Exists.intro 0 ?_
    refine And.intro (Leaf.mk ?_) ?_
    · repeat' first|exact True.intro|refine And.intro ?_ ?_
      all_goals try ((change _=_<;>try dsimp only)<;>try with_reducible rfl)
      all_goals try omega
      all_goals (rfl)
    exact⟨Nat.zero_le _,rfl⟩
  · rename_i h0 h1 k hk hlt q1 q2
    exact zdb (ze8 h0 h1 hk hlt (eE_a (.inr q2)) (by decide)) (by decide)
  · rename_i h0 h1 k hk hlt q1 q2 q3 q4
    exact zdb (ze8 h0 h1 hk hlt (eE_b q1 q2 (.inr q4)) (by decide)) (by decide)
  · rename_i h0 h1 k hk hlt q1 q2 q3 q4
    rw[(zcu q3).2.2.2.2];rfl
  · rename_i h0 h1 k hk hlt q1 q2 q3 q4
    rw[(zcu q4).2.2.2.2];rfl
  · rename_i h0 h1 k hk hlt q1 q2 q3 q4
    rw[zae];show k+1≤2147483648;omega
  · rename_i h0 h1 k hk hlt q1 q2 q3 q4
    have hn:=zlM hk hlt (eE_c q3 q4)
    have e:tab (prF xs) k++[((floatToIntVal .f32 (xs.getD k (0,0)).1 .i64).getD 0,(floatToIntVal .f32 (xs.getD k (0,0)).2 .i64).getD 0,())]=tab (prF xs) (k+1):=by
      rw[(zcu q3).2.2.2.2,(zcu q4).2.2.2.2];rfl
    refine zal.mk ?_
    refine Exists.intro (k+1) ?_
    refine And.intro (Leaf.mk ?_) ?_
    · repeat' first|exact True.intro|refine And.intro ?_ ?_
      all_goals try ((change _=_<;>try dsimp only)<;>try with_reducible rfl)
      all_goals try omega
      all_goals (first|exact e|exact congrArg List.length e)
    exact⟨hn,by show xs.length - (k+1)<xs.length - k;omega⟩
  · rename_i h0 h1 k hk hlt q1 q2 q3
    exact zdb (ze8 h0 h1 hk hlt (eE_b q1 q2 (.inl q3)) (by decide)) (by decide)
  · rename_i h0 h1 k hk hlt q1
    exact zdb (ze8 h0 h1 hk hlt (eE_a (.inl q1)) (by decide)) (by decide)
  · rename_i h0 h1 k hk hge
    have h:=znB h0 h1 hk hge
    refine⟨?_,h⟩
    unfold lP
    rw[if_pos h.symm,show k=xs.length by omega];rfl
def lsF (l:List (Nat×Nat×Unit)) (i:Nat):Nat×Nat:=((l.getD i (0,0,())).1,(l.getD i (0,0,())).2.1)
def lsL (l:List (Nat×Nat×Unit)):CL:=tab (lsF l) l.length
@[reducible] def znr:Spec:={pats:=[.dat (.sl RawT)],res:=[{own:=some 39,t:=.sl C64}],pre:=fun x=>List.length (α:=Nat×Nat×Unit) x.1≤1000000000,f:=fun x=>(lsL x.1,())}
theorem h30n:Ok 16 znr:=by
  refine mkN (X:=x0) (hX:=zkd) (ctr:=[]) trivial (nt:=26) Try.func16 rfl rfl rfl rfl (by kernel_rfl) (by kernel_rfl) (fun x=>[fun _=>{σ:=Nat,pat:=fun k=>[sI 4 k]++rOwn 3 60003 39 C64 (tab (lsF x.1) k),inv:=fun k=>k≤List.length (α:=Nat×Nat×Unit) x.1,meas:=fun k=>List.length (α:=Nat×Nat×Unit) x.1 - k}]) ?_
  rintro⟨(l:List (Nat×Nat×Unit)),_⟩ (hl:l.length≤1000000000)
  repeat' (intro hzz;(try (rename Two=>hq;cases hq));(try dsimp only at hzz);(try simp only[zac,zab,eqD,inR,big,zaa,Bool.not_true,Bool.not_false,Bool.true_eq,decide_eq_true_eq,decide_eq_false_iff_not,Bool.not_eq_true',Bool.not_eq_false',Bool.and_eq_true,Prod.mk.injEq,and_true,true_and,Int.not_lt,Int.not_le,gt_iff_lt,ge_iff_le] at hzz);(try (first|contradiction|(exfalso;omega)));(try (revert hzz;intro _)))
  all_goals try (rename Unit=>hq;clear hq)
  all_goals try ((with_reducible refine Held.mk ?_);(with_reducible (first|refine Frz.mk ?_|refine And.intro (Frz.mk ?_) ?_|refine And.intro ?_ (Frz.mk ?_)));repeat' first|exact True.intro|(change _=_;with_reducible rfl)|refine And.intro ?_ ?_|(with_reducible refine Frz.mk ?_))
  all_goals try (refine Held.mk ?_;(try dsimp only at *);(try simp only[zac,zab,eqD,inR,big,zaa,Bool.not_true,Bool.not_false,Bool.true_eq,decide_eq_true_eq,decide_eq_false_iff_not,Bool.not_eq_true',Bool.not_eq_false',Bool.and_eq_true,Prod.mk.injEq,and_true,true_and,Int.not_lt,Int.not_le,gt_iff_lt,ge_iff_le] at *))
  all_goals try omega
  ·
    refine zal.mk ?_
    refine Exists.intro 0 ?_
    refine And.intro (Leaf.mk ?_) ?_
    · repeat' first|exact True.intro|refine And.intro ?_ ?_
      all_goals try ((change _=_<;>try dsimp only)<;>try with_reducible rfl)
      all_goals try omega
      all_goals (rfl)
    exact Nat.zero_le _
  · rename_i k hk hlt
    rw[zae];show k+1≤2147483648;omega
  · rename_i k hk hlt
    refine zal.mk ?_
    refine Exists.intro (k+1) ?_
    refine And.intro (Leaf.mk ?_) ?_
    · repeat' first|exact True.intro|refine And.intro ?_ ?_
      all_goals try ((change _=_<;>try dsimp only)<;>try with_reducible rfl)
      all_goals try omega
      all_goals (rfl)
    exact⟨by show k+1≤l.length;omega,by show l.length - (k+1)<l.length - k;omega⟩
  · rename_i k hk hge
    rw[show k=l.length by omega];rfl
/-! ### Back to complex numbers -/
def fits (p:IP):Bool:=fRec p.1&&fRec p.2.1
def nmF (ps:List IP) (i:Nat):Nat×Nat:=(floatOfInt .f32 (ps.getD i (0,0,())).1,floatOfInt .f32 (ps.getD i (0,0,())).2.1)
def za9 (ps:List IP):Bool:=ps.all fits
def tE (ps:List IP):Int:=if za9 ps=true then 0 else 8
def tL (ps:List IP):CL:=if za9 ps=true then tab (nmF ps) ps.length else []
theorem zpL {ps:List IP} {k:Nat} (hk:k<ps.length) (h:fits (ps.getD k (0,0,()))=false):za9 ps=false:=by
  unfold za9
  rw[List.all_eq_false]
  exact⟨ps.getD k (0,0,()),by simp only[List.getD,List.getElem?_eq_getElem hk,Option.getD_some];exact List.getElem_mem hk,by rw[h];exact Bool.false_ne_true⟩
theorem zoo {ps:List IP} (h:∀j,j<ps.length→fits (ps.getD j (0,0,()))=true):za9 ps=true:=by
  unfold za9
  rw[List.all_eq_true]
  intro p hp
  obtain⟨j,hj,rfl⟩:=List.mem_iff_getElem.1 hp
  have:=h j hj
  simpa only [List.getD,List.getElem?_eq_getElem hj,Option.getD_some] using this
theorem t_no {ps:List IP} (h:za9 ps=false) : []=tL ps∧8=tE ps:=by
  unfold tL tE;rw[h];exact⟨rfl,rfl⟩
theorem zoM {ps:List IP} (h:za9 ps=true):tab (nmF ps) ps.length=tL ps∧0=tE ps:=by
  unfold tL tE;rw[h];exact⟨rfl,rfl⟩
theorem zgK (ps:List IP) (i:Nat):List.getD ps ((i:Int)).toNat (Ty.dflt zak)=ps.getD i (0,0,()):=rfl
@[reducible] def zmB:Spec:={pats:=[.dat (.sl zak)],res:=[{own:=some 39,t:=.sl C64},{t:=I64}],pre:=fun x=>List.length (α:=IP) x.1≤2000000000,f:=fun x=>(tL x.1,tE x.1,())}
theorem h93n:Ok 26 zmB:=by
  refine mkN (X:=x0) (hX:=zkd) (ctr:=[(45,zo3),(46,zli)]) ⟨h137,h148,trivial⟩ (nt:=23) Try.func26 rfl rfl rfl rfl (by kernel_rfl) (by kernel_rfl) (fun x=>[fun _=>{σ:=Nat,pat:=fun k=>[sI 9 k]++rOwn 4 60004 39 C64 (tab (nmF x.1) k),inv:=fun k=>k≤List.length (α:=IP) x.1∧∀j,j<k→fits (List.getD (α:=IP) x.1 j (0,0,()))=true,meas:=fun k=>List.length (α:=IP) x.1 - k}]) ?_
  rintro⟨(ps:List IP),_⟩ (hl:ps.length≤2000000000)
  repeat' (intro hzz;(try (rename Two=>hq;cases hq));(try dsimp only at hzz);(try simp only[zac,zab,eqD,inR,big,zaa,Bool.not_true,Bool.not_false,Bool.true_eq,decide_eq_true_eq,decide_eq_false_iff_not,Bool.not_eq_true',Bool.not_eq_false',Bool.and_eq_true,Prod.mk.injEq,and_true,true_and,Int.not_lt,Int.not_le,gt_iff_lt,ge_iff_le] at hzz);(try simp only[zac,zab,eqD,inR,big,zaa,Bool.not_true,Bool.not_false,Bool.true_eq,decide_eq_true_eq,decide_eq_false_iff_not,Bool.not_eq_true',Bool.not_eq_false',Bool.and_eq_true,Prod.mk.injEq,and_true,true_and,Int.not_lt,Int.not_le,gt_iff_lt,ge_iff_le,zgK] at hzz);(try (first|contradiction|(exfalso;omega)));(try (revert hzz;intro _)))
  all_goals try (rename Unit=>hq;clear hq)
  all_goals try ((with_reducible refine Held.mk ?_);(with_reducible (first|refine Frz.mk ?_|refine And.intro (Frz.mk ?_) ?_|refine And.intro ?_ (Frz.mk ?_)));repeat' first|exact True.intro|(change _=_;with_reducible rfl)|refine And.intro ?_ ?_|(with_reducible refine Frz.mk ?_))
  all_goals try (refine Held.mk ?_;(try dsimp only at *);(try simp only[zac,zab,eqD,inR,big,zaa,Bool.not_true,Bool.not_false,Bool.true_eq,decide_eq_true_eq,decide_eq_false_iff_not,Bool.not_eq_true',Bool.not_eq_false',Bool.and_eq_true,Prod.mk.injEq,and_true,true_and,Int.not_lt,Int.not_le,gt_iff_lt,ge_iff_le] at *);(try simp only[zac,zab,eqD,inR,big,zaa,Bool.not_true,Bool.not_false,Bool.true_eq,decide_eq_true_eq,decide_eq_false_iff_not,Bool.not_eq_true',Bool.not_eq_false',Bool.and_eq_true,Prod.mk.injEq,and_true,true_and,Int.not_lt,Int.not_le,gt_iff_lt,ge_iff_le,zgK] at *))
  all_goals try omega
  ·
    refine zal.mk ?_
    refine Exists.intro 0 ?_
    refine And.intro (Leaf.mk ?_) ?_
    · repeat' first|exact True.intro|refine And.intro ?_ ?_
      all_goals try ((change _=_<;>try dsimp only)<;>try with_reducible rfl)
      all_goals try omega
      all_goals (rfl)
    exact⟨Nat.zero_le _,fun j hj=>by omega⟩
  · rename_i k hk hlt h
    exact t_no (zpL (by omega) h)
  · rename_i k hk hlt h
    rw[zae];show k+1≤2147483648;omega
  · rename_i k hk hlt h
    refine zal.mk ?_
    refine Exists.intro (k+1) ?_
    refine And.intro (Leaf.mk ?_) ?_
    · repeat' first|exact True.intro|refine And.intro ?_ ?_
      all_goals try ((change _=_<;>try dsimp only)<;>try with_reducible rfl)
      all_goals try omega
      all_goals (rfl)
    refine⟨⟨by show k+1≤ps.length;omega,fun j hj=>?_⟩,by show ps.length - (k+1)<ps.length - k;omega⟩
    by_cases he:j=k
    · rw[he]
      show (fRec _&&fRec _)=true
      simp only[Bool.and_eq_true,decide_eq_true_eq]
      exact h
    · exact hk.2 j (by omega)
  · rename_i k hk hge
    have:=zoM (zoo fun j hj=>hk.2 j (by omega))
    rwa [show k=ps.length by omega]
def okL (B:Int) (ps:List IP):Prop:=∀i:Nat,(-B≤(ps.getD i (0,0,())).1∧(ps.getD i (0,0,())).1≤B)∧(-B≤(ps.getD i (0,0,())).2.1∧(ps.getD i (0,0,())).2.1≤B)
instance (n:Nat):Decidable (pLen n):=inferInstanceAs (Decidable ((n:Int)≤4611686018427387904))
instance (L:Int) (xs:List Int) (s:Int):Decidable (pSt L xs s):=inferInstanceAs (Decidable (_∧_∧_∧_))
instance (x:Nat):Decidable (zqy x):=inferInstanceAs (Decidable (_∧_))
def zjh (a b:Nat×Nat):Bool:=decide (a.1=b.1)&&decide (a.2=b.2)
@[reducible] def zoU:Spec:={pats:=[.dat C128,.dat C128],res:=[{t:=.bool}],pre:=fun _=>True,f:=fun x=>(zjh x.1 x.2.1,())}
theorem h101:Ok 34 zoU:=by
  refine mk (ctr:=[]) trivial (nt:=21) Try.func34 rfl rfl rfl rfl (by kernel_rfl) (by kernel_rfl) (fun _=>[]) ?_
  rintro⟨⟨a,b⟩,⟨c,d⟩,_⟩ _
  repeat' (intro hzz;(try (rename Two=>hq;cases hq));(try dsimp only at hzz);(try simp only[zac,zab,eqD,inR,big,zaa,Bool.not_true,Bool.not_false,Bool.true_eq,decide_eq_true_eq,decide_eq_false_iff_not,Bool.not_eq_true',Bool.not_eq_false',Bool.and_eq_true,Prod.mk.injEq,and_true,true_and,Int.not_lt,Int.not_le,gt_iff_lt,ge_iff_le] at hzz);(try (revert hzz;intro _)))
  all_goals try (rename Unit=>hq;clear hq)
  all_goals try ((with_reducible refine Held.mk ?_);(with_reducible (first|refine Frz.mk ?_|refine And.intro (Frz.mk ?_) ?_|refine And.intro ?_ (Frz.mk ?_)));repeat' first|exact True.intro|(change _=_;with_reducible rfl)|refine And.intro ?_ ?_|(with_reducible refine Frz.mk ?_))
  all_goals try (refine Held.mk ?_;(try dsimp only at *);(try simp only[zac,zab,eqD,inR,big,zaa,Bool.not_true,Bool.not_false,Bool.true_eq,decide_eq_true_eq,decide_eq_false_iff_not,Bool.not_eq_true',Bool.not_eq_false',Bool.and_eq_true,Prod.mk.injEq,and_true,true_and,Int.not_lt,Int.not_le,gt_iff_lt,ge_iff_le] at *))
  · rename_i h
    have h:a=c:=Int.ofNat_inj.1 h
    show decide ((b:Int)=(d:Int))=zjh (a,b) (c,d)
    subst h
    by_cases hb:b=d<;>simp[zjh,hb,Int.ofNat_inj]
  · rename_i h
    have h:¬a=c:=fun e=>h (by rw[e])
    show false=zjh (a,b) (c,d)
    simp[zjh,h]
/-! ### Equal samples -/
theorem zeR {n:Int} (h1 : -16777216≤n) (h2:n≤16777216):fN .f32 (floatOfInt .f32 n)=true∧fV .f32 (floatOfInt .f32 n)=n*fS .f32:=by
  by_cases h0:n=0
  · subst h0;decide +kernel
  · by_cases he:n=16777216
    · subst he;decide +kernel
    · by_cases he2:n = -16777216
      · subst he2;decide +kernel
      · have hm:n.natAbs≠0:=by omega
        have hl:n.natAbs.log2≤23:=by
          have:n.natAbs.log2<24:=(Nat.log2_lt hm).2 (by omega)
          omega
        have l32:FloatKind.f32.format.leastPlace = -149:=by decide
        have b32:FloatKind.f32.format.fractionBits=23:=by decide
        have e32:FloatKind.f32.format.exponentBits=8:=by decide
        obtain⟨q,l,g1,g2,g3,g4⟩:=zbL FloatKind.f32.format (decide (n<0)) n.natAbs 0 0 (zdp .f32) hm (by rw[b32];exact hl) (by rw[l32];omega) (by rw[l32,b32,e32];omega)
        rw[Nat.pow_zero,Nat.mul_one] at g1
        have hw:floatOfInt .f32 n=FloatKind.f32.format.nearest (decide (n<0)) n.natAbs 0:=rfl
        rw[hw]
        unfold fN fV
        rw[g1]
        refine⟨rfl,?_⟩
        show Ieee.signed _ q (l - FloatKind.f32.format.leastPlace).toNat=_
        rw[l32] at g2 ⊢
        rw[zbI,g4,Nat.mul_assoc,←Nat.pow_add]
        have e:((0:Int)+(0:Nat) - l).toNat+(l - -149).toNat=149:=by omega
        rw[e]
        have hs:fS .f32=((2 ^ 149:Nat):Int):=by decide +kernel
        rw[hs]
        generalize (2:Nat) ^ 149=C
        unfold sg
        by_cases hn:n<0
        · rw[if_pos (by simp;exact hn),Int.natCast_mul,show ((n.natAbs:Nat):Int) = -n by omega,Int.neg_mul,Int.neg_neg]
        · rw[if_neg (by simp;omega),Int.natCast_mul,show ((n.natAbs:Nat):Int)=n by omega]
def okC (xs:CL):Prop:=∀i:Nat,fN .f32 (xs.getD i (0,0)).1=true∧fN .f32 (xs.getD i (0,0)).2=true
theorem zjs {x:Nat} (h:fN .f32 x=true):(f2f .f32 x .f64).isSome=true:=by
  obtain⟨y,e,_⟩:=znN h
  rw[e];rfl
theorem zhz:fN .f32 0=true:=by decide +kernel
theorem zfS:okC []:=fun i=>⟨zhz,zhz⟩
theorem zn9 {f:Nat→Nat×Nat} {n:Nat} (h:∀i,i<n→fN .f32 (f i).1=true∧fN .f32 (f i).2=true):okC (tab f n):=fun i=>by
  by_cases hi:i<n
  · rw[zaE f (0,0) n i hi];exact h i hi
  · have:(tab f n).getD i (0,0)=(0,0):=by
      simp only[List.getD]
      rw[List.getElem?_eq_none (by rw[zae];omega)];rfl
    rw[this];exact⟨zhz,zhz⟩
theorem zcG {ps:List IP} (h:za9 ps=true) (i:Nat):(-16777216≤(ps.getD i (0,0,())).1∧(ps.getD i (0,0,())).1≤16777216)∧(-16777216≤(ps.getD i (0,0,())).2.1∧(ps.getD i (0,0,())).2.1≤16777216):=by
  by_cases hi:i<ps.length
  · unfold za9 at h
    rw[List.all_eq_true] at h
    have:=h (ps.getD i (0,0,())) (by simp only[List.getD,List.getElem?_eq_getElem hi,Option.getD_some];exact List.getElem_mem hi)
    generalize ps.getD i (0,0,())=p at this
    unfold fits at this
    have hh:(decide (-16777216≤p.1∧p.1≤16777216)&&decide (-16777216≤p.2.1∧p.2.1≤16777216))=true:=this
    simpa only [Bool.and_eq_true,decide_eq_true_eq] using hh
  · have:ps.getD i (0,0,())=(0,0,()):=by
      simp only[List.getD]
      rw[List.getElem?_eq_none (by omega)];rfl
    rw[this]
    exact⟨⟨by show (-16777216:Int)≤0;omega,by show (0:Int)≤16777216;omega⟩,⟨by show (-16777216:Int)≤0;omega,by show (0:Int)≤16777216;omega⟩⟩
theorem znT (ps:List IP):okC (tL ps):=by
  unfold tL
  split
  · rename_i h
    exact zn9 fun i _=>⟨(zeR (zcG h i).1.1 (zcG h i).1.2).1,(zeR (zcG h i).2.1 (zcG h i).2.2).1⟩
  · exact zfS
@[reducible] def zlb:Spec:={pats:=[.dat (.sl C64),.dat (.sl C64)],res:=[{t:=.bool}],pre:=fun x=>List.length (α:=Nat×Nat) x.1≤2000000000∧x.1=x.2.1∧okC x.1,f:=fun _=>(true,())}
theorem h34n:Ok 13 zlb:=by
  refine mk (ctr:=[(34,zoU)]) ⟨h101,trivial⟩ (nt:=29) Try.func13 rfl rfl rfl rfl (by kernel_rfl) (by kernel_rfl) (fun x=>[fun _=>{σ:=Nat,pat:=fun k=>[sI 5 k],inv:=fun k=>k≤List.length (α:=Nat×Nat) x.1,meas:=fun k=>List.length (α:=Nat×Nat) x.1 - k}]) ?_
  rintro⟨(xs:CL),(ys:CL),_⟩ ⟨(hl:xs.length≤2000000000),(he:xs=ys),(hc:okC xs)⟩
  subst he
  have hs:∀i:Nat,(f2f .f32 (xs.getD i (0,0)).1 .f64).isSome=true∧(f2f .f32 (xs.getD i (0,0)).2 .f64).isSome=true:=fun i=>⟨zjs (hc i).1,zjs (hc i).2⟩
  have hf:∀z:Nat×Nat,zjh z z=true:=fun z=>by simp[zjh]
  repeat' (intro hzz;(try (rename Two=>hq;cases hq));(try dsimp only at hzz);(try simp only[zac,zab,eqD,inR,big,zaa,Bool.not_true,Bool.not_false,Bool.true_eq,decide_eq_true_eq,decide_eq_false_iff_not,Bool.not_eq_true',Bool.not_eq_false',Bool.and_eq_true,Prod.mk.injEq,and_true,true_and,Int.not_lt,Int.not_le,gt_iff_lt,ge_iff_le] at hzz);(try simp only[zac,zab,eqD,inR,big,zaa,Bool.not_true,Bool.not_false,Bool.true_eq,decide_eq_true_eq,decide_eq_false_iff_not,Bool.not_eq_true',Bool.not_eq_false',Bool.and_eq_true,Prod.mk.injEq,and_true,true_and,Int.not_lt,Int.not_le,gt_iff_lt,ge_iff_le,zgL,hf] at hzz);(try (first|contradiction|(exfalso;omega)));(try (revert hzz;intro _)))
  all_goals try (rename Unit=>hq;clear hq)
  all_goals try ((with_reducible refine Held.mk ?_);(with_reducible (first|refine Frz.mk ?_|refine And.intro (Frz.mk ?_) ?_|refine And.intro ?_ (Frz.mk ?_)));repeat' first|exact True.intro|(change _=_;with_reducible rfl)|refine And.intro ?_ ?_|(with_reducible refine Frz.mk ?_))
  all_goals try (refine Held.mk ?_;(try dsimp only at *);(try simp only[zac,zab,eqD,inR,big,zaa,Bool.not_true,Bool.not_false,Bool.true_eq,decide_eq_true_eq,decide_eq_false_iff_not,Bool.not_eq_true',Bool.not_eq_false',Bool.and_eq_true,Prod.mk.injEq,and_true,true_and,Int.not_lt,Int.not_le,gt_iff_lt,ge_iff_le] at *);(try simp only[zac,zab,eqD,inR,big,zaa,Bool.not_true,Bool.not_false,Bool.true_eq,decide_eq_true_eq,decide_eq_false_iff_not,Bool.not_eq_true',Bool.not_eq_false',Bool.and_eq_true,Prod.mk.injEq,and_true,true_and,Int.not_lt,Int.not_le,gt_iff_lt,ge_iff_le,zgL,hf] at *))
  all_goals try omega
  ·
    refine zal.mk ?_
    refine Exists.intro 0 ?_
    refine And.intro (Leaf.mk ?_) ?_
    · repeat' first|exact True.intro|refine And.intro ?_ ?_
      all_goals try ((change _=_<;>try dsimp only)<;>try with_reducible rfl)
      all_goals try omega
    exact Nat.zero_le _
  · exact hs _
  · exact hs _
  · rename_i k hk hlt _
    refine zal.mk ?_
    refine Exists.intro (k+1) ?_
    refine And.intro (Leaf.mk ?_) ?_
    · repeat' first|exact True.intro|refine And.intro ?_ ?_
      all_goals try ((change _=_<;>try dsimp only)<;>try with_reducible rfl)
      all_goals try omega
    exact⟨by show k+1≤xs.length;omega,by show xs.length - (k+1)<xs.length - k;omega⟩
/-! ### Folded lists -/
theorem zg3 {α:Type} (f:Nat→α) (n j:Nat) (v:α):(tab f n).set j v=tab (fun i=>if i=j then v else f i) n:=by
  apply List.ext_getElem?
  intro i
  by_cases hi:i<n
  · have e:∀g:Nat→α,(tab g n)[i]?=some (g i):=fun g=>by
      have:=zaE g v n i hi
      rw[List.getD_eq_getElem?_getD] at this
      rw[List.getElem?_eq_getElem (by rw[zae];exact hi)] at this ⊢
      simpa using this
    rw[e]
    by_cases hj:j=i
    · subst hj
      rw[List.getElem?_set_self (by rw[zae];exact hi),if_pos rfl]
    · rw[List.getElem?_set_ne hj,e,if_neg (by omega)]
  · rw[List.getElem?_eq_none (by rw[List.length_set,zae];omega),List.getElem?_eq_none (by rw[zae];omega)]
theorem zjC {α:Type} (x:α):∀n:Nat,repl (n:Int) x=tab (fun _=>x) n:=fun n=>by
  rw[zhd,Int.toNat_natCast]
  induction n with
  | zero=>rfl
  | succ n ih=>rw[List.replicate_succ',ih];rfl
def zdX (a b:IP):IP:=(a.1+b.1,a.2.1+b.2.1,())
def flV (ps:List IP) (p i:Nat):Nat→IP
  | 0=>(0,0,())
  | k+1=>if i=k % p then zdX (flV ps p i k) (ps.getD k (0,0,())) else flV ps p i k
def flL (ps:List IP) (p k:Nat):List IP:=tab (fun i=>flV ps p i k) p
theorem zm3 {ps:List IP} {p k:Nat} (hp:0<p):(flL ps p k).set (k % p) (zdX ((flL ps p k).getD (k % p) (0,0,())) (ps.getD k (0,0,())))=flL ps p (k+1):=by
  unfold flL
  rw[zg3,zaE _ _ _ _ (Nat.mod_lt k hp)]
  refine zaG p fun i hi=>?_
  show _=if i=k % p then zdX (flV ps p i k) (ps.getD k (0,0,())) else flV ps p i k
  by_cases h:i=k % p
  · rw[if_pos h,if_pos h,h]
  · rw[if_neg h,if_neg h]
theorem zis {ps:List IP} {p:Nat} (h:okL 16777216 ps) (i:Nat):∀k:Nat,(-(k*16777216)≤(flV ps p i k).1∧(flV ps p i k).1≤k*16777216)∧(-(k*16777216)≤(flV ps p i k).2.1∧(flV ps p i k).2.1≤k*16777216)
  | 0=>by simp[flV]
  | k + 1=>by
    have ih:=zis (p:=p) h i k
    have hk:=h k
    have e:flV ps p i (k+1)=if i=k % p then zdX (flV ps p i k) (ps.getD k (0,0,())) else flV ps p i k:=rfl
    rw[e]
    split
    · show (_≤(flV ps p i k).1+(ps.getD k (0,0,())).1∧(flV ps p i k).1+(ps.getD k (0,0,())).1≤_)∧(_≤(flV ps p i k).2.1+(ps.getD k (0,0,())).2.1∧(flV ps p i k).2.1+(ps.getD k (0,0,())).2.1≤_)
      omega
    · omega
theorem zjO (q k:Nat):((k:Int)).tmod (q:Int)=((k % q:Nat):Int):=by
  rw[Int.tmod_eq_emod_of_nonneg (by omega)];rfl
theorem zpK {ps:List IP} {p:Nat} (h:okL 16777216 ps) (k:Nat):okL (k*16777216) (flL ps p k):=fun i=>by
  unfold flL
  by_cases hi:i<p
  · rw[zaE _ _ _ _ hi];exact zis h i k
  · have:(tab (fun i=>flV ps p i k) p).getD i (0,0,())=(0,0,()):=by
      simp only[List.getD]
      rw[List.getElem?_eq_none (by rw[zae];omega)];rfl
    rw[this]
    exact⟨⟨(show -((k:Int)*16777216)≤0 by omega),(show (0:Int)≤(k:Int)*16777216 by omega)⟩,⟨(show -((k:Int)*16777216)≤0 by omega),(show (0:Int)≤(k:Int)*16777216 by omega)⟩⟩
@[reducible] def zo2:Spec:={pats:=[.dat (.sl zak),.dat I64],res:=[{own:=some 78,t:=.sl zak}],pre:=fun x=>List.length (α:=IP) x.1≤1024∧okL 16777216 x.1∧1≤x.2.1∧x.2.1≤(2000000:Int),f:=fun x=>(flL x.1 (Int.toNat x.2.1) (List.length (α:=IP) x.1),())}
theorem h92n:Ok 24 zo2:=by
  refine mk (ctr:=[(30,zlg)]) ⟨h122,trivial⟩ (nt:=32) Try.func24 rfl rfl rfl rfl (by kernel_rfl) (by kernel_rfl) (fun x=>[fun _=>{σ:=Nat,pat:=fun k=>[sI 12 k]++rOwn 5 9 78 zak (flL x.1 (Int.toNat x.2.1) k),inv:=fun k=>k≤List.length (α:=IP) x.1,meas:=fun k=>List.length (α:=IP) x.1 - k}]) ?_
  rintro⟨(ps:List IP),(p:Int),_⟩ ⟨(hl:ps.length≤1024),(hp:okL 16777216 ps),(h1:1≤p),(h2:p≤2000000)⟩
  obtain⟨q,rfl⟩:∃q:Nat,p=q:=⟨p.toNat,by omega⟩
  have hm:=zjO q
  have hml:∀k:Nat,k % q<q:=fun k=>Nat.mod_lt k (by omega)
  have hln:∀k,(flL ps q k).length=q:=fun k=>zae _ _
  have hbd:=zpK (p:=q) hp
  repeat' (intro hzz;(try (rename Two=>hq;cases hq));(try dsimp only at hzz);(try simp only[zac,zab,eqD,inR,big,zaa,Bool.not_true,Bool.not_false,Bool.true_eq,decide_eq_true_eq,decide_eq_false_iff_not,Bool.not_eq_true',Bool.not_eq_false',Bool.and_eq_true,Prod.mk.injEq,and_true,true_and,Int.not_lt,Int.not_le,gt_iff_lt,ge_iff_le] at hzz);(try simp only[zac,zab,eqD,inR,big,zaa,Bool.not_true,Bool.not_false,Bool.true_eq,decide_eq_true_eq,decide_eq_false_iff_not,Bool.not_eq_true',Bool.not_eq_false',Bool.and_eq_true,Prod.mk.injEq,and_true,true_and,Int.not_lt,Int.not_le,gt_iff_lt,ge_iff_le,zgK,hm,hln,Int.toNat_natCast] at hzz);(try (first|contradiction|(exfalso;omega)));(try (revert hzz;intro _)))
  all_goals try (rename Unit=>hq;clear hq)
  all_goals try ((with_reducible refine Held.mk ?_);(with_reducible (first|refine Frz.mk ?_|refine And.intro (Frz.mk ?_) ?_|refine And.intro ?_ (Frz.mk ?_)));repeat' first|exact True.intro|(change _=_;with_reducible rfl)|refine And.intro ?_ ?_|(with_reducible refine Frz.mk ?_))
  all_goals try (refine Held.mk ?_;(try dsimp only at *);(try simp only[zac,zab,eqD,inR,big,zaa,Bool.not_true,Bool.not_false,Bool.true_eq,decide_eq_true_eq,decide_eq_false_iff_not,Bool.not_eq_true',Bool.not_eq_false',Bool.and_eq_true,Prod.mk.injEq,and_true,true_and,Int.not_lt,Int.not_le,gt_iff_lt,ge_iff_le] at *);(try simp only[zac,zab,eqD,inR,big,zaa,Bool.not_true,Bool.not_false,Bool.true_eq,decide_eq_true_eq,decide_eq_false_iff_not,Bool.not_eq_true',Bool.not_eq_false',Bool.and_eq_true,Prod.mk.injEq,and_true,true_and,Int.not_lt,Int.not_le,gt_iff_lt,ge_iff_le,zgK,hm,hln,Int.toNat_natCast] at *))
  all_goals try omega
  ·
    refine zal.mk ?_
    refine Exists.intro 0 ?_
    refine And.intro (Leaf.mk ?_) ?_
    · repeat' first|exact True.intro|refine And.intro ?_ ?_
      all_goals try ((change _=_<;>try dsimp only)<;>try with_reducible rfl)
      all_goals try omega
      all_goals (first|exact zjC _ _|exact congrArg List.length (zjC _ _))
    exact Nat.zero_le _
  · rename_i k hk hlt
    have:=hml k
    omega
  · rename_i k hk hlt
    have:=hml k
    omega
  · rename_i k hk hlt
    have b:=hbd k (k % q)
    have c:=hp k
    exact⟨(show okI ((flL ps q k).getD (k % q) (0,0,())).1 by unfold okI;omega),(show okI ((flL ps q k).getD (k % q) (0,0,())).2.1 by unfold okI;omega),(show okI (ps.getD k (0,0,())).1 by unfold okI;omega),(show okI (ps.getD k (0,0,())).2.1 by unfold okI;omega)⟩
  · rename_i k hk hlt
    have:=hml k
    omega
  · rename_i k hk hlt
    have:=hml k
    omega
  · rename_i k hk hlt
    have e:(flL ps q k).set ((k:Int).tmod (q:Int)).toNat (zdX ((flL ps q k).getD ((k:Int).tmod (q:Int)).toNat (0,0,())) (ps.getD k (0,0,())))=flL ps q (k+1):=by
      rw[zjO];exact zm3 (show 0<q by omega)
    refine zal.mk ?_
    refine Exists.intro (k+1) ?_
    refine And.intro (Leaf.mk ?_) ?_
    · repeat' first|exact True.intro|refine And.intro ?_ ?_
      all_goals try ((change _=_<;>try dsimp only)<;>try with_reducible rfl)
      all_goals try omega
      all_goals (first|exact e|exact (zae _ _).trans (zae _ _).symm)
    exact⟨by show k+1≤ps.length;omega,by show ps.length - (k+1)<ps.length - k;omega⟩
  · rename_i k hk hge
    rw[show k=ps.length by omega]
theorem zih {xs:CL} (h:lE xs=0):okL 16777216 (lP xs):=fun i=>by
  obtain⟨g1,g2,g3⟩:=zcV h
  unfold lP
  rw[if_pos h]
  by_cases hi:i<xs.length
  · rw[zaE _ _ _ _ hi]
    obtain⟨a,b⟩:=zot (g3 i hi)
    have c:=zcu a
    have d:=zcu b
    exact⟨⟨c.2.2.1,c.2.2.2.1⟩,⟨d.2.2.1,d.2.2.2.1⟩⟩
  · have:(tab (fun i=>prT (xs.getD i (0,0))) xs.length).getD i (0,0,())=(0,0,()):=by
      simp only[List.getD]
      rw[List.getElem?_eq_none (by rw[zae];omega)];rfl
    rw[this]
    exact⟨⟨by show (-16777216:Int)≤0;omega,by show (0:Int)≤16777216;omega⟩,⟨by show (-16777216:Int)≤0;omega,by show (0:Int)≤16777216;omega⟩⟩
theorem zmM {B C:Int} {ps:List IP} (h:okL B ps) (hb:B≤C):okL C ps:=fun i=>by
  have:=h i
  omega
theorem zjK {L:Int} {xs:List Int} {s:Int} (hl:pLen xs.length) (h:zci L xs s=0):pSt L xs s∧1≤s:=by
  unfold zci at h
  split at h
  · rename_i hc
    unfold ziR at h
    split at h
    · rename_i h1
      unfold most at h1
      exact⟨⟨hc,hl,by omega,by omega⟩,h1.1⟩
    · cases h
  · rename_i hc;exact absurd h hc
/-! ### The bits, as the reference makes them -/
theorem zma {a M:Int} {k m:Nat} (h0:0≤a) (p:Int):(a+p*2 ^ (k+1+m)) / 2 ^ k % 2=a / 2 ^ k % 2:=by
  have hk:(0:Int)<2 ^ k:=Int.pow_pos (by omega)
  have e:p*2 ^ (k+1+m)=2 ^ k*(2*(p*2 ^ m)):=by
    rw[Nat.add_assoc,Int.pow_add,Int.pow_add,Int.pow_one]
    rw [show p*(2 ^ k*(2*2 ^ m))=2 ^ k*(2*(p*2 ^ m)) from by
      rw[Int.mul_left_comm p,Int.mul_left_comm p]]
  rw[e,Int.add_mul_ediv_left _ _ (by omega),Int.add_mul_emod_self_left]
theorem zhW {L:Int} {xs:List Int} {s:Int} (h:pSt L xs s):∀(k t:Nat),(k:Int)<L→stI L xs s t / 2 ^ k % 2=bitI L xs s (t+k)
  | 0,t,_=>by rw[Int.pow_zero,Int.ediv_one];rfl
  | k+1,t,hk=>by
    have hs:=zbn h t
    have ih:=zhW h k (t+1) (by omega)
    rw[show t+1+k=t+(k+1) from by omega] at ih
    rw[←ih]
    simp only[stI,nxt]
    obtain⟨m,hm⟩:∃m,(L - 1).toNat=k+1+m:=⟨(L - 1).toNat - (k+1),by omega⟩
    rw[hm,zma (M:=0) (Int.ediv_nonneg hs.2.2.1 (by omega)),Int.pow_succ,Int.mul_comm,←Int.ediv_ediv_of_nonneg (by omega)]
def zbV (L:Int) (xs:List Int) (s:Int) (t:Nat):Nat→Int:=sm (fun j=>bitI L xs s (t - (xs.getD j 0).toNat))
theorem zjH {L:Int} {xs:List Int} {s:Int} (h:pSt L xs s) (t:Nat):∀k,k≤xs.length→parK L xs (stI L xs s t) k=zbV L xs s (t+L.toNat) k % 2
  | 0,_=>rfl
  | k + 1,hk=>by
    obtain⟨hL,hlen,hz,hlast⟩:=zaq h.1
    have hz:=zbJ hz k (by omega) (by omega)
    have ih:=zjH h t k (by omega)
    have e:ze1 L (stI L xs s t) (xs.getD k 0)=bitI L xs s (t+L.toNat - (xs.getD k 0).toNat):=by
      rw[show t+L.toNat - (xs.getD k 0).toNat=t+(L - xs.getD k 0).toNat from by omega]
      exact zhW h _ t (by omega)
    simp only[parK,ih,e,zbV,sm]
    omega
theorem zft {L:Int} {xs:List Int} {s:Int} (h:pSt L xs s) {t:Nat} (ht:L≤t):bitI L xs s t=zbV L xs s t xs.length % 2:=by
  have hL:=(zaq h.1).1
  obtain⟨u,hu⟩:∃u,t=u+L.toNat:=⟨t - L.toNat,by omega⟩
  subst hu
  rw[←zjH h u xs.length (Nat.le_refl _)]
  have hs:=(zbn h u).2.2
  have e:=zhW h (L - 1).toNat (u+1) (by omega)
  rw[show u+1+(L - 1).toNat=u+L.toNat from by omega] at e
  rw[←e]
  simp only[stI,nxt]
  have hp:=zeb hL
  have hpos:(0:Int)<2 ^ (L - 1).toNat:=Int.pow_pos (by omega)
  rw[Int.add_mul_ediv_right _ _ (by omega),Int.ediv_eq_zero_of_lt (by omega) (by omega)]
  have:=zdl L xs (stI L xs s u) xs.length
  omega
theorem zes {L:Int} {xs:List Int} {s:Int} (h:pSt L xs s) {t:Nat} (ht:(t:Int)<L):bitI L xs s t=s / 2 ^ t % 2:=by
  have:=zhW h t 0 ht
  rw[Nat.zero_add] at this
  exact this.symm
theorem zet {L:Int} {xs:List Int} {s:Int} (t:Nat):0≤bitI L xs s t∧bitI L xs s t≤1:=by unfold bitI;omega
abbrev sOwn (t k el:Nat) (xs:List Int):St:=[.slot t (.one (.o k xs.length)),.row k el I64 xs]
@[reducible] def znq:Spec:={pats:=[.dat Reg0,.dat I64,.dat I64],res:=[{own:=some 3,t:=.sl I64}],pre:=fun x=>pSt x.1.1 x.1.2.1 x.2.1∧0≤x.2.2.1∧x.2.2.1≤(1024:Int),f:=fun x=>(tab (bitI x.1.1 x.1.2.1 x.2.1) (Int.toNat x.2.2.1),())}
def shS (L s:Int) (k:Nat):Int:=s / 2 ^ min k L.toNat
theorem zjz {L s:Int} (h:0≤s) (k:Nat):0≤shS L s k∧shS L s k≤s:=
  ⟨Int.ediv_nonneg h (Int.pow_nonneg (by omega)),Int.ediv_le_self _ h⟩
theorem znV {L:Int} {xs:List Int} {s:Int} (h:pSt L xs s) {k:Nat} (hk:(k:Int)<L):(shS L s k).tmod 2=bitI L xs s k:=by
  have:=(zjz (L:=L) h.2.2.1 k).1
  rw[Int.tmod_eq_emod_of_nonneg this,zes h hk,shS,Nat.min_eq_left (by omega)]
theorem zjy {L:Int} {s:Int} (h:0≤s) {k:Nat} (hk:(k:Int)<L):(shS L s k).tdiv 2=shS L s (k+1):=by
  have:=(zjz (L:=L) h k).1
  rw[Int.tdiv_eq_ediv_of_nonneg this,shS,shS,Nat.min_eq_left (by omega),Nat.min_eq_left (by omega),Int.ediv_ediv_of_nonneg (Int.pow_nonneg (by omega)),Int.pow_succ]
theorem zmz {L:Int} {s:Int} {k:Nat} (hk:L≤(k:Int)):shS L s k=shS L s (k+1):=by
  rw[shS,shS,Nat.min_eq_right (by omega),Nat.min_eq_right (by omega)]
theorem zfx (L:Int) (xs:List Int) (s:Int) (t:Nat):∀j:Nat,0≤zbV L xs s t j∧zbV L xs s t j≤j
  | 0=>by simp[zbV,sm]
  | j+1=>by
    have ih:=zfx L xs s t j
    have:=zet (L:=L) (xs:=xs) (s:=s) (t - (xs.getD j 0).toNat)
    have e:zbV L xs s t (j+1)=zbV L xs s t j+bitI L xs s (t - (xs.getD j 0).toNat):=rfl
    rw[e];omega
theorem znm {L:Int} {xs:List Int} {s x:Int} {t:Nat} (h1:1≤x) (h2:x≤t):(tab (bitI L xs s) t).getD ((t:Int) - x).toNat (Ty.dflt I64)=bitI L xs s (t - x.toNat):=by
  rw[show ((t:Int) - x).toNat=t - x.toNat from by omega]
  exact zaE _ _ _ _ (by omega)
theorem h27:Ok 66 znq:=by
  refine mk (ctr:=[]) trivial (nt:=52) Try.func66 rfl rfl rfl rfl (by kernel_rfl) (by kernel_rfl) (fun x=>[fun _=>{σ:=Nat,pat:=fun k=>[sI 8 k,sI 1 (shS x.1.1 x.2.1 k)]++sOwn 7 60007 3 (tab (bitI x.1.1 x.1.2.1 x.2.1) k),inv:=fun k=>(k:Int)≤x.2.2.1,meas:=fun k=>Int.toNat x.2.2.1 - k},fun st=>znM 8 st fun t=>{σ:=Nat,pat:=fun j=>[sI 10 j,sI 9 (zbV x.1.1 x.1.2.1 x.2.1 t.toNat j)],inv:=fun j=>j≤List.length (α:=Int) x.1.2.1,meas:=fun j=>List.length (α:=Int) x.1.2.1 - j}]) ?_
  rintro⟨⟨(L:Int),(xs:List Int),_⟩,(s:Int),(n:Int),_⟩ ⟨(hp:pSt L xs s),(h0:0≤n),(h1:n≤1024)⟩
  obtain⟨hL,hlen,hz,hlast⟩:=zaq hp.1
  have hz:=zbJ hz
  have:=hp.2.1.out
  have hs:=hp.2.2
  have hP:=ze0 hL
  repeat' (intro hzz;(try (rename Two=>hq;cases hq));(try dsimp only at hzz);(try simp only[zac,zab,eqD,inR,big,zaa,Bool.not_true,Bool.not_false,Bool.true_eq,decide_eq_true_eq,decide_eq_false_iff_not,Bool.not_eq_true',Bool.not_eq_false',Bool.and_eq_true,Prod.mk.injEq,and_true,true_and,Int.not_lt,Int.not_le,gt_iff_lt,ge_iff_le] at hzz);(try simp only[zac,zab,eqD,inR,big,zaa,Bool.not_true,Bool.not_false,Bool.true_eq,decide_eq_true_eq,decide_eq_false_iff_not,Bool.not_eq_true',Bool.not_eq_false',Bool.and_eq_true,Prod.mk.injEq,and_true,true_and,Int.not_lt,Int.not_le,gt_iff_lt,ge_iff_le,zae,za1] at hzz);(try (first|contradiction|(exfalso;omega)));(try (revert hzz;intro _)))
  all_goals try (rename Unit=>hq;clear hq)
  all_goals try ((with_reducible refine Held.mk ?_);(with_reducible (first|refine Frz.mk ?_|refine And.intro (Frz.mk ?_) ?_|refine And.intro ?_ (Frz.mk ?_)));repeat' first|exact True.intro|(change _=_;with_reducible rfl)|refine And.intro ?_ ?_|(with_reducible refine Frz.mk ?_))
  all_goals try (refine Held.mk ?_;(try dsimp only at *);(try simp only[zac,zab,eqD,inR,big,zaa,Bool.not_true,Bool.not_false,Bool.true_eq,decide_eq_true_eq,decide_eq_false_iff_not,Bool.not_eq_true',Bool.not_eq_false',Bool.and_eq_true,Prod.mk.injEq,and_true,true_and,Int.not_lt,Int.not_le,gt_iff_lt,ge_iff_le] at *);(try simp only[zac,zab,eqD,inR,big,zaa,Bool.not_true,Bool.not_false,Bool.true_eq,decide_eq_true_eq,decide_eq_false_iff_not,Bool.not_eq_true',Bool.not_eq_false',Bool.and_eq_true,Prod.mk.injEq,and_true,true_and,Int.not_lt,Int.not_le,gt_iff_lt,ge_iff_le,zae,za1] at *))
  all_goals try omega
  ·
    refine zal.mk ?_
    refine Exists.intro 0 ?_
    refine And.intro (Leaf.mk ?_) ?_
    · repeat' first|exact True.intro|refine And.intro ?_ ?_
      all_goals try ((change _=_<;>try dsimp only)<;>try with_reducible rfl)
      all_goals try omega
      all_goals (first|rfl|(show s=s / 2 ^ min 0 L.toNat;rw[Nat.min_eq_left (Nat.zero_le _),Int.pow_zero,Int.ediv_one]))
    exact h0
  · show _+1≤2147483648
    omega
  · rename_i k hk hg h
    have:=zjz (L:=L) hs.1 k
    rw[zjy hs.1 h]
    have:=zjz (L:=L) hs.1 (k+1)
    omega
  · rename_i k hk hg h
    have e1:tab (bitI L xs s) k++[(shS L s k).tmod 2]=tab (bitI L xs s) (k+1):=by rw[znV hp h];rfl
    have e2:=zjy hs.1 h
    rw[e1]
    refine zal.mk ?_
    refine Exists.intro (k+1) ?_
    refine And.intro (Leaf.mk ?_) ?_
    · repeat' first|exact True.intro|refine And.intro ?_ ?_
      all_goals try ((change _=_<;>try dsimp only)<;>try with_reducible rfl)
      all_goals try omega
      all_goals (first|rfl|exact e2|(rw[zae];rfl))
    exact⟨by show ((k+1:Nat):Int)≤n;omega,by show n.toNat - (k+1)<n.toNat - k;omega⟩
  · rename_i k hk hg h
    refine zal.mk ?_
    refine Exists.intro 0 ?_
    refine And.intro (Leaf.mk ?_) ?_
    · repeat' first|exact True.intro|refine And.intro ?_ ?_
      all_goals try ((change _=_<;>try dsimp only)<;>try with_reducible rfl)
      all_goals try omega
      all_goals (rfl)
    exact Nat.zero_le _
  · rename_i k hk hg h j hj hg'
    have:=hz j (by omega) (by omega)
    omega
  · rename_i k hk hg h j hj hg'
    have:=hz j (by omega) (by omega)
    omega
  · rename_i k hk hg h j hj hg'
    have:=hz j (by omega) (by omega)
    omega
  · rename_i k hk hg h j hj hg'
    have h3:=hz j (by omega) (by omega)
    rw[znm h3.1 (by omega)]
    have:=zfx L xs s (k:Int).toNat j
    have:=zet (L:=L) (xs:=xs) (s:=s) (k - (xs.getD j 0).toNat)
    omega
  · rename_i k hk hg h j hj hg'
    have h3:=hz j (by omega) (by omega)
    have e:zbV L xs s (k:Int).toNat j+(tab (bitI L xs s) k).getD ((k:Int) - xs.getD j 0).toNat (Ty.dflt I64)=zbV L xs s (k:Int).toNat (j+1):=by
      rw[znm h3.1 (by omega)];rfl
    refine zal.mk ?_
    refine Exists.intro (j+1) ?_
    refine And.intro (Leaf.mk ?_) ?_
    · repeat' first|exact True.intro|refine And.intro ?_ ?_
      all_goals try ((change _=_<;>try dsimp only)<;>try with_reducible rfl)
      all_goals try omega
      all_goals (exact e)
    exact⟨by show j+1≤xs.length;omega,by show xs.length - (j+1)<xs.length - j;omega⟩
  · show _+1≤2147483648
    omega
  · rename_i k hk hg h j hj hg'
    have hj:j=xs.length:=by omega
    subst hj
    have e0:(zbV L xs s (k:Int).toNat xs.length).tmod 2=bitI L xs s k:=by
      rw[Int.tmod_eq_emod_of_nonneg (zfx L xs s _ _).1,zft hp h];rfl
    have e1:tab (bitI L xs s) k++[(zbV L xs s (k:Int).toNat xs.length).tmod 2]=tab (bitI L xs s) (k+1):=by rw[e0];rfl
    have e2:=zmz (L:=L) (s:=s) h
    rw[e1]
    refine zal.mk ?_
    refine Exists.intro (k+1) ?_
    refine And.intro (Leaf.mk ?_) ?_
    · repeat' first|exact True.intro|refine And.intro ?_ ?_
      all_goals try ((change _=_<;>try dsimp only)<;>try with_reducible rfl)
      all_goals try omega
      all_goals (first|rfl|exact e2|(rw[zae];rfl))
    exact⟨by show ((k+1:Nat):Int)≤n;omega,by show n.toNat - (k+1)<n.toNat - k;omega⟩
  · rename_i k hk hg
    rw[show n.toNat=k from by omega]
@[reducible] def znp:Spec:={pats:=[.dat Reg0,.dat I64],res:=[{t:=I64}],pre:=fun x=>pSt x.1.1 x.1.2.1 x.2.1,f:=fun x=>(nxt x.1.1 x.1.2.1 x.2.1,())}
theorem h90:Ok 55 znp:=by
  refine mk (ctr:=[(66,znq)]) ⟨h27,trivial⟩ (nt:=28) Try.func55 rfl rfl rfl rfl (by kernel_rfl) (by kernel_rfl) (fun x=>[fun _=>{σ:=Nat,pat:=fun k=>[sI 7 k,sI 6 (nxt x.1.1 x.1.2.1 x.2.1 / 2 ^ k)],inv:=fun k=>(k:Int)≤x.1.1,meas:=fun k=>k}]) ?_
  rintro⟨⟨(L:Int),(xs:List Int),_⟩,(s:Int),_⟩ (hp:pSt L xs s)
  have hL:=(zaq hp.1).1
  have hP:=ze0 hL
  have hn:0≤nxt L xs s∧nxt L xs s<P2 L:=(zbn hp 1).2.2
  have hle:∀k:Nat,0≤nxt L xs s / 2 ^ k∧nxt L xs s / 2 ^ k≤nxt L xs s:=fun k=>⟨Int.ediv_nonneg hn.1 (Int.pow_nonneg (by omega)),Int.ediv_le_self _ hn.1⟩
  have hget:∀k:Nat,(k:Int)≤L→(tab (bitI L xs s) (L+1).toNat).getD k 0=bitI L xs s k:=fun k hk=>zaE _ _ _ _ (by omega)
  have hstep:∀k:Nat,1≤(k:Int)→(k:Int)≤L→2*(nxt L xs s / 2 ^ k)+bitI L xs s k=nxt L xs s / 2 ^ (k - 1):=by
    intro k h1 h2
    obtain⟨m,rfl⟩:∃m,k=m+1:=⟨k - 1,by omega⟩
    have h3:=zhW hp m 1 (by omega)
    rw[show 1+m=m+1 from by omega] at h3
    have h3:nxt L xs s / 2 ^ m % 2=bitI L xs s (m+1):=h3
    rw[Nat.add_sub_cancel,Int.pow_succ,←Int.ediv_ediv_of_nonneg (Int.pow_nonneg (by omega)),←h3]
    omega
  repeat' (intro hzz;(try (rename Two=>hq;cases hq));(try dsimp only at hzz);(try simp only[zac,zab,eqD,inR,big,zaa,Bool.not_true,Bool.not_false,Bool.true_eq,decide_eq_true_eq,decide_eq_false_iff_not,Bool.not_eq_true',Bool.not_eq_false',Bool.and_eq_true,Prod.mk.injEq,and_true,true_and,Int.not_lt,Int.not_le,gt_iff_lt,ge_iff_le] at hzz);(try simp only[zac,zab,eqD,inR,big,zaa,Bool.not_true,Bool.not_false,Bool.true_eq,decide_eq_true_eq,decide_eq_false_iff_not,Bool.not_eq_true',Bool.not_eq_false',Bool.and_eq_true,Prod.mk.injEq,and_true,true_and,Int.not_lt,Int.not_le,gt_iff_lt,ge_iff_le,zae,za1] at hzz);(try (first|contradiction|(exfalso;omega)));(try (revert hzz;intro _)))
  all_goals try (rename Unit=>hq;clear hq)
  all_goals try ((with_reducible refine Held.mk ?_);(with_reducible (first|refine Frz.mk ?_|refine And.intro (Frz.mk ?_) ?_|refine And.intro ?_ (Frz.mk ?_)));repeat' first|exact True.intro|(change _=_;with_reducible rfl)|refine And.intro ?_ ?_|(with_reducible refine Frz.mk ?_))
  all_goals try (refine Held.mk ?_;(try dsimp only at *);(try simp only[zac,zab,eqD,inR,big,zaa,Bool.not_true,Bool.not_false,Bool.true_eq,decide_eq_true_eq,decide_eq_false_iff_not,Bool.not_eq_true',Bool.not_eq_false',Bool.and_eq_true,Prod.mk.injEq,and_true,true_and,Int.not_lt,Int.not_le,gt_iff_lt,ge_iff_le] at *);(try simp only[zac,zab,eqD,inR,big,zaa,Bool.not_true,Bool.not_false,Bool.true_eq,decide_eq_true_eq,decide_eq_false_iff_not,Bool.not_eq_true',Bool.not_eq_false',Bool.and_eq_true,Prod.mk.injEq,and_true,true_and,Int.not_lt,Int.not_le,gt_iff_lt,ge_iff_le,zae,za1] at *))
  all_goals try omega
  · exact⟨hp,(show (0:Int)≤L+1 by omega),(show L+1≤(1024:Int) by omega)⟩
  · have e0:nxt L xs s / 2 ^ L.toNat=0:=Int.ediv_eq_zero_of_lt hn.1 hn.2
    have e1:(L.toNat:Int)=L:=Int.toNat_of_nonneg (by omega)
    refine zal.mk ?_
    refine Exists.intro L.toNat ?_
    refine And.intro (Leaf.mk ?_) ?_
    · repeat' first|exact True.intro|refine And.intro ?_ ?_
      all_goals try ((change _=_<;>try dsimp only)<;>try with_reducible rfl)
      all_goals try omega
      all_goals (first|exact e0.symm|exact e1.symm)
    show (L.toNat:Int)≤L
    omega
  · rename_i k hk hg
    have:=hle k
    omega
  · rename_i k hk hg
    have:=hle k
    have:=zet (L:=L) (xs:=xs) (s:=s) k
    rw[hget k hk]
    omega
  · rename_i k hk hg
    have e:=hstep k hg hk
    rw[←hget k hk] at e
    obtain⟨m,hm⟩:∃m,k=m+1:=⟨k - 1,by omega⟩
    subst hm
    rw[Nat.add_sub_cancel] at e
    refine zal.mk ?_
    refine Exists.intro m ?_
    refine And.intro (Leaf.mk ?_) ?_
    · repeat' first|exact True.intro|refine And.intro ?_ ?_
      all_goals try ((change _=_<;>try dsimp only)<;>try with_reducible rfl)
      all_goals try omega
      all_goals (first|exact e|(show ((m+1:Nat):Int) - 1=m;omega))
    exact⟨by show (m:Int)≤L;omega,by show m<m+1;omega⟩
  · rename_i k hk hg
    have hk0:k=0:=by omega
    subst hk0
    rw[Int.pow_zero,Int.ediv_one]
@[reducible] def zoW:Spec:={pats:=[.dat Reg0,.dat I64],res:=[{t:=I64}],pre:=fun x=>pSt x.1.1 x.1.2.1 x.2.1,f:=fun x=>((per x.1.1 x.1.2.1 x.2.1:Int),())}
theorem h24:Ok 41 zoW:=by
  refine mk (ctr:=[(55,znp)]) ⟨h90,trivial⟩ (nt:=19) Try.func41 rfl rfl rfl rfl (by kernel_rfl) (by kernel_rfl) (fun x=>[fun _=>{σ:=Nat,pat:=fun k=>[sI 5 (k+1:Int),sI 6 (stI x.1.1 x.1.2.1 x.2.1 (k+1))],inv:=fun k=>nyet x.1.1 x.1.2.1 x.2.1 k,meas:=fun k=>per x.1.1 x.1.2.1 x.2.1 - k}]) ?_
  rintro⟨⟨(L:Int),(xs:List Int),_⟩,(s:Int),_⟩ (hp:pSt L xs s)
  have hper:=zbx hp
  have hP:=ze0 (zaq hp.1).1
  repeat' (intro hzz;(try (rename Two=>hq;cases hq));(try dsimp only at hzz);(try simp only[zac,zab,eqD,inR,big,zaa,Bool.not_true,Bool.not_false,Bool.true_eq,decide_eq_true_eq,decide_eq_false_iff_not,Bool.not_eq_true',Bool.not_eq_false',Bool.and_eq_true,Prod.mk.injEq,and_true,true_and,Int.not_lt,Int.not_le,gt_iff_lt,ge_iff_le] at hzz);(try (first|contradiction|(exfalso;omega)));(try (revert hzz;intro _)))
  all_goals try (rename Unit=>hq;clear hq)
  all_goals try ((with_reducible refine Held.mk ?_);(with_reducible (first|refine Frz.mk ?_|refine And.intro (Frz.mk ?_) ?_|refine And.intro ?_ (Frz.mk ?_)));repeat' first|exact True.intro|(change _=_;with_reducible rfl)|refine And.intro ?_ ?_|(with_reducible refine Frz.mk ?_))
  all_goals try (refine Held.mk ?_;(try dsimp only at *);(try simp only[zac,zab,eqD,inR,big,zaa,Bool.not_true,Bool.not_false,Bool.true_eq,decide_eq_true_eq,decide_eq_false_iff_not,Bool.not_eq_true',Bool.not_eq_false',Bool.and_eq_true,Prod.mk.injEq,and_true,true_and,Int.not_lt,Int.not_le,gt_iff_lt,ge_iff_le] at *))
  all_goals try omega
  ·
    refine zal.mk ?_
    refine Exists.intro 0 ?_
    refine And.intro (Leaf.mk ?_) ?_
    · repeat' first|exact True.intro|refine And.intro ?_ ?_
      all_goals try ((change _=_<;>try dsimp only)<;>try with_reducible rfl)
      all_goals try omega
      all_goals (rfl)
    exact fun m h1 h2=>by omega
  · rename_i k hk h
    have:=zfT hp hk
    omega
  · rename_i k hk h
    exact zbn hp (k+1)
  · rename_i k hk h
    have hlt:=zfT hp hk
    refine zal.mk ?_
    refine Exists.intro (k+1) ?_
    refine And.intro (Leaf.mk ?_) ?_
    · repeat' first|exact True.intro|refine And.intro ?_ ?_
      all_goals try ((change _=_<;>try dsimp only)<;>try with_reducible rfl)
      all_goals try omega
      all_goals (rfl)
    have hn:nyet L xs s (k+1):=fun m h1 h2=>by
      by_cases hm:m=k+1
      · subst hm;exact h
      · exact hk m h1 (by omega)
    exact⟨hn,by show per L xs s - (k+1)<per L xs s - k;omega⟩
  · rename_i k hk h
    have:=zjN hp hk h
    omega
def mixT (f g:Nat→Int) (n k:Nat):List Int:=tab (fun i=>if i<k then f i else g i) n
def sgI (L:Int) (xs:List Int) (s:Int) (i:Nat):Int:=1 - 2*bitI L xs s i
theorem zdB (f g:Nat→Int) (n k:Nat):(mixT f g n k).length=n:=zae _ _
theorem zhn {f g:Nat→Int} {n k:Nat} (h:k<n):(mixT f g n k).getD k 0=g k:=by
  rw[mixT,zaE _ _ _ _ h];simp
theorem zmP {f g:Nat→Int} {n k:Nat} (h:k<n):(mixT f g n k).set k (f k)=mixT f g n (k+1):=by
  apply List.ext_getElem
  · rw[List.length_set,zdB,zdB]
  · intro i h1 h2
    have hi:i<n:=by rw[zdB] at h2;exact h2
    have g1:(mixT f g n k).getD i 0=if i<k then f i else g i:=zaE _ _ _ _ hi
    have g2:(mixT f g n (k+1)).getD i 0=if i<k+1 then f i else g i:=zaE _ _ _ _ hi
    rw[List.getElem_set]
    simp only[List.getD,List.getElem?_eq_getElem h2,List.getElem?_eq_getElem (show i<(mixT f g n k).length by rw[zdB];exact hi),Option.getD_some] at g1 g2
    rw[g2]
    by_cases he:k=i
    · subst he;simp
    · rw[if_neg he,g1]
      by_cases hik:i<k
      · rw[if_pos hik,if_pos (by omega)]
      · rw[if_neg hik,if_neg (by omega)]
theorem zlF (f g:Nat→Int) (n:Nat):mixT f g n 0=tab g n:=zaG n fun i _=>by simp
theorem zmQ (f g:Nat→Int) (n:Nat):mixT f g n n=tab f n:=zaG n fun i hi=>by simp[hi]
def byP (a:IP) (n:Int):IP:=(a.1*n,a.2.1*n,())
def sgA (sg:List Int) (m:Int):Int:=sg.getD (fMod m sg.length).toNat 0
def trV (ps:List IP) (sg:List Int) (a way:Int):Nat→IP
  | 0=>(0,0,())
  | k+1=>zdX (trV ps sg a way k) (byP (ps.getD k (0,0,())) (sgA sg (way*(a - k))))
def okS (sg:List Int):Prop:=∀i:Nat,-1≤sg.getD i 0∧sg.getD i 0≤1
theorem zkC {n s B:Int} (h1 : -B≤n) (h2:n≤B) (h3 : -1≤s) (h4:s≤1) : -B≤n*s∧n*s≤B:=by
  rcases (show s = -1∨s=0∨s=1 by omega) with rfl|rfl|rfl
  · rw[Int.mul_neg,Int.mul_one];omega
  · rw[Int.mul_zero];omega
  · rw[Int.mul_one];omega
theorem zju {ps:List IP} {sg:List Int} {a way:Int} (h:okL 16777216 ps) (hs:okS sg):∀k:Nat,(-(k*16777216)≤(trV ps sg a way k).1∧(trV ps sg a way k).1≤k*16777216)∧(-(k*16777216)≤(trV ps sg a way k).2.1∧(trV ps sg a way k).2.1≤k*16777216)
  | 0=>by simp[trV]
  | k+1=>by
    have ih:=zju (a:=a) (way:=way) h hs k
    have hk:=h k
    have hsk:=hs (fMod (way*(a - k)) sg.length).toNat
    have b1:=zkC hk.1.1 hk.1.2 hsk.1 hsk.2
    have b2:=zkC hk.2.1 hk.2.2 hsk.1 hsk.2
    show (_≤(trV ps sg a way k).1+(ps.getD k (0,0,())).1*sg.getD (fMod (way*(a - k)) sg.length).toNat 0∧(trV ps sg a way k).1+(ps.getD k (0,0,())).1*sg.getD (fMod (way*(a - k)) sg.length).toNat 0≤_)∧(_≤(trV ps sg a way k).2.1+(ps.getD k (0,0,())).2.1*sg.getD (fMod (way*(a - k)) sg.length).toNat 0∧(trV ps sg a way k).2.1+(ps.getD k (0,0,())).2.1*sg.getD (fMod (way*(a - k)) sg.length).toNat 0≤_)
    omega
theorem zl0 {m n:Int} (h:0<n):0≤fMod m n∧fMod m n<n:=⟨Int.emod_nonneg _ (by omega),Int.emod_lt_of_pos _ h⟩
@[reducible] def ziV:Spec:={pats:=[.dat (.sl zak),.dat (.sl I64),.dat I64,.dat I64],res:=[{t:=zak}],pre:=fun x=>List.length (α:=IP) x.1≤1024∧okL 16777216 x.1∧(1≤List.length (α:=Int) x.2.1∧List.length (α:=Int) x.2.1≤1024)∧okS x.2.1∧(0≤x.2.2.1∧x.2.2.1≤(1024:Int))∧(x.2.2.2.1=(1:Int)∨x.2.2.2.1=(-1:Int)),f:=fun x=>(trV x.1 x.2.1 x.2.2.1 x.2.2.2.1 (List.length (α:=IP) x.1),())}
theorem h96n:Ok 28 ziV:=by
  refine mk (ctr:=[(49,sMod),(48,sBy),(30,zlg)]) ⟨h109,h149,h122,trivial⟩ (nt:=36) Try.func28 rfl rfl rfl rfl (by kernel_rfl) (by kernel_rfl) (fun x=>[fun _=>{σ:=Nat,pat:=fun k=>[sI 14 k,.cell 9 0 (.d I64 (trV x.1 x.2.1 x.2.2.1 x.2.2.2.1 k).1),.cell 9 1 (.d I64 (trV x.1 x.2.1 x.2.2.1 x.2.2.2.1 k).2.1)],inv:=fun k=>k≤List.length (α:=IP) x.1,meas:=fun k=>List.length (α:=IP) x.1 - k}]) ?_
  rintro⟨(ps:List IP),(sg:List Int),(a:Int),(way:Int),_⟩ ⟨(hl:ps.length≤1024),(hp:okL 16777216 ps),⟨(hs1:1≤sg.length),(hs2:sg.length≤1024)⟩,(hs:okS sg),⟨(ha:0≤a),(ha2:a≤1024)⟩,(hw:way=1∨way = -1)⟩
  have hwm:∀k:Nat,k<1024→-2000≤way*(a - k)∧way*(a - k)≤2000:=fun k hk=>by
    rcases hw with rfl|rfl
    · rw[Int.one_mul];omega
    · rw[Int.neg_mul,Int.one_mul];omega
  repeat' (intro hzz;(try (rename Two=>hq;cases hq));(try dsimp only at hzz);(try simp only[zac,zab,eqD,inR,big,zaa,Bool.not_true,Bool.not_false,Bool.true_eq,decide_eq_true_eq,decide_eq_false_iff_not,Bool.not_eq_true',Bool.not_eq_false',Bool.and_eq_true,Prod.mk.injEq,and_true,true_and,Int.not_lt,Int.not_le,gt_iff_lt,ge_iff_le] at hzz);(try simp only[zac,zab,eqD,inR,big,zaa,Bool.not_true,Bool.not_false,Bool.true_eq,decide_eq_true_eq,decide_eq_false_iff_not,Bool.not_eq_true',Bool.not_eq_false',Bool.and_eq_true,Prod.mk.injEq,and_true,true_and,Int.not_lt,Int.not_le,gt_iff_lt,ge_iff_le,zgK] at hzz);(try (first|contradiction|(exfalso;omega)));(try (revert hzz;intro _)))
  all_goals try (rename Unit=>hq;clear hq)
  all_goals try ((with_reducible refine Held.mk ?_);(with_reducible (first|refine Frz.mk ?_|refine And.intro (Frz.mk ?_) ?_|refine And.intro ?_ (Frz.mk ?_)));repeat' first|exact True.intro|(change _=_;with_reducible rfl)|refine And.intro ?_ ?_|(with_reducible refine Frz.mk ?_))
  all_goals try (refine Held.mk ?_;(try dsimp only at *);(try simp only[zac,zab,eqD,inR,big,zaa,Bool.not_true,Bool.not_false,Bool.true_eq,decide_eq_true_eq,decide_eq_false_iff_not,Bool.not_eq_true',Bool.not_eq_false',Bool.and_eq_true,Prod.mk.injEq,and_true,true_and,Int.not_lt,Int.not_le,gt_iff_lt,ge_iff_le] at *);(try simp only[zac,zab,eqD,inR,big,zaa,Bool.not_true,Bool.not_false,Bool.true_eq,decide_eq_true_eq,decide_eq_false_iff_not,Bool.not_eq_true',Bool.not_eq_false',Bool.and_eq_true,Prod.mk.injEq,and_true,true_and,Int.not_lt,Int.not_le,gt_iff_lt,ge_iff_le,zgK] at *))
  all_goals try omega
  ·
    refine zal.mk ?_
    refine Exists.intro 0 ?_
    refine And.intro (Leaf.mk ?_) ?_
    · repeat' first|exact True.intro|refine And.intro ?_ ?_
      all_goals try ((change _=_<;>try dsimp only)<;>try with_reducible rfl)
      all_goals try omega
      all_goals (rfl)
    exact Nat.zero_le _
  · rename_i k hk hlt
    have:=hwm k (by omega)
    omega
  · exact⟨(show (0:Int)<sg.length by omega),(show (sg.length:Int)≤2000000000000000000 by omega)⟩
  · exact zl0 (by omega)
  · rename_i k hk hlt
    have hk:=hp k
    have hsk:=hs (fMod (way*(a - k)) sg.length).toNat
    exact⟨by unfold okP;omega,by unfold okP;omega,(show okP (sg.getD (fMod (way*(a - k)) sg.length).toNat 0) by unfold okP;omega)⟩
  · rename_i k hk hlt
    have hk2:=hp k
    have hsk:=hs (fMod (way*(a - k)) sg.length).toNat
    have b1:=zkC hk2.1.1 hk2.1.2 hsk.1 hsk.2
    have b2:=zkC hk2.2.1 hk2.2.2 hsk.1 hsk.2
    have hv:=zju (a:=a) (way:=way) hp hs k
    exact⟨by unfold okI;omega,by unfold okI;omega,(show okI ((ps.getD k (0,0,())).1*sg.getD (fMod (way*(a - k)) sg.length).toNat 0) by unfold okI;omega),(show okI ((ps.getD k (0,0,())).2.1*sg.getD (fMod (way*(a - k)) sg.length).toNat 0) by unfold okI;omega)⟩
  · rename_i k hk hlt
    refine zal.mk ?_
    refine Exists.intro (k+1) ?_
    refine And.intro (Leaf.mk ?_) ?_
    · repeat' first|exact True.intro|refine And.intro ?_ ?_
      all_goals try ((change _=_<;>try dsimp only)<;>try with_reducible rfl)
      all_goals try omega
      all_goals (rfl)
    exact⟨by show k+1≤ps.length;omega,by show ps.length - (k+1)<ps.length - k;omega⟩
  · rename_i k hk hge
    rw[show k=ps.length by omega]
    exact⟨rfl,rfl⟩
theorem zfR {B:Int} {f:Nat→IP} {n:Nat} (hB:0≤B) (h:∀i,i<n→(-B≤(f i).1∧(f i).1≤B)∧(-B≤(f i).2.1∧(f i).2.1≤B)):okL B (tab f n):=fun i=>by
  by_cases hi:i<n
  · rw[zaE _ _ _ _ hi];exact h i hi
  · have:(tab f n).getD i (0,0,())=(0,0,()):=by
      simp only[List.getD]
      rw[List.getElem?_eq_none (by rw[zae];omega)];rfl
    rw[this]
    exact⟨⟨(show -B≤0 by omega),hB⟩,⟨(show -B≤0 by omega),hB⟩⟩
@[reducible] def ziX:Spec:={pats:=[.dat Reg,.dat I64],res:=[{t:=.sl I64}],pre:=fun x=>pSt x.1.1.1 x.1.1.2.1 x.2.1,f:=fun x=>(tab (sgI x.1.1.1 x.1.1.2.1 x.2.1) (most x.1.1.1).toNat,())}
theorem h95d:Ok 27 ziX:=by
  refine mk (ctr:=[(25,zkh),(47,zo8)]) ⟨h94,h87,trivial⟩ (nt:=28) Try.func27 rfl rfl rfl rfl (by kernel_rfl) (by kernel_rfl) (fun x=>[fun _=>{σ:=Nat,pat:=fun k=>[sI 15 k,.row 12 3 I64 (mixT (sgI x.1.1.1 x.1.1.2.1 x.2.1) (bitI x.1.1.1 x.1.1.2.1 x.2.1) (most x.1.1.1).toNat k)],inv:=fun k=>k≤(most x.1.1.1).toNat,meas:=fun k=>(most x.1.1.1).toNat - k}]) ?_
  rintro⟨⟨⟨(L:Int),(xs:List Int),_⟩,_⟩,(s:Int),_⟩ (hp:pSt L xs s)
  have hL:=(zaq hp.1).1
  have hP:=ze0 hL
  repeat' (intro hzz;(try (rename Two=>hq;cases hq));(try dsimp only at hzz);(try simp only[zac,zab,eqD,inR,big,zaa,Bool.not_true,Bool.not_false,Bool.true_eq,decide_eq_true_eq,decide_eq_false_iff_not,Bool.not_eq_true',Bool.not_eq_false',Bool.and_eq_true,Prod.mk.injEq,and_true,true_and,Int.not_lt,Int.not_le,gt_iff_lt,ge_iff_le] at hzz);(try simp only[zac,zab,eqD,inR,big,zaa,Bool.not_true,Bool.not_false,Bool.true_eq,decide_eq_true_eq,decide_eq_false_iff_not,Bool.not_eq_true',Bool.not_eq_false',Bool.and_eq_true,Prod.mk.injEq,and_true,true_and,Int.not_lt,Int.not_le,gt_iff_lt,ge_iff_le,zae,za1,zdB] at hzz);(try (first|contradiction|(exfalso;omega)));(try (revert hzz;intro _)))
  all_goals try (rename Unit=>hq;clear hq)
  all_goals try ((with_reducible refine Held.mk ?_);(with_reducible (first|refine Frz.mk ?_|refine And.intro (Frz.mk ?_) ?_|refine And.intro ?_ (Frz.mk ?_)));repeat' first|exact True.intro|(change _=_;with_reducible rfl)|refine And.intro ?_ ?_|(with_reducible refine Frz.mk ?_))
  all_goals try (refine Held.mk ?_;(try dsimp only at *);(try simp only[zac,zab,eqD,inR,big,zaa,Bool.not_true,Bool.not_false,Bool.true_eq,decide_eq_true_eq,decide_eq_false_iff_not,Bool.not_eq_true',Bool.not_eq_false',Bool.and_eq_true,Prod.mk.injEq,and_true,true_and,Int.not_lt,Int.not_le,gt_iff_lt,ge_iff_le] at *);(try simp only[zac,zab,eqD,inR,big,zaa,Bool.not_true,Bool.not_false,Bool.true_eq,decide_eq_true_eq,decide_eq_false_iff_not,Bool.not_eq_true',Bool.not_eq_false',Bool.and_eq_true,Prod.mk.injEq,and_true,true_and,Int.not_lt,Int.not_le,gt_iff_lt,ge_iff_le,zae,za1,zdB] at *))
  all_goals try omega
  · exact⟨hp,(show (0:Int)≤most L by unfold most;omega),(show most L≤(1024:Int) by unfold most;omega)⟩
  ·
    refine zal.mk ?_
    refine Exists.intro 0 ?_
    refine And.intro (Leaf.mk ?_) ?_
    · repeat' first|exact True.intro|refine And.intro ?_ ?_
      all_goals try ((change _=_<;>try dsimp only)<;>try with_reducible rfl)
      all_goals try omega
      all_goals (first|exact (zlF _ _ _).symm|rfl|(rw[zae]))
    exact Nat.zero_le _
  · rename_i k hk hg
    rw[zhn (by omega)]
    have:=zet (L:=L) (xs:=xs) (s:=s) k
    omega
  · rename_i k hk hg
    rw[zhn (by omega)]
    have:=zet (L:=L) (xs:=xs) (s:=s) k
    omega
  · rename_i k hk hg
    unfold most at hg
    omega
  · rename_i k hk hg
    have e:(mixT (sgI L xs s) (bitI L xs s) (most L).toNat k).set k (1 - 2*(mixT (sgI L xs s) (bitI L xs s) (most L).toNat k).getD k 0)=mixT (sgI L xs s) (bitI L xs s) (most L).toNat (k+1):=by
      rw[zhn (by omega)]
      exact zmP (by omega)
    refine zal.mk ?_
    refine Exists.intro (k+1) ?_
    refine And.intro (Leaf.mk ?_) ?_
    · repeat' first|exact True.intro|refine And.intro ?_ ?_
      all_goals try ((change _=_<;>try dsimp only)<;>try with_reducible rfl)
      all_goals try omega
      all_goals (exact e)
    exact⟨by show k+1≤(most L).toNat;omega,by show (most L).toNat - (k+1)<(most L).toNat - k;omega⟩
  all_goals first|exact (zae _ _).trans (zae _ _).symm|(rename_i k hk hg;rw[show k=(most L).toNat from by omega,zmQ])
def sgL (L:Int) (ts:List Int) (s:Int):List Int:=tab (sgI L ts s) (most L).toNat
theorem zg8 (L:Int) (ts:List Int) (s:Int):(sgL L ts s).length=(most L).toNat:=zae _ _
theorem zhZ {L:Int} {ts:List Int} {s:Int} (h:pSt L ts s):okS (sgL L ts s):=fun i=>by
  unfold sgL
  by_cases hi:i<(most L).toNat
  · rw[zaE _ _ _ _ hi]
    have:=zet (L:=L) (xs:=ts) (s:=s) i
    unfold sgI;omega
  · have:(tab (sgI L ts s) (most L).toNat).getD i 0=0:=by
      simp only[List.getD]
      rw[List.getElem?_eq_none (by rw[zae];omega)];rfl
    rw[this];omega
def exf (xs:CL) (L:Int):List IP:=flL (lP xs) (most L).toNat (lP xs).length
def exF (xs:CL) (L:Int) (ts:List Int) (s:Int) (t:Nat):IP:=trV (exf xs L) (sgL L ts s) t 1 (exf xs L).length
def exL (xs:CL) (L:Int) (ts:List Int) (s:Int):List IP:=tab (exF xs L ts s) (most L).toNat
def exE (xs:CL) (L:Int) (ts:List Int) (s:Int):Int:=if lE xs=0 then (if zci L ts s=0 then (if za9 (exf xs L)=true then tE (exL xs L ts s) else 8) else zci L ts s) else lE xs
def exR (xs:CL) (L:Int) (ts:List Int) (s:Int):CL:=if lE xs=0 then (if zci L ts s=0 then (if za9 (exf xs L)=true then tL (exL xs L ts s) else []) else []) else []
theorem zpN (xs:CL) (L:Int) (ts:List Int) (s:Int):okC (exR xs L ts s):=by
  unfold exR
  split
  · split
    · split
      · exact znT _
      · exact zfS
    · exact zfS
  · exact zfS
theorem zd2 (xs:CL) (L:Int):(exf xs L).length=(most L).toNat:=zae _ _
theorem zhm {L:Int} (h:2≤L∧L≤8):3≤most L∧most L≤255:=by
  have:=ze0 h
  unfold most;omega
theorem zon {ps:List IP} (h:za9 ps=true):okL 16777216 ps:=fun i=>zcG h i
@[reducible] def sExc:Spec:={pats:=[.dat (.sl C64),.dat Reg0,.dat I64],res:=[{own:=some 39,t:=.sl C64},{t:=I64}],pre:=fun x=>pLen (List.length (α:=Int) x.2.1.2.1),f:=fun x=>(exR x.1 x.2.1.1 x.2.1.2.1 x.2.2.1,exE x.1 x.2.1.1 x.2.1.2.1 x.2.2.1,())}
theorem h31n : Ok 8 sExc:=by
  refine mk (ctr:=[(22,znZ),(23,zn0),(25,zkh),(24,zo2),(26,zmB),(27,ziX),(28,ziV)]) ⟨h91n,h83,h94,h92n,h93n,h95d,h96n,trivial⟩ (nt:=66) Try.func8 rfl rfl rfl rfl (by kernel_rfl) (by kernel_rfl) (fun x=>[fun _=>{σ:=Nat,pat:=fun t=>[sI 51 t]++rOwn 15 60015 78 zak (tab (exF x.1 x.2.1.1 x.2.1.2.1 x.2.2.1) t),inv:=fun t=>t≤(most x.2.1.1).toNat,meas:=fun t=>(most x.2.1.1).toNat - t}]) ?_
  rintro⟨(xs:CL),⟨(L:Int),(ts:List Int),_⟩,(s:Int),_⟩ (hts:pLen ts.length)
  by_cases h:lE xs=0
  · have hp := zih h
    have hl:=zcn h
    have hl2:=(zcV h).2.1
    by_cases ho:zci L ts s=0
    · obtain ⟨hst,hs1⟩:=zjK hts ho
      have hL:=(zaq hst.1).1
      have hm:=zhm hL
      by_cases hf:za9 (exf xs L)=true
      · have u:exE xs L ts s=tE (exL xs L ts s):=by unfold exE;rw[if_pos h,if_pos ho,if_pos hf]
        have v:exR xs L ts s=tL (exL xs L ts s):=by unfold exR;rw[if_pos h,if_pos ho,if_pos hf]
        have w:=(zoM hf).2.symm
        have hfl:=zd2 xs L
        have hsl:=zg8 L ts s
        have hx:flL (lP xs) (most L).toNat (lP xs).length=exf xs L:=rfl
        have hsg:tab (sgI L ts s) (most L).toNat=sgL L ts s:=rfl
        have hso:=zhZ hst
        repeat' (intro hzz;(try (rename Two=>hq;cases hq));(try dsimp only at hzz);(try simp only[zac,zab,eqD,inR,big,zaa,Bool.not_true,Bool.not_false,Bool.true_eq,decide_eq_true_eq,decide_eq_false_iff_not,Bool.not_eq_true',Bool.not_eq_false',Bool.and_eq_true,Prod.mk.injEq,and_true,true_and,Int.not_lt,Int.not_le,gt_iff_lt,ge_iff_le] at hzz);(try simp only[zac,zab,eqD,inR,big,zaa,Bool.not_true,Bool.not_false,Bool.true_eq,decide_eq_true_eq,decide_eq_false_iff_not,Bool.not_eq_true',Bool.not_eq_false',Bool.and_eq_true,Prod.mk.injEq,and_true,true_and,Int.not_lt,Int.not_le,gt_iff_lt,ge_iff_le,h,ho,u,v,w,hx,hsg] at hzz);(try (first|contradiction|(exfalso;omega)));(try (revert hzz;intro _)))
        all_goals try (rename Unit=>hq;clear hq)
        all_goals try ((with_reducible refine Held.mk ?_);(with_reducible (first|refine Frz.mk ?_|refine And.intro (Frz.mk ?_) ?_|refine And.intro ?_ (Frz.mk ?_)));repeat' first|exact True.intro|(change _=_;with_reducible rfl)|refine And.intro ?_ ?_|(with_reducible refine Frz.mk ?_))
        all_goals try (refine Held.mk ?_;(try dsimp only at *);(try simp only[zac,zab,eqD,inR,big,zaa,Bool.not_true,Bool.not_false,Bool.true_eq,decide_eq_true_eq,decide_eq_false_iff_not,Bool.not_eq_true',Bool.not_eq_false',Bool.and_eq_true,Prod.mk.injEq,and_true,true_and,Int.not_lt,Int.not_le,gt_iff_lt,ge_iff_le] at *);(try simp only[zac,zab,eqD,inR,big,zaa,Bool.not_true,Bool.not_false,Bool.true_eq,decide_eq_true_eq,decide_eq_false_iff_not,Bool.not_eq_true',Bool.not_eq_false',Bool.and_eq_true,Prod.mk.injEq,and_true,true_and,Int.not_lt,Int.not_le,gt_iff_lt,ge_iff_le,h,ho,u,v,w,hx,hsg] at *))
        all_goals try omega
        · exact⟨(show (lP xs).length≤1024 by omega),hp,(show 1≤most L by omega),(show most L≤(2000000:Int) by omega)⟩
        ·
          refine zal.mk ?_
          refine Exists.intro 0 ?_
          refine And.intro (Leaf.mk ?_) ?_
          · repeat' first|exact True.intro|refine And.intro ?_ ?_
            all_goals try ((change _=_<;>try dsimp only)<;>try with_reducible rfl)
            all_goals try omega
            all_goals (rfl)
          exact Nat.zero_le _
        · rename_i t ht hlt
          exact⟨(show (exf xs L).length≤1024 by omega),zon hf,⟨(show 1≤(sgL L ts s).length by omega),(show (sgL L ts s).length≤1024 by omega)⟩,hso,⟨(show (0:Int)≤(t:Int) by omega),(show (t:Int)≤1024 by omega)⟩,.inl True.intro⟩
        · rename_i t ht hlt
          rw[zae];show t+1≤2147483648;omega
        · rename_i t ht hlt
          refine zal.mk ?_
          refine Exists.intro (t+1) ?_
          refine And.intro (Leaf.mk ?_) ?_
          · repeat' first|exact True.intro|refine And.intro ?_ ?_
            all_goals try ((change _=_<;>try dsimp only)<;>try with_reducible rfl)
            all_goals try omega
            all_goals (rfl)
          exact⟨by show t+1≤(most L).toNat;omega,by show (most L).toNat - (t+1)<(most L).toNat - t;omega⟩
        · rename_i t ht hge
          rw[zae];omega
        · rename_i t ht hge
          rw[show t=(most L).toNat by omega]
          exact⟨rfl,rfl⟩
      · have hf:za9 (exf xs L)=false:=by simpa using hf
        have u:exE xs L ts s=8:=by unfold exE;rw[if_pos h,if_pos ho,hf];rfl
        have v:exR xs L ts s=[]:=by unfold exR;rw[if_pos h,if_pos ho,hf];rfl
        have w:=(t_no hf).2.symm
        have hfl:=zd2 xs L
        have hx:flL (lP xs) (most L).toNat (lP xs).length=exf xs L:=rfl
        repeat' (intro hzz;(try (rename Two=>hq;cases hq));(try dsimp only at hzz);(try simp only[zac,zab,eqD,inR,big,zaa,Bool.not_true,Bool.not_false,Bool.true_eq,decide_eq_true_eq,decide_eq_false_iff_not,Bool.not_eq_true',Bool.not_eq_false',Bool.and_eq_true,Prod.mk.injEq,and_true,true_and,Int.not_lt,Int.not_le,gt_iff_lt,ge_iff_le] at hzz);(try simp only[zac,zab,eqD,inR,big,zaa,Bool.not_true,Bool.not_false,Bool.true_eq,decide_eq_true_eq,decide_eq_false_iff_not,Bool.not_eq_true',Bool.not_eq_false',Bool.and_eq_true,Prod.mk.injEq,and_true,true_and,Int.not_lt,Int.not_le,gt_iff_lt,ge_iff_le,h,ho,u,v,w,hx] at hzz);(try (first|contradiction|(exfalso;omega)));(try (revert hzz;intro _)))
        all_goals try (rename Unit=>hq;clear hq)
        all_goals try ((with_reducible refine Held.mk ?_);(with_reducible (first|refine Frz.mk ?_|refine And.intro (Frz.mk ?_) ?_|refine And.intro ?_ (Frz.mk ?_)));repeat' first|exact True.intro|(change _=_;with_reducible rfl)|refine And.intro ?_ ?_|(with_reducible refine Frz.mk ?_))
        all_goals try (refine Held.mk ?_;(try dsimp only at *);(try simp only[zac,zab,eqD,inR,big,zaa,Bool.not_true,Bool.not_false,Bool.true_eq,decide_eq_true_eq,decide_eq_false_iff_not,Bool.not_eq_true',Bool.not_eq_false',Bool.and_eq_true,Prod.mk.injEq,and_true,true_and,Int.not_lt,Int.not_le,gt_iff_lt,ge_iff_le] at *);(try simp only[zac,zab,eqD,inR,big,zaa,Bool.not_true,Bool.not_false,Bool.true_eq,decide_eq_true_eq,decide_eq_false_iff_not,Bool.not_eq_true',Bool.not_eq_false',Bool.and_eq_true,Prod.mk.injEq,and_true,true_and,Int.not_lt,Int.not_le,gt_iff_lt,ge_iff_le,h,ho,u,v,w,hx] at *))
        all_goals try omega
        exact⟨(show (lP xs).length≤1024 by omega),hp,(show 1≤most L by omega),(show most L≤(2000000:Int) by omega)⟩
    · have u:exE xs L ts s=zci L ts s:=by unfold exE;rw[if_pos h,if_neg ho]
      have v:exR xs L ts s=[]:=by unfold exR;rw[if_pos h,if_neg ho]
      repeat' (intro hzz;(try (rename Two=>hq;cases hq));(try dsimp only at hzz);(try simp only[zac,zab,eqD,inR,big,zaa,Bool.not_true,Bool.not_false,Bool.true_eq,decide_eq_true_eq,decide_eq_false_iff_not,Bool.not_eq_true',Bool.not_eq_false',Bool.and_eq_true,Prod.mk.injEq,and_true,true_and,Int.not_lt,Int.not_le,gt_iff_lt,ge_iff_le] at hzz);(try simp only[zac,zab,eqD,inR,big,zaa,Bool.not_true,Bool.not_false,Bool.true_eq,decide_eq_true_eq,decide_eq_false_iff_not,Bool.not_eq_true',Bool.not_eq_false',Bool.and_eq_true,Prod.mk.injEq,and_true,true_and,Int.not_lt,Int.not_le,gt_iff_lt,ge_iff_le,h,u,v] at hzz);(try (first|contradiction|(exfalso;omega)));(try (revert hzz;intro _)))
      all_goals try (rename Unit=>hq;clear hq)
      all_goals try ((with_reducible refine Held.mk ?_);(with_reducible (first|refine Frz.mk ?_|refine And.intro (Frz.mk ?_) ?_|refine And.intro ?_ (Frz.mk ?_)));repeat' first|exact True.intro|(change _=_;with_reducible rfl)|refine And.intro ?_ ?_|(with_reducible refine Frz.mk ?_))
      all_goals try (refine Held.mk ?_;(try dsimp only at *);(try simp only[zac,zab,eqD,inR,big,zaa,Bool.not_true,Bool.not_false,Bool.true_eq,decide_eq_true_eq,decide_eq_false_iff_not,Bool.not_eq_true',Bool.not_eq_false',Bool.and_eq_true,Prod.mk.injEq,and_true,true_and,Int.not_lt,Int.not_le,gt_iff_lt,ge_iff_le] at *);(try simp only[zac,zab,eqD,inR,big,zaa,Bool.not_true,Bool.not_false,Bool.true_eq,decide_eq_true_eq,decide_eq_false_iff_not,Bool.not_eq_true',Bool.not_eq_false',Bool.and_eq_true,Prod.mk.injEq,and_true,true_and,Int.not_lt,Int.not_le,gt_iff_lt,ge_iff_le,h,u,v] at *))
      all_goals try omega
  · have u:exE xs L ts s=lE xs:=by unfold exE;rw[if_neg h]
    have v:exR xs L ts s=[]:=by unfold exR;rw[if_neg h]
    repeat' (intro hzz;(try (rename Two=>hq;cases hq));(try dsimp only at hzz);(try simp only[zac,zab,eqD,inR,big,zaa,Bool.not_true,Bool.not_false,Bool.true_eq,decide_eq_true_eq,decide_eq_false_iff_not,Bool.not_eq_true',Bool.not_eq_false',Bool.and_eq_true,Prod.mk.injEq,and_true,true_and,Int.not_lt,Int.not_le,gt_iff_lt,ge_iff_le] at hzz);(try simp only[zac,zab,eqD,inR,big,zaa,Bool.not_true,Bool.not_false,Bool.true_eq,decide_eq_true_eq,decide_eq_false_iff_not,Bool.not_eq_true',Bool.not_eq_false',Bool.and_eq_true,Prod.mk.injEq,and_true,true_and,Int.not_lt,Int.not_le,gt_iff_lt,ge_iff_le,u,v] at hzz);(try (first|contradiction|(exfalso;omega)));(try (revert hzz;intro _)))
    all_goals try (rename Unit=>hq;clear hq)
    all_goals try ((with_reducible refine Held.mk ?_);(with_reducible (first|refine Frz.mk ?_|refine And.intro (Frz.mk ?_) ?_|refine And.intro ?_ (Frz.mk ?_)));repeat' first|exact True.intro|(change _=_;with_reducible rfl)|refine And.intro ?_ ?_|(with_reducible refine Frz.mk ?_))
    all_goals try (refine Held.mk ?_;(try dsimp only at *);(try simp only[zac,zab,eqD,inR,big,zaa,Bool.not_true,Bool.not_false,Bool.true_eq,decide_eq_true_eq,decide_eq_false_iff_not,Bool.not_eq_true',Bool.not_eq_false',Bool.and_eq_true,Prod.mk.injEq,and_true,true_and,Int.not_lt,Int.not_le,gt_iff_lt,ge_iff_le] at *);(try simp only[zac,zab,eqD,inR,big,zaa,Bool.not_true,Bool.not_false,Bool.true_eq,decide_eq_true_eq,decide_eq_false_iff_not,Bool.not_eq_true',Bool.not_eq_false',Bool.and_eq_true,Prod.mk.injEq,and_true,true_and,Int.not_lt,Int.not_le,gt_iff_lt,ge_iff_le,u,v] at *))
    all_goals try omega
@[reducible] def zo1:Spec:={pats:=[.dat zak,.dat zak],res:=[{t:=zak}],pre:=fun x=>okI x.1.1∧okI x.1.2.1∧okI x.2.1.1∧okI x.2.1.2.1,f:=fun x=>((x.1.1 - x.2.1.1,x.1.2.1 - x.2.1.2.1,()),())}
theorem h123:Ok 33 zo1:=by
  refine mk (ctr:=[]) trivial (nt:=16) Try.func33 rfl rfl rfl rfl (by kernel_rfl) (by kernel_rfl) (fun _=>[]) ?_
  rintro⟨⟨(a:Int),(b:Int),_⟩,⟨(c:Int),(d:Int),_⟩,_⟩ ⟨(h1:okI a),(h2:okI b),(h3:okI c),(h4:okI d)⟩
  repeat' (intro hzz;(try (rename Two=>hq;cases hq));(try dsimp only at hzz);(try simp only[zac,zab,eqD,inR,big,zaa,Bool.not_true,Bool.not_false,Bool.true_eq,decide_eq_true_eq,decide_eq_false_iff_not,Bool.not_eq_true',Bool.not_eq_false',Bool.and_eq_true,Prod.mk.injEq,and_true,true_and,Int.not_lt,Int.not_le,gt_iff_lt,ge_iff_le] at hzz);(try simp only[zac,zab,eqD,inR,big,zaa,Bool.not_true,Bool.not_false,Bool.true_eq,decide_eq_true_eq,decide_eq_false_iff_not,Bool.not_eq_true',Bool.not_eq_false',Bool.and_eq_true,Prod.mk.injEq,and_true,true_and,Int.not_lt,Int.not_le,gt_iff_lt,ge_iff_le,okI] at hzz);(try (revert hzz;intro _)))
  all_goals try (rename Unit=>hq;clear hq)
  all_goals try ((with_reducible refine Held.mk ?_);(with_reducible (first|refine Frz.mk ?_|refine And.intro (Frz.mk ?_) ?_|refine And.intro ?_ (Frz.mk ?_)));repeat' first|exact True.intro|(change _=_;with_reducible rfl)|refine And.intro ?_ ?_|(with_reducible refine Frz.mk ?_))
  all_goals try (refine Held.mk ?_;(try dsimp only at *);(try simp only[zac,zab,eqD,inR,big,zaa,Bool.not_true,Bool.not_false,Bool.true_eq,decide_eq_true_eq,decide_eq_false_iff_not,Bool.not_eq_true',Bool.not_eq_false',Bool.and_eq_true,Prod.mk.injEq,and_true,true_and,Int.not_lt,Int.not_le,gt_iff_lt,ge_iff_le] at *);(try simp only[zac,zab,eqD,inR,big,zaa,Bool.not_true,Bool.not_false,Bool.true_eq,decide_eq_true_eq,decide_eq_false_iff_not,Bool.not_eq_true',Bool.not_eq_false',Bool.and_eq_true,Prod.mk.injEq,and_true,true_and,Int.not_lt,Int.not_le,gt_iff_lt,ge_iff_le,okI] at *))
  all_goals try omega
@[reducible] def zlc:Spec:={pats:=[.dat (.sl C64)],res:=[{t:=.sl zak},{t:=I64}],pre:=fun _=>True,f:=fun x=>(lP x.1,lE x.1,())}
theorem h91d:Ok 22 zlc:=by
  refine mkN (X:=x0) (hX:=zkd) (ctr:=[(42,zlh)]) ⟨zpF,trivial⟩ (nt:=55) Try.func22 rfl rfl rfl rfl (by kernel_rfl) (by kernel_rfl) (fun x=>[fun _=>{σ:=Nat,pat:=fun k=>[sI 19 k]++rOwn 4 60004 78 zak (tab (prF x.1) k),inv:=fun k=>k≤List.length (α:=Nat×Nat) x.1∧lF (List.drop (α:=Nat×Nat) k x.1)=lF x.1,meas:=fun k=>List.length (α:=Nat×Nat) x.1 - k}]) ?_
  rintro⟨(xs:CL),_⟩ _
  repeat' (intro hzz;(try (rename Two=>hq;cases hq));(try dsimp only at hzz);(try simp only[zac,zab,eqD,inR,big,zaa,Bool.not_true,Bool.not_false,Bool.true_eq,decide_eq_true_eq,decide_eq_false_iff_not,Bool.not_eq_true',Bool.not_eq_false',Bool.and_eq_true,Prod.mk.injEq,and_true,true_and,Int.not_lt,Int.not_le,gt_iff_lt,ge_iff_le] at hzz);(try simp only[zac,zab,eqD,inR,big,zaa,Bool.not_true,Bool.not_false,Bool.true_eq,decide_eq_true_eq,decide_eq_false_iff_not,Bool.not_eq_true',Bool.not_eq_false',Bool.and_eq_true,Prod.mk.injEq,and_true,true_and,Int.not_lt,Int.not_le,gt_iff_lt,ge_iff_le,zgL] at hzz);(try (first|contradiction|(exfalso;omega)));(try (revert hzz;intro _)))
  all_goals try (rename Unit=>hq;clear hq)
  all_goals try ((with_reducible refine Held.mk ?_);(with_reducible (first|refine Frz.mk ?_|refine And.intro (Frz.mk ?_) ?_|refine And.intro ?_ (Frz.mk ?_)));repeat' first|exact True.intro|(change _=_;with_reducible rfl)|refine And.intro ?_ ?_|(with_reducible refine Frz.mk ?_))
  all_goals try (refine Held.mk ?_;(try dsimp only at *);(try simp only[zac,zab,eqD,inR,big,zaa,Bool.not_true,Bool.not_false,Bool.true_eq,decide_eq_true_eq,decide_eq_false_iff_not,Bool.not_eq_true',Bool.not_eq_false',Bool.and_eq_true,Prod.mk.injEq,and_true,true_and,Int.not_lt,Int.not_le,gt_iff_lt,ge_iff_le] at *);(try simp only[zac,zab,eqD,inR,big,zaa,Bool.not_true,Bool.not_false,Bool.true_eq,decide_eq_true_eq,decide_eq_false_iff_not,Bool.not_eq_true',Bool.not_eq_false',Bool.and_eq_true,Prod.mk.injEq,and_true,true_and,Int.not_lt,Int.not_le,gt_iff_lt,ge_iff_le,zgL] at *))
  all_goals try omega
  · rename_i h
    exact zdb (by unfold lE;rw[if_pos (by omega)]) (by decide)
  · rename_i h0 h
    exact zdb (by unfold lE;rw[if_neg (by omega),if_pos (by omega)]) (by decide)
  ·
    refine zal.mk ?_
    refine Exists.intro 0 ?_
    refine And.intro (Leaf.mk ?_) ?_
    · repeat' first|exact True.intro|refine And.intro ?_ ?_
      all_goals try ((change _=_<;>try dsimp only)<;>try with_reducible rfl)
      all_goals try omega
      all_goals (rfl)
    exact⟨Nat.zero_le _,rfl⟩
  · rename_i h0 h1 k hk hlt q1 q2
    exact zdb (ze8 h0 h1 hk hlt (eE_a (.inr q2)) (by decide)) (by decide)
  · rename_i h0 h1 k hk hlt q1 q2 q3 q4
    exact zdb (ze8 h0 h1 hk hlt (eE_b q1 q2 (.inr q4)) (by decide)) (by decide)
  · rename_i h0 h1 k hk hlt q1 q2 q3 q4
    rw[(zcu q3).2.2.2.2];rfl
  · rename_i h0 h1 k hk hlt q1 q2 q3 q4
    rw[(zcu q4).2.2.2.2];rfl
  · rename_i h0 h1 k hk hlt q1 q2 q3 q4
    rw[zae];show k+1≤2147483648;omega
  · rename_i h0 h1 k hk hlt q1 q2 q3 q4
    have hn:=zlM hk hlt (eE_c q3 q4)
    have e:tab (prF xs) k++[((floatToIntVal .f32 (xs.getD k (0,0)).1 .i64).getD 0,(floatToIntVal .f32 (xs.getD k (0,0)).2 .i64).getD 0,())]=tab (prF xs) (k+1):=by
      rw[(zcu q3).2.2.2.2,(zcu q4).2.2.2.2];rfl
    refine zal.mk ?_
    refine Exists.intro (k+1) ?_
    refine And.intro (Leaf.mk ?_) ?_
    · repeat' first|exact True.intro|refine And.intro ?_ ?_
      all_goals try ((change _=_<;>try dsimp only)<;>try with_reducible rfl)
      all_goals try omega
      all_goals (first|exact e|exact congrArg List.length e)
    exact⟨hn,by show xs.length - (k+1)<xs.length - k;omega⟩
  · rename_i h0 h1 k hk hlt q1 q2 q3
    exact zdb (ze8 h0 h1 hk hlt (eE_b q1 q2 (.inl q3)) (by decide)) (by decide)
  · rename_i h0 h1 k hk hlt q1
    exact zdb (ze8 h0 h1 hk hlt (eE_a (.inl q1)) (by decide)) (by decide)
  · rename_i h0 h1 k hk hge
    have h:=znB h0 h1 hk hge
    refine⟨?_,h⟩
    unfold lP
    rw[if_pos h.symm,show k=xs.length by omega];rfl
def zpy (a b:IP):IP:=(a.1 - b.1,a.2.1 - b.2.1,())
theorem flV1 (ps:List IP) (k:Nat):flV ps 1 0 (k+1)=zdX (flV ps 1 0 k) (ps.getD k (0,0,())):=by
  show (if 0=k % 1 then _ else _)=_
  rw[if_pos (Nat.mod_one k).symm]
theorem zg4 {α:Type} {f:Nat→α}:∀ {n:Nat} {x:α},x∈tab f n→∃i,i<n∧f i=x
  | 0,x,h=>by cases h
  | n + 1,x,h=>by
    rcases List.mem_append.1 h with h|h
    · obtain⟨i,hi,e⟩:=zg4 h
      exact⟨i,by omega,e⟩
    · exact⟨n,by omega,(List.mem_singleton.1 h).symm⟩
theorem zjP {α:Type} {f:Nat→α}:∀ {n i:Nat},i<n→f i∈tab f n
  | n+1,i,h=>by
    by_cases hi:i=n
    · rw[hi];exact List.mem_append_right _ (List.mem_singleton.2 rfl)
    · exact List.mem_append_left _ (zjP (by omega))
theorem zd5 {a n:Int} (h:0<n):a.tmod n=0↔a % n=0:=by
  rw[←Int.dvd_iff_tmod_eq_zero,←Int.dvd_iff_emod_eq_zero]
theorem zkM {a n:Int} (h:a % n=0):a.tdiv n=a / n:=Int.tdiv_eq_ediv_of_dvd (Int.dvd_of_emod_eq_zero h)
def prtF (l:List IP) (i:Int) (k:Nat):Int:=if i=0 then (l.getD k (0,0,())).1 else (l.getD k (0,0,())).2.1
theorem zqz:pLen 2:=by decide
def inBP (B:Int) (a:IP):Prop:=(-B≤a.1∧a.1≤B)∧(-B≤a.2.1∧a.2.1≤B)
theorem zjM {n B:Int} (h : -B≤n∧n≤B) (hB:B≤4000000000000000000):okI n:=⟨by omega,by omega⟩
theorem zmN {B:Int} {ps:List IP} (h:okL B ps) (i:Nat):inBP B (ps.getD i (0,0,())):=h i
theorem zmH {A B:Int} {a b:IP} (ha:inBP A a) (hb:inBP B b):inBP (A+B) (zdX a b):=by
  obtain⟨a1,a2⟩:=ha
  obtain⟨b1,b2⟩:=hb
  show (_≤a.1+b.1∧a.1+b.1≤_)∧(_≤a.2.1+b.2.1∧a.2.1+b.2.1≤_)
  omega
theorem zeh {A B:Int} {a:IP} (h:inBP A a) (hAB:A≤B):inBP B a:=by
  obtain⟨a1,a2⟩:=h
  exact⟨⟨by omega,by omega⟩,⟨by omega,by omega⟩⟩
theorem zfO (a:IP):zdX (0,0,()) a=a:=by
  obtain⟨x,y,u⟩:=a
  show (0+x,0+y,())=_
  rw[Int.zero_add,Int.zero_add]
theorem zpB {xs:CL} (h:¬lE xs=0):lP xs=[]:=by unfold lP;rw[if_neg h]
@[irreducible] def Hid (p:Prop):Prop:=p
theorem Hid.mk {p:Prop} (h:p):Hid p:=by unfold Hid;exact h
theorem Hid.out {p:Prop} (h:Hid p):p:=by unfold Hid at h;exact h
abbrev F32L:=List Nat
abbrev zmo:Ty:=.cons I64 (.cons (.sl F32) .nil)
abbrev zpZ:=Int×F32L×Unit
def mnI (n b:Int):Int:=(2*n+b) / (2*b)
@[reducible] def zo0:Spec:={pats:=[.dat I64,.dat I64],res:=[{t:=I64}],pre:=fun x=>(-1000000000000≤x.1∧x.1≤(1000000000000:Int))∧((1:Int)≤x.2.1∧x.2.1≤(1000000:Int)),f:=fun x=>(mnI x.1 x.2.1,())}
theorem h127:Ok 31 zo0:=by
  refine mk (ctr:=[(49,sMod)]) ⟨h109,trivial⟩ (nt:=18) Try.func31 rfl rfl rfl rfl (by kernel_rfl) (by kernel_rfl) (fun _=>[]) ?_
  rintro⟨(n:Int),(b:Int),_⟩ ⟨⟨(h1 : -1000000000000≤n),(h2:n≤1000000000000)⟩,⟨(h3:1≤b),(h4:b≤1000000)⟩⟩
  have hm:=zl0 (m:=2*n+b) (n:=2*b) (by omega)
  have he:2*n+b - fMod (2*n+b) (2*b)=2*b*((2*n+b) / (2*b)):=by
    have:=Int.mul_ediv_add_emod (2*n+b) (2*b)
    show 2*n+b - (2*n+b) % (2*b)=_
    omega
  have hq:(2*n+b - fMod (2*n+b) (2*b)).tdiv (2*b)=mnI n b:=by
    rw[he,Int.mul_comm,Int.mul_tdiv_cancel _ (by omega)];rfl
  have hd:=Int.natAbs_ediv_le_natAbs (2*n+b) (2*b)
  repeat' (intro hzz;(try (rename Two=>hq;cases hq));(try dsimp only at hzz);(try simp only[zac,zab,eqD,inR,big,zaa,Bool.not_true,Bool.not_false,Bool.true_eq,decide_eq_true_eq,decide_eq_false_iff_not,Bool.not_eq_true',Bool.not_eq_false',Bool.and_eq_true,Prod.mk.injEq,and_true,true_and,Int.not_lt,Int.not_le,gt_iff_lt,ge_iff_le] at hzz);(try (first|contradiction|(exfalso;omega)));(try (revert hzz;intro _)))
  all_goals try (rename Unit=>hq;clear hq)
  all_goals try ((with_reducible refine Held.mk ?_);(with_reducible (first|refine Frz.mk ?_|refine And.intro (Frz.mk ?_) ?_|refine And.intro ?_ (Frz.mk ?_)));repeat' first|exact True.intro|(change _=_;with_reducible rfl)|refine And.intro ?_ ?_|(with_reducible refine Frz.mk ?_))
  all_goals try (refine Held.mk ?_;(try dsimp only at *);(try simp only[zac,zab,eqD,inR,big,zaa,Bool.not_true,Bool.not_false,Bool.true_eq,decide_eq_true_eq,decide_eq_false_iff_not,Bool.not_eq_true',Bool.not_eq_false',Bool.and_eq_true,Prod.mk.injEq,and_true,true_and,Int.not_lt,Int.not_le,gt_iff_lt,ge_iff_le] at *))
  all_goals try omega
  all_goals first|exact⟨(show (0:Int)<2*b by omega),(show 2*b≤(2000000000000000000:Int) by omega)⟩|(rw[hq];unfold mnI;omega)|exact hq|skip
/-! ### Sums of recordings -/
abbrev CLL:=List CL
def avV (ls:CLL) (k:Nat):Nat→IP
  | 0=>(0,0,())
  | i+1=>zdX (avV ls k i) ((lP (ls.getD i [])).getD k (0,0,()))
def avN (ls:CLL):Nat:=(ls.getD 0 []).length
def avT (ls:CLL) (i:Nat):List IP:=tab (fun k=>avV ls k i) (avN ls)
def avP (ls:CLL) (i:Nat):List IP:=if i=0 then [] else avT ls i
def avG (ls:CLL) (i k j:Nat):IP:=if j<k then avV ls j (i+1) else avV ls j i
theorem zoz {ls:CLL} {i k n:Nat} (h:k<n):(tab (avG ls i k) n).set k (zdX ((tab (avG ls i k) n).getD k (0,0,())) ((lP (ls.getD i [])).getD k (0,0,())))=tab (avG ls i (k+1)) n:=by
  rw[zg3,zaE _ _ _ _ h]
  refine zaG n fun j _=>?_
  unfold avG
  by_cases hj:j=k
  · subst hj;rw[if_pos rfl,if_neg (by omega),if_pos (by omega)];rfl
  · rw[if_neg hj]
    by_cases h2:j<k
    · rw[if_pos h2,if_pos (by omega)]
    · rw[if_neg h2,if_neg (by omega)]
theorem zng (ls:CLL) (i n:Nat):tab (avG ls i 0) n=tab (fun k=>avV ls k i) n:=zaG n fun j _=>by
  unfold avG;rw[if_neg (by omega)]
theorem zoA (ls:CLL) (i n:Nat):tab (avG ls i n) n=tab (fun k=>avV ls k (i+1)) n:=zaG n fun j hj=>by
  unfold avG;rw[if_pos hj]
def avF (n:Nat):CLL→Int
  | []=>0
  | x::r=>if lE x=0 then (if x.length=n then avF n r else 13) else lE x
theorem zhI {ls:CLL} {n i:Nat} (h:i<ls.length):avF n (ls.drop i)=if lE (ls.getD i [])=0 then (if (ls.getD i []).length=n then avF n (ls.drop (i+1)) else 13) else lE (ls.getD i []):=by
  rw[ziA (d:=[]) h];rfl
def avOk (ls:CLL) (i:Nat):Prop:=i≤ls.length∧avF (avN ls) (ls.drop i)=avF (avN ls) ls∧∀j,j<i→lE (ls.getD j [])=0∧(ls.getD j []).length=avN ls
theorem zmi (ls:CLL):avOk ls 0:=⟨Nat.zero_le _,rfl,fun j hj=>by omega⟩
theorem ziK {ls:CLL} {i:Nat} (h:avOk ls i) (hi:i<ls.length) (h1:lE (ls.getD i [])=0) (h2:(ls.getD i []).length=avN ls):avOk ls (i+1):=by
  obtain⟨a,b,c⟩:=h
  refine⟨by omega,?_,fun j hj=>?_⟩
  · rw[zhI hi,if_pos h1,if_pos h2] at b;exact b
  · by_cases e:j=i
    · rw[e];exact⟨h1,h2⟩
    · exact c j (by omega)
def mnP (b:Int) (p:IP):IP:=(mnI p.1 b,mnI p.2.1 b,())
def avM (ls:CLL) (k:Nat):IP:=mnP ls.length (avV ls k ls.length)
def avL (ls:CLL):List IP:=tab (avM ls) (avN ls)
def avE (ls:CLL):Int:=if ls.length=0 then 10 else if 32<ls.length then 8 else if avF (avN ls) ls=0 then tE (avL ls) else avF (avN ls) ls
def avR (ls:CLL):CL:=if ls.length=0 then [] else if 32<ls.length then [] else if avF (avN ls) ls=0 then tL (avL ls) else []
theorem zpC (xs:CL) (k:Nat):inBP 16777216 ((lP xs).getD k (0,0,())):=by
  by_cases h:lE xs=0
  · exact zmN (zih h) k
  · rw[zpB h];show inBP 16777216 (0,0,());exact⟨by decide,by decide⟩
theorem znI (ls:CLL) (k:Nat):∀i:Nat,inBP (i*16777216) (avV ls k i)
  | 0=>by show (_≤(0:Int)∧(0:Int)≤_)∧(_≤(0:Int)∧(0:Int)≤_);omega
  | i+1=>by
    have:=zmH (znI ls k i) (zpC (ls.getD i []) k)
    rw[show ((i+1:Nat):Int)*16777216=(i:Int)*16777216+16777216 by omega]
    exact this
theorem zjo {ls:CLL} {i:Nat} (hi:i≤33) (k:Nat):inBP 600000000 (avV ls k i):=zeh (znI ls k i) (by omega)
theorem zpY {ls:CLL} {i k:Nat} (hi:i≤32) (j:Nat):inBP 600000000 (avG ls i k j):=by
  unfold avG
  split
  · exact zjo (by omega) j
  · exact zjo (by omega) j
def avH (ls:CLL) (k j:Nat):IP:=if j<k then avM ls j else avV ls j ls.length
theorem zox {ls:CLL} {k n:Nat} (h:k<n):(tab (avH ls k) n).set k (mnP ls.length ((tab (avH ls k) n).getD k (0,0,())))=tab (avH ls (k+1)) n:=by
  rw[zg3,zaE _ _ _ _ h]
  refine zaG n fun j _=>?_
  unfold avH
  by_cases hj:j=k
  · subst hj;rw[if_pos rfl,if_neg (by omega),if_pos (by omega)];rfl
  · rw[if_neg hj]
    by_cases h2:j<k
    · rw[if_pos h2,if_pos (by omega)]
    · rw[if_neg h2,if_neg (by omega)]
theorem znf (ls:CLL) (n:Nat):tab (avH ls 0) n=tab (fun k=>avV ls k ls.length) n:=zaG n fun j _=>by
  unfold avH;rw[if_neg (by omega)]
theorem zoy (ls:CLL):tab (avH ls (avN ls)) (avN ls)=avL ls:=zaG _ fun j hj=>by
  unfold avH;rw[if_pos hj]
@[reducible] def zpa:Spec:={pats:=[.dat (.sl (.sl C64))],res:=[{own:=some 39,t:=.sl C64},{t:=I64}],pre:=fun _=>True,f:=fun x=>(avR x.1,avE x.1,())}
theorem zkO {B:Int} {f:Nat→IP} {n:Nat} (hB:0≤B) (h:∀i,inBP B (f i)):okL B (tab f n):=zfR hB fun i _=>h i
theorem znJ {ls:CLL} {k:Nat} (hl:ls.length≤32) (j:Nat):inBP 1300000000 (avH ls k j):=by
  have b:=zjo (ls:=ls) (i:=ls.length) (by omega) j
  have key:∀a:Int,-600000000≤a∧a≤600000000→-1300000000≤mnI a ls.length∧mnI a ls.length≤1300000000:=fun a ha=>by
    have:=Int.natAbs_ediv_le_natAbs (2*a+(ls.length:Int)) (2*(ls.length:Int))
    unfold mnI;omega
  unfold avH
  split
  · exact⟨key _ b.1,key _ b.2⟩
  · exact zeh b (by decide)
theorem zbk {ls:CLL} {i:Nat} (h:i≠0):(avP ls i).length=avN ls:=by unfold avP;rw[if_neg h];exact zae _ _
theorem zow {ls:CLL} (h:lE (ls.getD 0 [])=0):lP (ls.getD 0 [])=avP ls (0+1):=by
  unfold avP
  rw[if_neg (by omega)]
  have hl:=zcn h
  have e:lP (ls.getD 0 [])=tab (prF (ls.getD 0 [])) (avN ls):=by unfold lP;rw[if_pos h];rfl
  rw[e]
  refine zaG _ fun k hk=>?_
  show _=zdX (0,0,()) ((lP (ls.getD 0 [])).getD k (0,0,()))
  rw[zfO,e,zaE _ _ _ _ hk]
theorem h58:Ok 11 zpa:=by
  refine mk (ctr:=[(22,znZ),(30,zlg),(31,zo0),(26,zmB)]) ⟨h91n,h122,h127,h93n,trivial⟩ (nt:=91) Try.func11 rfl rfl rfl rfl (by kernel_rfl) (by kernel_rfl) (fun x=>[fun _=>{σ:=Nat,pat:=fun i=>[sI 23 i]++rOwn 4 60004 78 zak (avP x.1 i),inv:=fun i=>avOk x.1 i,meas:=fun i=>List.length (α:=CL) x.1 - i},fun st=>znM 23 st fun i=>{σ:=Nat,pat:=fun k=>[sI 49 k]++rOwn 4 60004 78 zak (tab (avG x.1 i.toNat k) (avN x.1)),inv:=fun k=>k≤avN x.1,meas:=fun k=>avN x.1 - k},fun _=>{σ:=Nat,pat:=fun k=>[sI 67 k]++rOwn 4 60004 78 zak (tab (avH x.1 k) (avN x.1)),inv:=fun k=>k≤avN x.1,meas:=fun k=>avN x.1 - k}]) ?_
  rintro⟨(ls:CLL),_⟩ _
  by_cases h0:ls.length=0
  · have u:avE ls=10:=by unfold avE;rw[if_pos h0]
    have v:avR ls=[]:=by unfold avR;rw[if_pos h0]
    repeat' (intro hzz;(try (rename Two=>hq;cases hq));(try dsimp only at hzz);(try simp only[zac,zab,eqD,inR,big,zaa,Bool.not_true,Bool.not_false,Bool.true_eq,decide_eq_true_eq,decide_eq_false_iff_not,Bool.not_eq_true',Bool.not_eq_false',Bool.and_eq_true,Prod.mk.injEq,and_true,true_and,Int.not_lt,Int.not_le,gt_iff_lt,ge_iff_le] at hzz);(try simp only[zac,zab,eqD,inR,big,zaa,Bool.not_true,Bool.not_false,Bool.true_eq,decide_eq_true_eq,decide_eq_false_iff_not,Bool.not_eq_true',Bool.not_eq_false',Bool.and_eq_true,Prod.mk.injEq,and_true,true_and,Int.not_lt,Int.not_le,gt_iff_lt,ge_iff_le,u,v] at hzz);(try (first|contradiction|(exfalso;omega)));(try (revert hzz;intro _)))
    all_goals try (rename Unit=>hq;clear hq)
    all_goals try ((with_reducible refine Held.mk ?_);(with_reducible (first|refine Frz.mk ?_|refine And.intro (Frz.mk ?_) ?_|refine And.intro ?_ (Frz.mk ?_)));repeat' first|exact True.intro|(change _=_;with_reducible rfl)|refine And.intro ?_ ?_|(with_reducible refine Frz.mk ?_))
    all_goals try (refine Held.mk ?_;(try dsimp only at *);(try simp only[zac,zab,eqD,inR,big,zaa,Bool.not_true,Bool.not_false,Bool.true_eq,decide_eq_true_eq,decide_eq_false_iff_not,Bool.not_eq_true',Bool.not_eq_false',Bool.and_eq_true,Prod.mk.injEq,and_true,true_and,Int.not_lt,Int.not_le,gt_iff_lt,ge_iff_le] at *);(try simp only[zac,zab,eqD,inR,big,zaa,Bool.not_true,Bool.not_false,Bool.true_eq,decide_eq_true_eq,decide_eq_false_iff_not,Bool.not_eq_true',Bool.not_eq_false',Bool.and_eq_true,Prod.mk.injEq,and_true,true_and,Int.not_lt,Int.not_le,gt_iff_lt,ge_iff_le,u,v] at *))
    all_goals try omega
  · by_cases h32:32<ls.length
    · have u:avE ls=8:=by unfold avE;rw[if_neg h0,if_pos h32]
      have v:avR ls=[]:=by unfold avR;rw[if_neg h0,if_pos h32]
      repeat' (intro hzz;(try (rename Two=>hq;cases hq));(try dsimp only at hzz);(try simp only[zac,zab,eqD,inR,big,zaa,Bool.not_true,Bool.not_false,Bool.true_eq,decide_eq_true_eq,decide_eq_false_iff_not,Bool.not_eq_true',Bool.not_eq_false',Bool.and_eq_true,Prod.mk.injEq,and_true,true_and,Int.not_lt,Int.not_le,gt_iff_lt,ge_iff_le] at hzz);(try simp only[zac,zab,eqD,inR,big,zaa,Bool.not_true,Bool.not_false,Bool.true_eq,decide_eq_true_eq,decide_eq_false_iff_not,Bool.not_eq_true',Bool.not_eq_false',Bool.and_eq_true,Prod.mk.injEq,and_true,true_and,Int.not_lt,Int.not_le,gt_iff_lt,ge_iff_le,u,v] at hzz);(try (first|contradiction|(exfalso;omega)));(try (revert hzz;intro _)))
      all_goals try (rename Unit=>hq;clear hq)
      all_goals try ((with_reducible refine Held.mk ?_);(with_reducible (first|refine Frz.mk ?_|refine And.intro (Frz.mk ?_) ?_|refine And.intro ?_ (Frz.mk ?_)));repeat' first|exact True.intro|(change _=_;with_reducible rfl)|refine And.intro ?_ ?_|(with_reducible refine Frz.mk ?_))
      all_goals try (refine Held.mk ?_;(try dsimp only at *);(try simp only[zac,zab,eqD,inR,big,zaa,Bool.not_true,Bool.not_false,Bool.true_eq,decide_eq_true_eq,decide_eq_false_iff_not,Bool.not_eq_true',Bool.not_eq_false',Bool.and_eq_true,Prod.mk.injEq,and_true,true_and,Int.not_lt,Int.not_le,gt_iff_lt,ge_iff_le] at *);(try simp only[zac,zab,eqD,inR,big,zaa,Bool.not_true,Bool.not_false,Bool.true_eq,decide_eq_true_eq,decide_eq_false_iff_not,Bool.not_eq_true',Bool.not_eq_false',Bool.and_eq_true,Prod.mk.injEq,and_true,true_and,Int.not_lt,Int.not_le,gt_iff_lt,ge_iff_le,u,v] at *))
      all_goals try omega
    · have u:avE ls=if avF (avN ls) ls=0 then tE (avL ls) else avF (avN ls) ls:=by unfold avE;rw[if_neg h0,if_neg h32]
      have v:avR ls=if avF (avN ls) ls=0 then tL (avL ls) else []:=by unfold avR;rw[if_neg h0,if_neg h32]
      repeat' (intro hzz;(try (rename Two=>hq;cases hq));(try dsimp only at hzz);(try simp only[zac,zab,eqD,inR,big,zaa,Bool.not_true,Bool.not_false,Bool.true_eq,decide_eq_true_eq,decide_eq_false_iff_not,Bool.not_eq_true',Bool.not_eq_false',Bool.and_eq_true,Prod.mk.injEq,and_true,true_and,Int.not_lt,Int.not_le,gt_iff_lt,ge_iff_le] at hzz);(try simp only[zac,zab,eqD,inR,big,zaa,Bool.not_true,Bool.not_false,Bool.true_eq,decide_eq_true_eq,decide_eq_false_iff_not,Bool.not_eq_true',Bool.not_eq_false',Bool.and_eq_true,Prod.mk.injEq,and_true,true_and,Int.not_lt,Int.not_le,gt_iff_lt,ge_iff_le,zae] at hzz);(try (first|contradiction|(exfalso;omega)));(try (revert hzz;intro _)))
      all_goals try (rename Unit=>hq;clear hq)
      all_goals try ((with_reducible refine Held.mk ?_);(with_reducible (first|refine Frz.mk ?_|refine And.intro (Frz.mk ?_) ?_|refine And.intro ?_ (Frz.mk ?_)));repeat' first|exact True.intro|(change _=_;with_reducible rfl)|refine And.intro ?_ ?_|(with_reducible refine Frz.mk ?_))
      all_goals try (refine Held.mk ?_;(try dsimp only at *);(try simp only[zac,zab,eqD,inR,big,zaa,Bool.not_true,Bool.not_false,Bool.true_eq,decide_eq_true_eq,decide_eq_false_iff_not,Bool.not_eq_true',Bool.not_eq_false',Bool.and_eq_true,Prod.mk.injEq,and_true,true_and,Int.not_lt,Int.not_le,gt_iff_lt,ge_iff_le] at *);(try simp only[zac,zab,eqD,inR,big,zaa,Bool.not_true,Bool.not_false,Bool.true_eq,decide_eq_true_eq,decide_eq_false_iff_not,Bool.not_eq_true',Bool.not_eq_false',Bool.and_eq_true,Prod.mk.injEq,and_true,true_and,Int.not_lt,Int.not_le,gt_iff_lt,ge_iff_le,zae] at *))
      all_goals try omega
      ·
        refine zal.mk ?_
        refine Exists.intro 0 ?_
        refine And.intro (Leaf.mk ?_) ?_
        · repeat' first|exact True.intro|refine And.intro ?_ ?_
          all_goals try ((change _=_<;>try dsimp only)<;>try with_reducible rfl)
          all_goals try omega
          all_goals (rfl)
        exact zmi ls
      · rename_i i hi hlt he
        have he:¬lE (ls.getD i [])=0:=he
        have e:=hi.2.1
        rw[zhI (by omega),if_neg he] at e
        rw[u,v,←e,if_neg he,if_neg he];exact⟨rfl,rfl⟩
      · rename_i i hi hlt he hz
        obtain rfl:i=0:=by omega
        have he:lE (ls.getD 0 [])=0:=he
        have e:lP (ls.getD 0 [])=avP ls (0+1):=zow he
        refine zal.mk ?_
        refine Exists.intro (0+1) ?_
        refine And.intro (Leaf.mk ?_) ?_
        · repeat' first|exact True.intro|refine And.intro ?_ ?_
          all_goals try ((change _=_<;>try dsimp only)<;>try with_reducible rfl)
          all_goals try omega
          all_goals (first|exact e|exact congrArg List.length e|rfl)
        exact⟨ziK hi (show 0<ls.length by omega) he rfl,by show ls.length - (0+1)<ls.length - 0;omega⟩
      · rename_i i hi hlt he hne hll
        have hp:=zbk (ls:=ls) (i:=i) (by omega)
        have hl:=zcn (show lE (ls.getD i [])=0 from he)
        have hll:¬((lP (ls.getD i [])).length:Int)=((avP ls i).length:Int):=hll
        have e:=hi.2.1
        rw[zhI (by omega),if_pos (show lE (ls.getD i [])=0 from he),if_neg (by omega)] at e
        rw[u,v,←e];exact⟨rfl,rfl⟩
      · rename_i i hi hlt he hne hll
        have e:avP ls i=tab (avG ls i 0) (avN ls):=by
          rw[zng];unfold avP;rw[if_neg (by omega)];rfl
        refine zal.mk ?_
        refine Exists.intro 0 ?_
        refine And.intro (Leaf.mk ?_) ?_
        · repeat' first|exact True.intro|refine And.intro ?_ ?_
          all_goals try ((change _=_<;>try dsimp only)<;>try with_reducible rfl)
          all_goals try omega
          all_goals (first|exact e|exact congrArg List.length e|rfl)
        exact Nat.zero_le _
      · rename_i i hi hlt he hne hll k hk hlk
        have hp:=zbk (ls:=ls) (i:=i) (by omega)
        have hl:=zcn (show lE (ls.getD i [])=0 from he)
        have hb:=(zcV (show lE (ls.getD i [])=0 from he)).2.1
        have hll:((lP (ls.getD i [])).length:Int)=((avP ls i).length:Int):=hll
        have hlk:(k:Int)<((lP (ls.getD i [])).length:Int):=hlk
        omega
      · rename_i i hi hlt he hne hll k hk hlk
        have hp:=zbk (ls:=ls) (i:=i) (by omega)
        have hl:=zcn (show lE (ls.getD i [])=0 from he)
        have hb:=(zcV (show lE (ls.getD i [])=0 from he)).2.1
        have hll:((lP (ls.getD i [])).length:Int)=((avP ls i).length:Int):=hll
        have hlk:(k:Int)<((lP (ls.getD i [])).length:Int):=hlk
        omega
      · rename_i i hi hlt he hne hll k hk hlk
        have b1:=(zkO (B:=600000000) (n:=avN ls) (by decide) (fun j=>zpY (ls:=ls) (i:=i) (k:=k) (by omega) j)) k
        have b2:=zpC (ls.getD i []) k
        exact⟨zjM b1.1 (by decide),zjM b1.2 (by decide),zjM b2.1 (by decide),zjM b2.2 (by decide)⟩
      · rename_i i hi hlt he hne hll k hk hlk
        have hp:=zbk (ls:=ls) (i:=i) (by omega)
        have hl:=zcn (show lE (ls.getD i [])=0 from he)
        have hb:=(zcV (show lE (ls.getD i [])=0 from he)).2.1
        have hll:((lP (ls.getD i [])).length:Int)=((avP ls i).length:Int):=hll
        have hlk:(k:Int)<((lP (ls.getD i [])).length:Int):=hlk
        omega
      · rename_i i hi hlt he hne hll k hk hlk
        have hp:=zbk (ls:=ls) (i:=i) (by omega)
        have hl:=zcn (show lE (ls.getD i [])=0 from he)
        have hb:=(zcV (show lE (ls.getD i [])=0 from he)).2.1
        have hll:((lP (ls.getD i [])).length:Int)=((avP ls i).length:Int):=hll
        have hlk:(k:Int)<((lP (ls.getD i [])).length:Int):=hlk
        omega
      · rename_i i hi hlt he hne hll k hk hlk
        have hp:=zbk (ls:=ls) (i:=i) (by omega)
        have hl:=zcn (show lE (ls.getD i [])=0 from he)
        have hb:=(zcV (show lE (ls.getD i [])=0 from he)).2.1
        have hll:((lP (ls.getD i [])).length:Int)=((avP ls i).length:Int):=hll
        have hlk:(k:Int)<((lP (ls.getD i [])).length:Int):=hlk
        omega
      · rename_i i hi hlt he hne hll k hk hlk
        have hp:=zbk (ls:=ls) (i:=i) (by omega)
        have hl:=zcn (show lE (ls.getD i [])=0 from he)
        have hb:=(zcV (show lE (ls.getD i [])=0 from he)).2.1
        have hll:((lP (ls.getD i [])).length:Int)=((avP ls i).length:Int):=hll
        have hlk:(k:Int)<((lP (ls.getD i [])).length:Int):=hlk
        have e:=zoz (ls:=ls) (i:=i) (k:=k) (n:=avN ls) (by omega)
        refine zal.mk ?_
        refine Exists.intro (k+1) ?_
        refine And.intro (Leaf.mk ?_) ?_
        · repeat' first|exact True.intro|refine And.intro ?_ ?_
          all_goals try ((change _=_<;>try dsimp only)<;>try with_reducible rfl)
          all_goals try omega
          all_goals (first|exact e|exact (zae _ _).trans (zae _ _).symm|rfl)
        exact⟨by show k+1≤avN ls;omega,by show avN ls - (k+1)<avN ls - k;omega⟩
      · rename_i i hi hlt he hne hll k hk hge
        have hp:=zbk (ls:=ls) (i:=i) (by omega)
        have hl:=zcn (show lE (ls.getD i [])=0 from he)
        have hb:=(zcV (show lE (ls.getD i [])=0 from he)).2.1
        have hll:((lP (ls.getD i [])).length:Int)=((avP ls i).length:Int):=hll
        have hge:((lP (ls.getD i [])).length:Int)≤(k:Int):=hge
        have e:tab (avG ls i k) (avN ls)=avP ls (i+1):=by
          rw[show k=avN ls by omega,zoA];unfold avP;rw[if_neg (by omega)];rfl
        refine zal.mk ?_
        refine Exists.intro (i+1) ?_
        refine And.intro (Leaf.mk ?_) ?_
        · repeat' first|exact True.intro|refine And.intro ?_ ?_
          all_goals try ((change _=_<;>try dsimp only)<;>try with_reducible rfl)
          all_goals try omega
          all_goals (first|exact e|exact congrArg List.length e|rfl)
        exact⟨ziK hi (show i<ls.length by omega) he (show (ls.getD i []).length=avN ls by omega),by show ls.length - (i+1)<ls.length - i;omega⟩
      · rename_i c hc hge
        have hcl:c=ls.length:=by have:=hc.1;omega
        have e:avP ls c=tab (avH ls 0) (avN ls):=by
          rw[znf,hcl];unfold avP;rw[if_neg (by omega)];rfl
        refine zal.mk ?_
        refine Exists.intro 0 ?_
        refine And.intro (Leaf.mk ?_) ?_
        · repeat' first|exact True.intro|refine And.intro ?_ ?_
          all_goals try ((change _=_<;>try dsimp only)<;>try with_reducible rfl)
          all_goals try omega
          all_goals (first|exact e|exact congrArg List.length e|rfl)
        exact Nat.zero_le _
      · rename_i c hc hge k hk hlk
        have hcl:c=ls.length:=by have:=hc.1;omega
        have hp:=zbk (ls:=ls) (i:=c) (by omega)
        have hb:=(zcV (hc.2.2 0 (by omega)).1).2.1
        have hb:avN ls≤1024:=hb
        omega
      · rename_i c hc hge k hk hlk
        have b1:=(zkO (B:=1300000000) (n:=avN ls) (by decide) (fun j=>znJ (ls:=ls) (k:=k) (by omega) j)) k
        exact⟨⟨Int.le_trans (by decide) b1.1.1,Int.le_trans b1.1.2 (by decide)⟩,(show (1:Int)≤(ls.length:Int) by omega),(show (ls.length:Int)≤1000000 by omega)⟩
      · rename_i c hc hge k hk hlk
        have b1:=(zkO (B:=1300000000) (n:=avN ls) (by decide) (fun j=>znJ (ls:=ls) (k:=k) (by omega) j)) k
        exact⟨⟨Int.le_trans (by decide) b1.2.1,Int.le_trans b1.2.2 (by decide)⟩,(show (1:Int)≤(ls.length:Int) by omega),(show (ls.length:Int)≤1000000 by omega)⟩
      · rename_i c hc hge k hk hlk
        have hcl:c=ls.length:=by have:=hc.1;omega
        have hp:=zbk (ls:=ls) (i:=c) (by omega)
        have hb:=(zcV (hc.2.2 0 (by omega)).1).2.1
        have hb:avN ls≤1024:=hb
        omega
      · rename_i c hc hge k hk hlk
        have hcl:c=ls.length:=by have:=hc.1;omega
        have hp:=zbk (ls:=ls) (i:=c) (by omega)
        have hb:=(zcV (hc.2.2 0 (by omega)).1).2.1
        have hb:avN ls≤1024:=hb
        omega
      · rename_i c hc hge k hk hlk
        have hcl:c=ls.length:=by have:=hc.1;omega
        have hp:=zbk (ls:=ls) (i:=c) (by omega)
        have hb:=(zcV (hc.2.2 0 (by omega)).1).2.1
        have hb:avN ls≤1024:=hb
        omega
      · rename_i c hc hge k hk hlk
        have hcl:c=ls.length:=by have:=hc.1;omega
        have hp:=zbk (ls:=ls) (i:=c) (by omega)
        have hb:=(zcV (hc.2.2 0 (by omega)).1).2.1
        have hb:avN ls≤1024:=hb
        have hlk:(k:Int)<((avP ls c).length:Int):=hlk
        have e:=zox (ls:=ls) (k:=k) (n:=avN ls) (by omega)
        refine zal.mk ?_
        refine Exists.intro (k+1) ?_
        refine And.intro (Leaf.mk ?_) ?_
        · repeat' first|exact True.intro|refine And.intro ?_ ?_
          all_goals try ((change _=_<;>try dsimp only)<;>try with_reducible rfl)
          all_goals try omega
          all_goals (first|exact e|exact (zae _ _).trans (zae _ _).symm|rfl)
        exact⟨by show k+1≤avN ls;omega,by show avN ls - (k+1)<avN ls - k;omega⟩
      · rename_i c hc hge k hk hlk
        have hcl:c=ls.length:=by have:=hc.1;omega
        have hp:=zbk (ls:=ls) (i:=c) (by omega)
        have hb:=(zcV (hc.2.2 0 (by omega)).1).2.1
        have hb:avN ls≤1024:=hb
        exact hp.trans (zae _ _).symm
      · rename_i c hc hge k hk hlk
        have hcl:c=ls.length:=by have:=hc.1;omega
        have hp:=zbk (ls:=ls) (i:=c) (by omega)
        have hb:=(zcV (hc.2.2 0 (by omega)).1).2.1
        have hb:avN ls≤1024:=hb
        omega
      · rename_i c hc hge k hk hlk
        have hcl:c=ls.length:=by have:=hc.1;omega
        have hp:=zbk (ls:=ls) (i:=c) (by omega)
        have hb:=(zcV (hc.2.2 0 (by omega)).1).2.1
        have hb:avN ls≤1024:=hb
        have e:avF (avN ls) ls=0:=by
          rw[←hc.2.1,hcl,List.drop_eq_nil_of_le (Nat.le_refl _)];rfl
        rw[u,v,e,show k=avN ls by omega,zoy];exact⟨rfl,rfl⟩
def smp (n:Int):Bool:=zag n (-32767) 32767
def smpP (p:IP):Bool:=smp p.1&&smp p.2.1
def erF (ps:List IP) (i:Int) (k:Nat):Nat:=floatOfInt .f32 (prtF ps i k)
def erS (ps:List IP) (i:Int):F32L:=tab (erF ps i) ps.length
abbrev EarT:Ty:=.cons zmo (.cons zmo .nil)
def erR (xs:CL) (r:Int):zpZ×zpZ×Unit:=if lE xs=0 then (if 8000≤r∧r≤192000 then (if (lP xs).all smpP=true then ((r,erS (lP xs) 0,()),(r,erS (lP xs) 1,()),()) else ((0,[],()),(0,[],()),())) else ((0,[],()),(0,[],()),())) else ((0,[],()),(0,[],()),())
def erE (xs:CL) (r:Int):Int:=if lE xs=0 then (if 8000≤r∧r≤192000 then (if (lP xs).all smpP=true then 0 else 8) else 2) else lE xs
@[reducible] def zo4:Spec:={pats:=[.dat (.sl C64),.dat I64],res:=[{t:=EarT},{t:=I64}],pre:=fun _=>True,f:=fun x=>(erR x.1 x.2.1,erE x.1 x.2.1,())}
def erK (ps:List IP) (k:Nat):Prop:=∀j,j<k→smpP (ps.getD j (0,0,()))=true
theorem zl4 {ps:List IP} (h:erK ps ps.length):ps.all smpP=true:=by
  rw[List.all_eq_true]
  intro p hp
  obtain⟨j,hj,e⟩:=List.mem_iff_getElem.1 hp
  have:=h j hj
  simp only[List.getD,List.getElem?_eq_getElem hj,Option.getD_some] at this
  rw[←e];exact this
theorem znD {ps:List IP} {k:Nat} (hk:k<ps.length) (h:smpP (ps.getD k (0,0,()))=false):ps.all smpP=false:=by
  rw[List.all_eq_false]
  refine⟨ps[k],List.getElem_mem hk,?_⟩
  simp only[List.getD,List.getElem?_eq_getElem hk,Option.getD_some] at h
  rw[h];exact Bool.false_ne_true
theorem pSm:zgy 32767:=by decide
theorem h55:Ok 14 zo4:=by
  refine mk (ctr:=[(22,zlc),(37,zbB),(36,zct),(35,zjA),(38,zk8)]) ⟨h91d,h86,h85,h84,h118,trivial⟩ (nt:=70) Try.func14 rfl rfl rfl rfl (by kernel_rfl) (by kernel_rfl) (fun x=>[fun _=>{σ:=Nat,pat:=fun k=>[sI 33 k,.cell 8 0 (.d I64 x.2.1),.cell 8 1 (.o 60081 k),.cell 8 2 (.d I64 x.2.1),.cell 8 3 (.o 60083 k),.row 60081 56 F32 (tab (erF (lP x.1) 0) k),.row 60083 56 F32 (tab (erF (lP x.1) 1) k)],inv:=fun k=>k≤List.length (α:=IP) (lP x.1)∧erK (lP x.1) k,meas:=fun k=>List.length (α:=IP) (lP x.1) - k}]) ?_
  rintro⟨(xs:CL),(r:Int),_⟩ _
  have hpl:=zqz
  have hps:=pSm
  by_cases h:lE xs=0
  · have hl:=zcn h
    have hl2:=(zcV h).2.1
    by_cases hr:8000≤r∧r≤192000
    · have hw:zag r 8000 192000=true:=decide_eq_true hr
      have hfi:zdq [0,bif zag r 8000 192000 then 0 else 2]=0:=by rw[hw];rfl
      have u:erE xs r=if (lP xs).all smpP=true then 0 else 8:=by unfold erE;rw[if_pos h,if_pos hr]
      have v:erR xs r=if (lP xs).all smpP=true then ((r,erS (lP xs) 0,()),(r,erS (lP xs) 1,()),()) else ((0,[],()),(0,[],()),()):=by unfold erR;rw[if_pos h,if_pos hr]
      repeat' (intro hzz;(try (rename Two=>hq;cases hq));(try dsimp only at hzz);(try simp only[zac,zab,eqD,inR,big,zaa,Bool.not_true,Bool.not_false,Bool.true_eq,decide_eq_true_eq,decide_eq_false_iff_not,Bool.not_eq_true',Bool.not_eq_false',Bool.and_eq_true,Prod.mk.injEq,and_true,true_and,Int.not_lt,Int.not_le,gt_iff_lt,ge_iff_le] at hzz);(try simp only[zac,zab,eqD,inR,big,zaa,Bool.not_true,Bool.not_false,Bool.true_eq,decide_eq_true_eq,decide_eq_false_iff_not,Bool.not_eq_true',Bool.not_eq_false',Bool.and_eq_true,Prod.mk.injEq,and_true,true_and,Int.not_lt,Int.not_le,gt_iff_lt,ge_iff_le,h,hfi] at hzz);(try (first|contradiction|(exfalso;omega)));(try (revert hzz;intro _)))
      all_goals try (rename Unit=>hq;clear hq)
      all_goals try ((with_reducible refine Held.mk ?_);(with_reducible (first|refine Frz.mk ?_|refine And.intro (Frz.mk ?_) ?_|refine And.intro ?_ (Frz.mk ?_)));repeat' first|exact True.intro|(change _=_;with_reducible rfl)|refine And.intro ?_ ?_|(with_reducible refine Frz.mk ?_))
      all_goals try (refine Held.mk ?_;(try dsimp only at *);(try simp only[zac,zab,eqD,inR,big,zaa,Bool.not_true,Bool.not_false,Bool.true_eq,decide_eq_true_eq,decide_eq_false_iff_not,Bool.not_eq_true',Bool.not_eq_false',Bool.and_eq_true,Prod.mk.injEq,and_true,true_and,Int.not_lt,Int.not_le,gt_iff_lt,ge_iff_le] at *);(try simp only[zac,zab,eqD,inR,big,zaa,Bool.not_true,Bool.not_false,Bool.true_eq,decide_eq_true_eq,decide_eq_false_iff_not,Bool.not_eq_true',Bool.not_eq_false',Bool.and_eq_true,Prod.mk.injEq,and_true,true_and,Int.not_lt,Int.not_le,gt_iff_lt,ge_iff_le,h,hfi] at *))
      all_goals try omega
      ·
        refine zal.mk ?_
        refine Exists.intro 0 ?_
        refine And.intro (Leaf.mk ?_) ?_
        · repeat' first|exact True.intro|refine And.intro ?_ ?_
          all_goals try ((change _=_<;>try dsimp only)<;>try with_reducible rfl)
          all_goals try omega
          all_goals (rfl)
        exact⟨Nat.zero_le _,fun j hj=>by omega⟩
      · rename_i k hk hlt q1 q2
        have hf:=znD (ps:=lP xs) (k:=k) (by omega) (by unfold smpP smp;rw[show zag ((lP xs).getD k (0,0,())).2.1 (-32767) 32767=false from decide_eq_false q2,Bool.and_false])
        rw[u,v,hf];exact⟨⟨⟨rfl,rfl⟩,rfl,rfl⟩,rfl⟩
      · rename_i k hk hlt q1 q2
        rw[zae];exact⟨rfl,by show k+1≤2147483648;omega⟩
      · rename_i k hk hlt q1 q2
        rw[zae];exact⟨rfl,by show k+1≤2147483648;omega⟩
      · rename_i k hk hlt q1 q2
        refine zal.mk ?_
        refine Exists.intro (k+1) ?_
        refine And.intro (Leaf.mk ?_) ?_
        · repeat' first|exact True.intro|refine And.intro ?_ ?_
          all_goals try ((change _=_<;>try dsimp only)<;>try with_reducible rfl)
          all_goals try omega
          all_goals (first|exact zae _ (k+1)|rfl)
        refine⟨⟨by show k+1≤(lP xs).length;omega,fun j hj=>?_⟩,by show (lP xs).length - (k+1)<(lP xs).length - k;omega⟩
        by_cases e:j=k
        · rw[e];unfold smpP smp
          rw[show zag ((lP xs).getD k (0,0,())).1 (-32767) 32767=true from decide_eq_true q1,show zag ((lP xs).getD k (0,0,())).2.1 (-32767) 32767=true from decide_eq_true q2];rfl
        · exact hk.2 j (by omega)
      · rename_i k hk hlt q1
        have hf:=znD (ps:=lP xs) (k:=k) (by omega) (by unfold smpP smp;rw[show zag ((lP xs).getD k (0,0,())).1 (-32767) 32767=false from decide_eq_false q1,Bool.false_and])
        rw[u,v,hf];exact⟨⟨⟨rfl,rfl⟩,rfl,rfl⟩,rfl⟩
      all_goals try exact (zae _ _).symm
      · rename_i k hk hge
        have hf:=zl4 (ps:=lP xs) (by rw[show (lP xs).length=k by omega];exact hk.2)
        rw[u,v,hf,show k=(lP xs).length by omega];exact⟨⟨⟨rfl,rfl⟩,rfl,rfl⟩,rfl⟩
    · have hw:zag r 8000 192000=false:=decide_eq_false hr
      have hfi:zdq [0,bif zag r 8000 192000 then 0 else 2]=2:=by rw[hw];rfl
      have u:erE xs r=2:=by unfold erE;rw[if_pos h,if_neg hr]
      have v:erR xs r=((0,[],()),(0,[],()),()):=by unfold erR;rw[if_pos h,if_neg hr]
      repeat' (intro hzz;(try (rename Two=>hq;cases hq));(try dsimp only at hzz);(try simp only[zac,zab,eqD,inR,big,zaa,Bool.not_true,Bool.not_false,Bool.true_eq,decide_eq_true_eq,decide_eq_false_iff_not,Bool.not_eq_true',Bool.not_eq_false',Bool.and_eq_true,Prod.mk.injEq,and_true,true_and,Int.not_lt,Int.not_le,gt_iff_lt,ge_iff_le] at hzz);(try simp only[zac,zab,eqD,inR,big,zaa,Bool.not_true,Bool.not_false,Bool.true_eq,decide_eq_true_eq,decide_eq_false_iff_not,Bool.not_eq_true',Bool.not_eq_false',Bool.and_eq_true,Prod.mk.injEq,and_true,true_and,Int.not_lt,Int.not_le,gt_iff_lt,ge_iff_le,h,hfi,u,v] at hzz);(try (first|contradiction|(exfalso;omega)));(try (revert hzz;intro _)))
      all_goals try (rename Unit=>hq;clear hq)
      all_goals try ((with_reducible refine Held.mk ?_);(with_reducible (first|refine Frz.mk ?_|refine And.intro (Frz.mk ?_) ?_|refine And.intro ?_ (Frz.mk ?_)));repeat' first|exact True.intro|(change _=_;with_reducible rfl)|refine And.intro ?_ ?_|(with_reducible refine Frz.mk ?_))
      all_goals try (refine Held.mk ?_;(try dsimp only at *);(try simp only[zac,zab,eqD,inR,big,zaa,Bool.not_true,Bool.not_false,Bool.true_eq,decide_eq_true_eq,decide_eq_false_iff_not,Bool.not_eq_true',Bool.not_eq_false',Bool.and_eq_true,Prod.mk.injEq,and_true,true_and,Int.not_lt,Int.not_le,gt_iff_lt,ge_iff_le] at *);(try simp only[zac,zab,eqD,inR,big,zaa,Bool.not_true,Bool.not_false,Bool.true_eq,decide_eq_true_eq,decide_eq_false_iff_not,Bool.not_eq_true',Bool.not_eq_false',Bool.and_eq_true,Prod.mk.injEq,and_true,true_and,Int.not_lt,Int.not_le,gt_iff_lt,ge_iff_le,h,hfi,u,v] at *))
      all_goals try omega
  · have hfi:∀e,zdq [lE xs,e]=lE xs:=fun e=>by simp[zdq,h]
    have u:erE xs r=lE xs:=by unfold erE;rw[if_neg h]
    have v:erR xs r=((0,[],()),(0,[],()),()):=by unfold erR;rw[if_neg h]
    repeat' (intro hzz;(try (rename Two=>hq;cases hq));(try dsimp only at hzz);(try simp only[zac,zab,eqD,inR,big,zaa,Bool.not_true,Bool.not_false,Bool.true_eq,decide_eq_true_eq,decide_eq_false_iff_not,Bool.not_eq_true',Bool.not_eq_false',Bool.and_eq_true,Prod.mk.injEq,and_true,true_and,Int.not_lt,Int.not_le,gt_iff_lt,ge_iff_le] at hzz);(try simp only[zac,zab,eqD,inR,big,zaa,Bool.not_true,Bool.not_false,Bool.true_eq,decide_eq_true_eq,decide_eq_false_iff_not,Bool.not_eq_true',Bool.not_eq_false',Bool.and_eq_true,Prod.mk.injEq,and_true,true_and,Int.not_lt,Int.not_le,gt_iff_lt,ge_iff_le,hfi,u,v] at hzz);(try (first|contradiction|(exfalso;omega)));(try (revert hzz;intro _)))
    all_goals try (rename Unit=>hq;clear hq)
    all_goals try ((with_reducible refine Held.mk ?_);(with_reducible (first|refine Frz.mk ?_|refine And.intro (Frz.mk ?_) ?_|refine And.intro ?_ (Frz.mk ?_)));repeat' first|exact True.intro|(change _=_;with_reducible rfl)|refine And.intro ?_ ?_|(with_reducible refine Frz.mk ?_))
    all_goals try (refine Held.mk ?_;(try dsimp only at *);(try simp only[zac,zab,eqD,inR,big,zaa,Bool.not_true,Bool.not_false,Bool.true_eq,decide_eq_true_eq,decide_eq_false_iff_not,Bool.not_eq_true',Bool.not_eq_false',Bool.and_eq_true,Prod.mk.injEq,and_true,true_and,Int.not_lt,Int.not_le,gt_iff_lt,ge_iff_le] at *);(try simp only[zac,zab,eqD,inR,big,zaa,Bool.not_true,Bool.not_false,Bool.true_eq,decide_eq_true_eq,decide_eq_false_iff_not,Bool.not_eq_true',Bool.not_eq_false',Bool.and_eq_true,Prod.mk.injEq,and_true,true_and,Int.not_lt,Int.not_le,gt_iff_lt,ge_iff_le,hfi,u,v] at *))
    all_goals try omega
theorem g65:Ok 65 zbB:=by
  refine mk (ctr:=[]) trivial (nt:=15) Try.func65 rfl rfl rfl rfl (by kernel_rfl) (by kernel_rfl) (fun _=>[]) ?_
  rintro⟨(n:Int),(lo:Int),(hi:Int),_⟩ _
  repeat' (intro hzz;(try (rename Two=>hq;cases hq));(try dsimp only at hzz);(try simp only[zac,zab,eqD,inR,big,zaa,Bool.not_true,Bool.not_false,Bool.true_eq,decide_eq_true_eq,decide_eq_false_iff_not,Bool.not_eq_true',Bool.not_eq_false',Bool.and_eq_true,Prod.mk.injEq,and_true,true_and,Int.not_lt,Int.not_le,gt_iff_lt,ge_iff_le] at hzz);(try simp only[zac,zab,eqD,inR,big,zaa,Bool.not_true,Bool.not_false,Bool.true_eq,decide_eq_true_eq,decide_eq_false_iff_not,Bool.not_eq_true',Bool.not_eq_false',Bool.and_eq_true,Prod.mk.injEq,and_true,true_and,Int.not_lt,Int.not_le,gt_iff_lt,ge_iff_le,zag] at hzz);(try (revert hzz;intro _)))
  all_goals try (rename Unit=>hq;clear hq)
  all_goals try ((with_reducible refine Held.mk ?_);(with_reducible (first|refine Frz.mk ?_|refine And.intro (Frz.mk ?_) ?_|refine And.intro ?_ (Frz.mk ?_)));repeat' first|exact True.intro|(change _=_;with_reducible rfl)|refine And.intro ?_ ?_|(with_reducible refine Frz.mk ?_))
  all_goals try (refine Held.mk ?_;(try dsimp only at *);(try simp only[zac,zab,eqD,inR,big,zaa,Bool.not_true,Bool.not_false,Bool.true_eq,decide_eq_true_eq,decide_eq_false_iff_not,Bool.not_eq_true',Bool.not_eq_false',Bool.and_eq_true,Prod.mk.injEq,and_true,true_and,Int.not_lt,Int.not_le,gt_iff_lt,ge_iff_le] at *);(try simp only[zac,zab,eqD,inR,big,zaa,Bool.not_true,Bool.not_false,Bool.true_eq,decide_eq_true_eq,decide_eq_false_iff_not,Bool.not_eq_true',Bool.not_eq_false',Bool.and_eq_true,Prod.mk.injEq,and_true,true_and,Int.not_lt,Int.not_le,gt_iff_lt,ge_iff_le,zag] at *))
  all_goals (first|(simp only[decide_eq_decide];omega)|(symm;simp only[decide_eq_false_iff_not];omega)|trace_state)
theorem g64:Ok 64 zct:=by
  refine mk (ctr:=[]) trivial (nt:=7) Try.func64 rfl rfl rfl rfl (by kernel_rfl) (by kernel_rfl) (fun _=>[]) ?_
  rintro⟨(b:Bool),(e:Int),_⟩ _
  repeat' (intro hzz;(try (rename Two=>hq;cases hq));(try dsimp only at hzz);(try simp only[zac,zab,eqD,inR,big,zaa,Bool.not_true,Bool.not_false,Bool.true_eq,decide_eq_true_eq,decide_eq_false_iff_not,Bool.not_eq_true',Bool.not_eq_false',Bool.and_eq_true,Prod.mk.injEq,and_true,true_and,Int.not_lt,Int.not_le,gt_iff_lt,ge_iff_le] at hzz);(try (revert hzz;intro _)))
  all_goals try (rename Unit=>hq;clear hq)
  all_goals try ((with_reducible refine Held.mk ?_);(with_reducible (first|refine Frz.mk ?_|refine And.intro (Frz.mk ?_) ?_|refine And.intro ?_ (Frz.mk ?_)));repeat' first|exact True.intro|(change _=_;with_reducible rfl)|refine And.intro ?_ ?_|(with_reducible refine Frz.mk ?_))
  all_goals try (refine Held.mk ?_;(try dsimp only at *);(try simp only[zac,zab,eqD,inR,big,zaa,Bool.not_true,Bool.not_false,Bool.true_eq,decide_eq_true_eq,decide_eq_false_iff_not,Bool.not_eq_true',Bool.not_eq_false',Bool.and_eq_true,Prod.mk.injEq,and_true,true_and,Int.not_lt,Int.not_le,gt_iff_lt,ge_iff_le] at *))
  all_goals (first|(rename_i h;rw[h];rfl)|trace_state)
def pSz (n:Int):Prop:=-9000000000000000000≤n∧n≤9000000000000000000
def zbA (n:Int):Int:=if -n>n then -n else n
@[reducible] def zk9:Spec:={pats:=[.dat I64],res:=[{t:=I64}],pre:=fun x=>pSz x.1,f:=fun x=>(zbA x.1,())}
theorem g61:Ok 61 zk9:=by
  refine mk (ctr:=[]) trivial (nt:=7) Try.func61 rfl rfl rfl rfl (by kernel_rfl) (by kernel_rfl) (fun _=>[]) ?_
  rintro⟨(n:Int),_⟩ (hp:pSz n)
  unfold pSz at hp
  repeat' (intro hzz;(try (rename Two=>hq;cases hq));(try dsimp only at hzz);(try simp only[zac,zab,eqD,inR,big,zaa,Bool.not_true,Bool.not_false,Bool.true_eq,decide_eq_true_eq,decide_eq_false_iff_not,Bool.not_eq_true',Bool.not_eq_false',Bool.and_eq_true,Prod.mk.injEq,and_true,true_and,Int.not_lt,Int.not_le,gt_iff_lt,ge_iff_le] at hzz);(try (revert hzz;intro _)))
  all_goals try (rename Unit=>hq;clear hq)
  all_goals try ((with_reducible refine Held.mk ?_);(with_reducible (first|refine Frz.mk ?_|refine And.intro (Frz.mk ?_) ?_|refine And.intro ?_ (Frz.mk ?_)));repeat' first|exact True.intro|(change _=_;with_reducible rfl)|refine And.intro ?_ ?_|(with_reducible refine Frz.mk ?_))
  all_goals try (refine Held.mk ?_;(try dsimp only at *);(try simp only[zac,zab,eqD,inR,big,zaa,Bool.not_true,Bool.not_false,Bool.true_eq,decide_eq_true_eq,decide_eq_false_iff_not,Bool.not_eq_true',Bool.not_eq_false',Bool.and_eq_true,Prod.mk.injEq,and_true,true_and,Int.not_lt,Int.not_le,gt_iff_lt,ge_iff_le] at *))
  all_goals try omega
  all_goals first|rfl|(unfold pSz at hp;omega)|trace_state
def zi3 (a b:zak.Den):zak.Den:=(a.1+b.1,a.2.1+b.2.1,())
def zmJ (a b c d:Int):Prop:=(0≤a∧a≤1000000000000000)∧(0≤b∧b≤1000000000000000)∧(0≤c∧c≤1000000000000000)∧(0≤d∧d≤1000000000000000)
@[reducible] def zlf:Spec:={pats:=[.dat zak,.dat zak],res:=[{t:=zak}],pre:=fun x=>zmJ x.1.1 x.1.2.1 x.2.1.1 x.2.1.2.1,f:=fun x=>(zi3 x.1 x.2.1,())}
theorem g63:Ok 63 zlf:=by
  refine mk (ctr:=[]) trivial (nt:=16) Try.func63 rfl rfl rfl rfl (by kernel_rfl) (by kernel_rfl) (fun _=>[]) ?_
  rintro⟨⟨(a:Int),(b:Int),⟨⟩⟩,⟨(c:Int),(d:Int),⟨⟩⟩,⟨⟩⟩ (hp:zmJ a b c d)
  unfold zmJ at hp
  repeat' (intro hzz;(try (rename Two=>hq;cases hq));(try dsimp only at hzz);(try simp only[zac,zab,eqD,inR,big,zaa,Bool.not_true,Bool.not_false,Bool.true_eq,decide_eq_true_eq,decide_eq_false_iff_not,Bool.not_eq_true',Bool.not_eq_false',Bool.and_eq_true,Prod.mk.injEq,and_true,true_and,Int.not_lt,Int.not_le,gt_iff_lt,ge_iff_le] at hzz);(try (revert hzz;intro _)))
  all_goals try (rename Unit=>hq;clear hq)
  all_goals try ((with_reducible refine Held.mk ?_);(with_reducible (first|refine Frz.mk ?_|refine And.intro (Frz.mk ?_) ?_|refine And.intro ?_ (Frz.mk ?_)));repeat' first|exact True.intro|(change _=_;with_reducible rfl)|refine And.intro ?_ ?_|(with_reducible refine Frz.mk ?_))
  all_goals try (refine Held.mk ?_;(try dsimp only at *);(try simp only[zac,zab,eqD,inR,big,zaa,Bool.not_true,Bool.not_false,Bool.true_eq,decide_eq_true_eq,decide_eq_false_iff_not,Bool.not_eq_true',Bool.not_eq_false',Bool.and_eq_true,Prod.mk.injEq,and_true,true_and,Int.not_lt,Int.not_le,gt_iff_lt,ge_iff_le] at *))
  all_goals try omega
  all_goals first|exact⟨rfl,rfl⟩|omega|trace_state
@[reducible] def zlj:Spec:={pats:=[.dat I64],res:=[{t:=.bool}],pre:=fun _=>True,f:=fun x=>(zag x.1 8000 192000,())}
theorem g71:Ok 71 zlj:=by
  refine mk (ctr:=[(65,zbB)]) ⟨g65,trivial⟩ (nt:=5) Try.func71 rfl rfl rfl rfl (by kernel_rfl) (by kernel_rfl) (fun _=>[]) ?_
  rintro⟨(n:Int),_⟩ _
  repeat' (intro hzz;(try (rename Two=>hq;cases hq));(try dsimp only at hzz);(try simp only[zac,zab,eqD,inR,big,zaa,Bool.not_true,Bool.not_false,Bool.true_eq,decide_eq_true_eq,decide_eq_false_iff_not,Bool.not_eq_true',Bool.not_eq_false',Bool.and_eq_true,Prod.mk.injEq,and_true,true_and,Int.not_lt,Int.not_le,gt_iff_lt,ge_iff_le] at hzz);(try (revert hzz;intro _)))
  all_goals try (rename Unit=>hq;clear hq)
  all_goals try ((with_reducible refine Held.mk ?_);(with_reducible (first|refine Frz.mk ?_|refine And.intro (Frz.mk ?_) ?_|refine And.intro ?_ (Frz.mk ?_)));repeat' first|exact True.intro|(change _=_;with_reducible rfl)|refine And.intro ?_ ?_|(with_reducible refine Frz.mk ?_))
  all_goals try (refine Held.mk ?_;(try dsimp only at *);(try simp only[zac,zab,eqD,inR,big,zaa,Bool.not_true,Bool.not_false,Bool.true_eq,decide_eq_true_eq,decide_eq_false_iff_not,Bool.not_eq_true',Bool.not_eq_false',Bool.and_eq_true,Prod.mk.injEq,and_true,true_and,Int.not_lt,Int.not_le,gt_iff_lt,ge_iff_le] at *))
theorem g70:Ok 70 zjA:=by
  refine mk (ctr:=[]) trivial (nt:=15) Try.func70 rfl rfl rfl rfl (by kernel_rfl) (by kernel_rfl) (fun x=>[fun _=>zfr x.1]) ?_
  rintro⟨(xs:List Int),_⟩ (hp:pLen xs.length)
  repeat' (intro hzz;(try (rename Two=>hq;cases hq));(try dsimp only at hzz);(try simp only[zac,zab,eqD,inR,big,zaa,Bool.not_true,Bool.not_false,Bool.true_eq,decide_eq_true_eq,decide_eq_false_iff_not,Bool.not_eq_true',Bool.not_eq_false',Bool.and_eq_true,Prod.mk.injEq,and_true,true_and,Int.not_lt,Int.not_le,gt_iff_lt,ge_iff_le] at hzz);(try simp only[zac,zab,eqD,inR,big,zaa,Bool.not_true,Bool.not_false,Bool.true_eq,decide_eq_true_eq,decide_eq_false_iff_not,Bool.not_eq_true',Bool.not_eq_false',Bool.and_eq_true,Prod.mk.injEq,and_true,true_and,Int.not_lt,Int.not_le,gt_iff_lt,ge_iff_le,za1] at hzz);(try (revert hzz;intro _)))
  all_goals try (rename Unit=>hq;clear hq)
  all_goals try ((with_reducible refine Held.mk ?_);(with_reducible (first|refine Frz.mk ?_|refine And.intro (Frz.mk ?_) ?_|refine And.intro ?_ (Frz.mk ?_)));repeat' first|exact True.intro|(change _=_;with_reducible rfl)|refine And.intro ?_ ?_|(with_reducible refine Frz.mk ?_))
  all_goals try (refine Held.mk ?_;(try dsimp only at *);(try simp only[zac,zab,eqD,inR,big,zaa,Bool.not_true,Bool.not_false,Bool.true_eq,decide_eq_true_eq,decide_eq_false_iff_not,Bool.not_eq_true',Bool.not_eq_false',Bool.and_eq_true,Prod.mk.injEq,and_true,true_and,Int.not_lt,Int.not_le,gt_iff_lt,ge_iff_le] at *);(try simp only[zac,zab,eqD,inR,big,zaa,Bool.not_true,Bool.not_false,Bool.true_eq,decide_eq_true_eq,decide_eq_false_iff_not,Bool.not_eq_true',Bool.not_eq_false',Bool.and_eq_true,Prod.mk.injEq,and_true,true_and,Int.not_lt,Int.not_le,gt_iff_lt,ge_iff_le,za1] at *))
  ·
    refine zal.mk ?_
    refine Exists.intro (0,()) ?_
    refine And.intro (Leaf.mk ?_) ?_
    · repeat' first|exact True.intro|refine And.intro ?_ ?_
      all_goals try ((change _=_<;>try dsimp only)<;>try with_reducible rfl)
      all_goals try omega
    exact⟨Nat.zero_le _,rfl⟩
  · rename_i s hi hg
    obtain⟨i,u⟩:=s
    dsimp only at hi hg
    exact⟨Int.natCast_nonneg i,hg⟩
  · rename_i s hi hg hg'
    obtain⟨i,u⟩:=s
    dsimp only at hi hg hg'
    try simp only[za1] at hg' ⊢
    have hlt:i<xs.length:=by have:(i:Int)<xs.length:=hg;omega
    have h1:=zc2 hlt
    replace hg':¬xs.getD i 0=0:=by simpa using hg'
    rw[if_neg hg',hi.2] at h1
    exact h1.symm
  · rename_i s hi hg hg'
    obtain⟨i,u⟩:=s
    dsimp only at hi hg hg'
    try simp only[za1] at hg' ⊢
    have:=hp.out
    have:(i:Int)<xs.length:=hg
    have h0:(0:Int)≤(i:Int):=Int.natCast_nonneg i
    omega
  · rename_i s hi hg hg'
    obtain⟨i,u⟩:=s
    dsimp only at hi hg hg'
    try simp only[za1] at hg' ⊢
    all_goals try dsimp only at hg hg'
    all_goals try simp only[zac,zab,eqD,inR,big,zaa,Bool.not_true,Bool.not_false,Bool.true_eq,decide_eq_true_eq,decide_eq_false_iff_not,Bool.not_eq_true',Bool.not_eq_false',Bool.and_eq_true,Prod.mk.injEq,and_true,true_and,Int.not_lt,Int.not_le,gt_iff_lt,ge_iff_le] at hg hg'
    all_goals try simp only[zac,zab,eqD,inR,big,zaa,Bool.not_true,Bool.not_false,Bool.true_eq,decide_eq_true_eq,decide_eq_false_iff_not,Bool.not_eq_true',Bool.not_eq_false',Bool.and_eq_true,Prod.mk.injEq,and_true,true_and,Int.not_lt,Int.not_le,gt_iff_lt,ge_iff_le,za1] at hg hg'
    have hlt:i<xs.length:=by have:(i:Int)<xs.length:=hg;omega
    have h1:=zc2 hlt
    refine zal.mk ?_
    refine Exists.intro (i+1,()) ?_
    refine And.intro (Leaf.mk ?_) ?_
    · repeat' first|exact True.intro|refine And.intro ?_ ?_
      all_goals try ((change _=_<;>try dsimp only)<;>try with_reducible rfl)
      all_goals try omega
    replace hg':xs.getD i 0=0:=by simpa using hg'
    rw[if_pos hg'] at h1
    exact⟨⟨hlt,h1.symm.trans hi.2⟩,by simp only[zfr];omega⟩
  · rename_i s hi hg
    obtain⟨i,u⟩:=s
    dsimp only at hi hg
    have h1:=hi.2
    rw[List.drop_eq_nil_of_le (by have:(xs.length:Int)≤(i:Int):=hg;omega)] at h1
    exact h1
end Go.Eng.Pu
